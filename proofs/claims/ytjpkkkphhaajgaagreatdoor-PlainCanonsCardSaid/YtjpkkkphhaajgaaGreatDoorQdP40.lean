/- a part -/
import Derived.Test.YtjpkkkphhaajgaaGreatDoorQdP39
import Derived.Test.YtjpkkkphhaajgaaGreatDoorQdRfAll
set_option linter.all false
namespace Go.Proofs.YtjpkkkphhaajgaaGreatDoor.wcp
open Go words scn
open shp (Szs prodI InT idxI tupI allI)
def devo (o:Int)(C:List Int):Nat:=(C.filter fun c=>decide (c≠o)).length
theorem devo_cons (o c:Int)(C:List Int):devo o (c::C)=(if c=o then 0 else 1)+devo o C:=by
 unfold devo;by_cases h:c=o
 ·rw[if_pos h,List.filter_cons_of_neg (by simp[h])];omega
 ·rw[if_neg h,List.filter_cons_of_pos (by simp[h])];simp;omega
theorem devo_count (o:Int)(C:List Int):devo o C+C.count o=C.length:=by
 induction C with
 |nil=>rfl
 | cons c C ih =>
   rw[devo_cons,List.count_cons,List.length_cons];by_cases h:c=o
   ·rw[if_pos h,if_pos (by simp[h])];omega
   ·rw[if_neg h,if_neg (by simp[h])];omega
def dev (C:List Int):Nat:=devo (mostL C) C
theorem dev_le (o:Int)(C:List Int):dev C≤devo o C:=by
 have h1:=devo_count o C;have h2:=devo_count (mostL C) C;unfold dev;by_cases ho:o∈C
 ·have hb:=mostL_best (l:=C) (by rintro rfl;cases ho)
  have:=hb.2 o ho;unfold BE at this;omega
 ·have:=List.count_eq_zero_of_not_mem ho
  omega
theorem devo_sum (a b k:Int):∀ (C D:List Int),devo (min (a+b) k) (sumL k C D)≤devo a C+devo b D
 | [],D=>by simp[sumL,devo]
 |c::C,[]=>by simp[sumL,devo]
 | c::C,d::D=>by
   have h:=devo_sum a b k C D;show devo _ (min (c+d) k::sumL k C D)≤_;rw[devo_cons,devo_cons,devo_cons];by_cases hc:c=a
   ·by_cases hd:d=b
    ·rw[if_pos hc,if_pos hd,if_pos (by rw[hc,hd])];omega
    ·rw[if_pos hc,if_neg hd];split<;>omega
   ·rw[if_neg hc];split<;>split<;>omega
theorem dev_sum (k:Int)(C D:List Int):dev (sumL k C D)≤dev C+dev D :=
 Nat.le_trans (dev_le (min (mostL C+mostL D) k) _) (devo_sum _ _ _ _ _)
theorem filter_zip (o:Int):∀ (L:List (List Int)) (C:List Int),((L.zip C).filter fun p=>decide (p.2≠o)).length≤devo o C
 | [],C=>by simp
 |t::L,[]=>by simp
 | t::L,c::C=>by
   have h:=filter_zip o L C;rw[List.zip_cons_cons,devo_cons];by_cases hc:c=o
   ·rw[if_pos hc,List.filter_cons_of_neg (by simp[hc])];omega
   ·rw[if_neg hc,List.filter_cons_of_pos (by simp[hc]),List.length_cons];omega
theorem linesC_le (g:CF):(linesC g).length≤dev g.C:=filter_zip _ _ _
def sumW (a:Nat)(c:Nat→Nat)(l:List (Nat × Nat)):Nat:=l.foldr (fun p n=>a+c p.2*p.1+n) 0
theorem sumW_cons (a:Nat)(c:Nat→Nat)(p:Nat × Nat)(l:List (Nat × Nat)):sumW a c (p::l)=a+c p.2*p.1+sumW a c l:=rfl
theorem sumW_perm (a:Nat)(c:Nat→Nat){l m:List (Nat × Nat)}(h:l.Perm m):sumW a c l=sumW a c m:=by
 induction h with
 |nil=>rfl
 |cons x _ ih=>rw[sumW_cons,sumW_cons,ih]
 |swap x y l=>rw[sumW_cons,sumW_cons,sumW_cons,sumW_cons];omega
 |trans _ _ ih1 ih2=>exact ih1.trans ih2
theorem sumW_sub (a:Nat)(c:Nat→Nat){l m:List (Nat × Nat)}(h:l.Sublist m):sumW a c l≤sumW a c m:=by
 induction h with
 |slnil=>exact Nat.le_refl _
 |cons x _ ih=>rw[sumW_cons];omega
 |cons_cons x _ ih=>rw[sumW_cons,sumW_cons];omega
def wR (x:Raw):Nat × Nat:=(x.lines.length,x.sizes.length)
def wC (g:CF):Nat × Nat:=(dev g.C,g.sizes.length)
theorem lines_w (fs:List Raw):linesOf fs=sumW 0 (fun _=>1) (fs.map wR):=by
 induction fs with
 |nil=>rfl
 | cons x fs ih =>
   rw[List.map_cons,sumW_cons,← ih];show x.lines.length+linesOf fs=0+1*x.lines.length+linesOf fs;omega
theorem add_w (a:Nat)(c:Nat→Nat){zs:List Int}{K:Int}{l:List CF}{g:CF}(h:∀x∈l,GoodC zs K x)(hg:GoodC zs K g):sumW a c ((addC K l g).map wC)≤sumW a c (l.map wC)+(a+c g.sizes.length*dev g.C):=by
 induction l with
 |nil=>show a+c g.sizes.length*dev g.C+0≤0+_;omega
 | cons x l ih =>
   unfold addC;by_cases e:x.scope=g.scope
   ·rw[if_pos e,List.map_cons,List.map_cons,sumW_cons,sumW_cons]
    have hx:=h x (by simp);have hss:g.sizes=x.sizes:=by rw[hg.sizes,hx.sizes,e]
    have h1:=Nat.mul_le_mul_left (c x.sizes.length) (dev_sum K x.C g.C);rw[Nat.mul_add]at h1;show a+c x.sizes.length*dev (sumL K x.C g.C)+_≤a+c x.sizes.length*dev x.C+_+_;rw[hss];omega
   ·rw[if_neg e,List.map_cons,List.map_cons,sumW_cons,sumW_cons]
    have:=ih fun y hy=>h y (by simp[hy])
    omega
theorem own_inj {sc t u:List Int}(hn:sc.Nodup)(ht:t.length=sc.length)(hu:u.length=sc.length)(h:ownT sc (rise sc) t=ownT sc (rise sc) u):t=u:=by
 have h1:=backT_ownT hn ht;have h2:=backT_ownT hn hu
 apply List.ext_getElem?
 intro i;by_cases hi:i<sc.length
 ·have hr:i<(rise sc).length:=by rw[rise_len];exact hi
  have hri:=List.getElem?_eq_getElem hr;have hm:(rise sc)[i]∈sc:=rise_mem.1 (List.getElem_mem hr);obtain⟨j,hj⟩:=List.getElem?_of_mem hm;have hix:(rise sc).idxOf (rise sc)[i]=i:=idx_at (rise_nodup hn) hri;have e1:(ownT sc (rise sc) t)[j]?=some (t.getD i 0):=by unfold ownT;rw[List.getElem?_map,hj];show some (t.getD ((rise sc).idxOf (rise sc)[i]) 0)=_;rw[hix]
  have e2:(ownT sc (rise sc) u)[j]?=some (u.getD i 0):=by unfold ownT;rw[List.getElem?_map,hj];show some (u.getD ((rise sc).idxOf (rise sc)[i]) 0)=_;rw[hix]
  rw[h,e2]at e1;injection e1 with e1
  rw[List.getD_eq_getElem?_getD,List.getD_eq_getElem?_getD,List.getElem?_eq_getElem (by omega),List.getElem?_eq_getElem (by omega)]at e1;rw[List.getElem?_eq_getElem (by omega),List.getElem?_eq_getElem (by omega)];exact congrArg some e1.symm
 ·rw[List.getElem?_eq_none (by omega),List.getElem?_eq_none (by omega)]
theorem turn_dev {zs:List Int}{K:Int}{x:Raw}(h1:okF x K)(h2:FitF zs x)(h3:great x.sizes=false):dev (turnF zs K x).C≤x.lines.length:=by
 refine Nat.le_trans (dev_le (min x.other K) _) ?_;have hg:=turn_good h1 h2 h3
 have hlen:∀t∈allI (szOf zs (rise x.scope)),t.length=x.scope.length:=fun t ht=>by
  have:=((mem_all fun z hz=>(hg.szs.2 z hz).1).1 ht).1;rw[this];show (szOf zs (rise x.scope)).length=_;rw[szOf_len,rise_len]
 have hnd:=all_nodup hg.szs;show ((((allI (szOf zs (rise x.scope))).map fun t=>(tpOf x K x.lines).get (ownT x.scope (rise x.scope) t))).filter fun c=>decide (c≠min x.other K)).length≤_;rw[List.filter_map,List.length_map]
 have hn2:(((allI (szOf zs (rise x.scope))).filter ((fun c=>decide (c≠min x.other K)) ∘ fun t=>(tpOf x K x.lines).get (ownT x.scope (rise x.scope) t))).map fun t=>ownT x.scope (rise x.scope) t).Nodup:=by
  rw[List.Nodup,List.pairwise_map];refine (List.Pairwise.and_mem.1 (hnd.filter _)).imp fun {a b} hab=>?_
  intro e;exact hab.2.2 (own_inj h2.2.1 (hlen a (List.mem_filter.1 hab.1).1) (hlen b (List.mem_filter.1 hab.2.1).1) e)
 have hs:(((allI (szOf zs (rise x.scope))).filter ((fun c=>decide (c≠min x.other K)) ∘ fun t=>(tpOf x K x.lines).get (ownT x.scope (rise x.scope) t))).map fun t=>ownT x.scope (rise x.scope) t) ⊆ x.lines.map (·.1):=fun u hu=>by
  obtain⟨t,ht,rfl⟩:=List.mem_map.1 hu;have h4:=(List.mem_filter.1 ht).2;refine told_mem (r:=x) (K:=K) _ x.lines rfl _ ?_;have h5:(tpOf x K x.lines).get (ownT x.scope (rise x.scope) t)≠min x.other K:=by simpa using h4
  unfold TpH.get at h5
  cases hc:(tpOf x K x.lines).f (ownT x.scope (rise x.scope) t) with
  |none=>rw[hc]at h5;exact absurd (tpOf_same x K x.lines).2.2 h5
  |some c=>rfl
 have:=hn2.length_le_of_subset hs
 rwa [List.length_map,List.length_map]at this
theorem joined_w (a:Nat)(c:Nat→Nat){zs:List Int}{K:Int}{fs:List Raw}(h:GoodFs zs K fs):sumW a c ((joined zs K fs).map wC)≤sumW a c (fs.map wR):=by
 have:∀ (l:List CF),(∀g∈l,GoodC zs K g)→sumW a c ((fs.foldl (fun l x=>addC K l (turnF zs K x)) l).map wC)≤sumW a c (l.map wC)+sumW a c (fs.map wR):=by
  induction fs with
  |nil=>intro l hl;show sumW a c (l.map wC)≤sumW a c (l.map wC)+0;omega
  | cons x fs ih =>
    intro l hl;obtain⟨h1,h2,h3⟩:=h x (by simp);have hg:=turn_good h1 h2 h3;have e1:=ih (fun y hy=>h y (by simp[hy])) _ (addC_good hl hg);have e2:=add_w a c hl hg;have e3:=Nat.mul_le_mul_left (c x.sizes.length) (turn_dev h1 h2 h3)
    have e4:(turnF zs K x).sizes.length=x.sizes.length:=by
     show (szOf zs (rise x.scope)).length=_;rw[szOf_len,rise_len,fit_sz h2,szOf_len]
    rw[e4]at e2;rw[List.foldl_cons,List.map_cons,sumW_cons];show _≤_+(a+c x.sizes.length*x.lines.length+_);omega
 have:=this [] fun g hg=>by cases hg
 have e:sumW a c (([]:List CF).map wC)=0:=rfl;unfold joined;omega
theorem canon_w (a:Nat)(c:Nat→Nat){zs:List Int}{K:Int}{fs:List Raw}(h:GoodFs zs K fs):sumW a c (((canonL zs K fs).map rawC).map wR)≤sumW a c (fs.map wR):=by
 have h1:sumW a c ((canonL zs K fs).map wC)≤sumW a c (fs.map wR):=by
  rw[sumW_perm a c ((canonL_perm zs K fs).map wC)];exact Nat.le_trans (sumW_sub a c ((List.filter_sublist).map wC)) (joined_w a c h)
 refine Nat.le_trans ?_ h1;generalize canonL zs K fs=l
 induction l with
 |nil=>exact Nat.le_refl _
 | cons g l ih =>
   rw[List.map_cons,List.map_cons,List.map_cons,sumW_cons,sumW_cons];have:=Nat.mul_le_mul_left (c g.sizes.length) (linesC_le g);show a+c g.sizes.length*(linesC g).length+_≤a+c g.sizes.length*dev g.C+_;omega
theorem GoodC.okF {zs:List Int}{K:Int}{g:CF}(h:GoodC zs K g)(h1:1≤K)(h2:K≤2147483648):okF (rawC g) K:=by
 have hm:=most_in h;unfold inB at hm;rw[decide_eq_true_eq]at hm;refine⟨h.szs.1,h.szs.2,h1,h2,hm.2.1,fun l hl=>?_,?_,?_⟩
 ·obtain⟨a,b⟩:=lines_mem.1 (show l∈linesC g from hl)
  have hz:=List.of_mem_zip a;refine⟨(mem_all fun z hz=>(h.szs.2 z hz).1).1 hz.1,?_⟩;have:=tab_in h l.2 hz.2;unfold inB at this;rw[decide_eq_true_eq]at this;exact this.2.1
 ·show (linesC g).length≤100000
  obtain⟨f,e,-⟩:=h.tab;have h3:=tabF_len h.szs f;rw[← e]at h3;have h4:=h.prod;have h5:=linesC_le g;have h6:=devo_count (mostL g.C) g.C;unfold dev at h5;omega
 ·show g.scope.length≤6
  have:=h.szs.1;rw[h.sizes,szOf_len]at this;exact this
theorem GoodC.fit {zs:List Int}{K:Int}{g:CF}(h:GoodC zs K g):FitF zs (rawC g) :=
 ⟨h.vars,h.rise.imp fun h=>by omega,h.sizes⟩
theorem GoodC.small {zs:List Int}{K:Int}{g:CF}(h:GoodC zs K g):great (rawC g).sizes=false:=by
 show great g.sizes=false;rw[great_prod h.szs.2,decide_eq_false_iff_not];have:=h.prod;omega
theorem canon_ok {f:Fil}(h:OkFile f):OkFile (canonF f) where
 name:=h.name
 nlen:=h.nlen
 k1:=h.k1
 k2:=h.k2
 s0:=h.s0
 s1:=h.s1
 s2:=h.s2
 n:=by
  show ((canonL f.sizes f.k f.funs).map rawC).length≤_;rw[List.length_map];exact Nat.le_trans (canonL_len _ _ _) h.n
 fs:=fun x hx=>by
  obtain⟨g,hg,rfl⟩:=List.mem_map.1 (show x∈(canonL f.sizes f.k f.funs).map rawC from hx);have hgg:=(canonL_p (K:=f.k) h.fs).good g hg;exact⟨hgg.okF h.k1 h.k2,hgg.fit,hgg.small⟩
theorem canon_lines {f:Fil}(h:OkFile f):linesOf (canonF f).funs≤linesOf f.funs:=by
 rw[lines_w,lines_w];exact canon_w _ _ h.fs
def costR (K:Int)(x:Raw)(t:List Int):Int:=(tpOf x K x.lines).get (ownT x.scope (rise x.scope) t)
def sumS (K:Int)(s:List Int)(t:List Int):List Raw→Int
 | []=>0
 |x::fs=>(if rise x.scope=s then costR K x t else 0)+sumS K s t fs
theorem sumS_cons (K:Int)(s t:List Int)(x:Raw)(fs:List Raw):sumS K s t (x::fs)=(if rise x.scope=s then costR K x t else 0)+sumS K s t fs:=rfl
theorem sumS_append (K:Int)(s t:List Int)(fs gs:List Raw):sumS K s t (fs++gs)=sumS K s t fs+sumS K s t gs:=by
 induction fs with
 |nil=>simp[sumS]
 |cons x fs ih=>rw[List.cons_append,sumS_cons,sumS_cons,ih];omega
theorem sumS_none {K:Int}{s t:List Int}:∀ {fs:List Raw},(∀x∈fs,rise x.scope≠s)→sumS K s t fs=0
 | [],_=>rfl
 | x::fs,h=>by
   rw[sumS_cons,if_neg (h x (by simp)),sumS_none fun y hy=>h y (by simp[hy])];rfl
theorem cost_bd {x:Raw}{K:Int}(h:okF x K)(t:List Int):0≤costR K x t∧costR K x t≤K:=by
 have:=get_inB h (ownT x.scope (rise x.scope) t);unfold inB at this;rw[decide_eq_true_eq]at this;exact this.2
theorem sumS_nn {zs:List Int}{K:Int}{s t:List Int}:∀ {fs:List Raw},GoodFs zs K fs→0≤sumS K s t fs
 | [],_=>Int.le_refl _
 | x::fs,h=>by
   have h1:=sumS_nn (s:=s) (t:=t) (fs:=fs) fun y hy=>h y (by simp[hy])
   have h2:=(cost_bd (h x (by simp)).1 t).1;rw[sumS_cons];split<;>omega
theorem addC_cases {k:Int}{l:List CF}{h g:CF}(ho:OnceC l)(hg:g∈addC k l h):(g∈l∧g.scope≠h.scope)∨(∃y∈l,y.scope=h.scope∧g=⟨y.scope,y.sizes,sumL k y.C h.C⟩)∨(g=h∧∀y∈l,y.scope≠h.scope):=by
 induction l with
 |nil=>unfold addC at hg;exact .inr (.inr ⟨List.mem_singleton.1 hg,fun y hy=>by cases hy⟩)
 | cons a l ih =>
   obtain⟨o1,o2⟩:=List.pairwise_cons.1 ho;unfold addC at hg;by_cases e:a.scope=h.scope
   ·rw[if_pos e]at hg
    rcases List.mem_cons.1 hg with rfl | hg
    ·exact .inr (.inl ⟨a,by simp,e,rfl⟩)
    ·exact .inl ⟨by simp[hg],fun e2=>o1 g hg (e.trans e2.symm)⟩
   ·rw[if_neg e]at hg
    rcases List.mem_cons.1 hg with rfl | hg
    ·exact .inl ⟨by simp,e⟩
    ·rcases ih o2 hg with⟨a1,a2⟩ | ⟨y,a1,a2,a3⟩ | ⟨a1,a2⟩
     ·exact .inl ⟨by simp[a1],a2⟩
     ·exact .inr (.inl ⟨y,by simp[a1],a2,a3⟩)
     ·refine .inr (.inr ⟨a1,fun y hy=>?_⟩)
      rcases List.mem_cons.1 hy with rfl | hy
      ·exact e
      ·exact a2 y hy
theorem addC_has {k:Int}{l:List CF}{h:CF}:(∀y∈l,∃g∈addC k l h,g.scope=y.scope)∧∃g∈addC k l h,g.scope=h.scope:=by
 induction l with
 |nil=>exact⟨fun y hy=>(by cases hy),h,by unfold addC;simp,rfl⟩
 | cons a l ih =>
   obtain⟨i1,g,i2,i3⟩:=ih;unfold addC;by_cases e:a.scope=h.scope
   ·rw[if_pos e]
    refine⟨fun y hy=>?_,⟨a.scope,a.sizes,sumL k a.C h.C⟩,by simp,e⟩;rcases List.mem_cons.1 hy with rfl | hy
    ·exact⟨⟨y.scope,y.sizes,sumL k y.C h.C⟩,by simp,rfl⟩
    ·exact⟨y,by simp[hy],rfl⟩
   ·rw[if_neg e]
    refine⟨fun y hy=>?_,g,by simp[i2],i3⟩;rcases List.mem_cons.1 hy with rfl | hy
    ·exact⟨y,by simp,rfl⟩
    ·obtain⟨g',j1,j2⟩:=i1 y hy
     exact⟨g',by simp[j1],j2⟩
def IsJ (zs:List Int)(K:Int)(fs:List Raw)(g:CF):Prop:=g.sizes=szOf zs g.scope∧g.C=tabF g.sizes (fun t=>min (sumS K g.scope t fs) K)∧∃x∈fs,rise x.scope=g.scope
theorem tab_cong {zs:List Int}{f h:List Int→Int}(e:∀t,f t=h t):tabF zs f=tabF zs h:=by rw[show f=h from funext e]
theorem joined_is {zs:List Int}{K:Int}:∀ (n:Nat) (fs:List Raw),fs.length=n→GoodFs zs K fs→(∀g∈joined zs K fs,IsJ zs K fs g)∧∀x∈fs,∃g∈joined zs K fs,g.scope=rise x.scope:=by
 intro n
 induction n with
 | zero =>
   intro fs hl _;obtain rfl:=List.length_eq_zero_iff.1 hl
   exact⟨fun g hg=>(by cases hg),fun x hx=>(by cases hx)⟩
 | succ n ih =>
   intro fs hl hg;obtain⟨ms,x,rfl⟩:∃ms l,fs=ms ++ [l]:=⟨fs.dropLast,fs.getLast (by rintro rfl;cases hl),(List.dropLast_concat_getLast _).symm⟩;have hml:ms.length=n:=by simp at hl;exact hl
   have hgm:GoodFs zs K ms:=fun y hy=>hg y (List.mem_append_left _ hy)
   obtain⟨i1,i2⟩:=ih ms hml hgm;obtain⟨x1,x2,x3⟩:=hg x (by simp);rw[joined_snoc];have ho:=joined_once zs K ms;have one:∀s t,sumS K s t [x]=if rise x.scope=s then costR K x t else 0:=fun s t=>by rw[sumS_cons];show _+0=_;omega
   refine⟨fun g hgm'=>?_,fun y hy=>?_⟩
   ·rcases addC_cases ho hgm' with⟨a1,a2⟩ | ⟨y,a1,a2,rfl⟩ | ⟨rfl,a2⟩
    ·obtain⟨j1,j2,z,j3,j4⟩:=i1 g a1
     refine⟨j1,?_,z,List.mem_append_left _ j3,j4⟩;rw[j2];refine tab_cong fun t=>?_
     rw[sumS_append,one,if_neg (fun e=>a2 e.symm),Int.add_zero]
    ·obtain⟨j1,j2,z,j3,j4⟩:=i1 y a1
     refine⟨j1,?_,x,by simp,a2.symm⟩;show sumL K y.C (turnF zs K x).C=_
     have e1:(turnF zs K x).C=tabF y.sizes (costR K x):=by
      rw[j1,a2];rfl
     rw[j2,e1,sum_tab];refine tab_cong fun t=>?_
     have hb:=cost_bd x1 t;have hn:=sumS_nn (s:=y.scope) (t:=t) hgm;show min (min (sumS K y.scope t ms) K+costR K x t) K=min (sumS K y.scope t (ms ++ [x])) K;rw[sumS_append,one,if_pos (show rise x.scope=y.scope from a2.symm)];omega
    ·refine⟨rfl,?_,x,by simp,rfl⟩
     show tabF _ (costR K x)=_;refine tab_cong fun t=>?_
     have hb:=cost_bd x1 t;show costR K x t=min (sumS K (rise x.scope) t (ms ++ [x])) K;rw[sumS_append,one,if_pos rfl,sumS_none fun z hz e=>?_]
     ·omega
     ·obtain⟨g,b1,b2⟩:=i2 z hz
      exact a2 g b1 (b2.trans e)
   ·obtain⟨h1,h2⟩:=addC_has (k:=K) (l:=joined zs K ms) (h:=turnF zs K x)
    rcases List.mem_append.1 hy with hy | hy
    ·obtain⟨g,b1,b2⟩:=i2 y hy
     obtain⟨g',c1,c2⟩:=h1 g b1;exact⟨g',c1,c2.trans b2⟩
    ·rw[List.mem_singleton.1 hy];exact h2
theorem canonL_uniq {zs:List Int}{K:Int}{l m:List CF}(hl:CanonP zs K l)(hm:CanonP zs K m)(h:l.Perm m):l=m :=
 h.eq_of_pairwise (le:=fun a b=>cmpC a b<0) (fun a b _ _ h1 h2=>by rw[cmpC_neg a b]at h2;omega) hl.ord hm.ord
theorem get_putP (T:TpH)(p:List Int × Int)(u:List Int):(putP T p).get u=if u=p.1 then p.2 else T.get u:=by
 unfold putP putF TpH.get;by_cases h1:p.2=T.other<;>by_cases h2:u=p.1<;>simp[h1,h2]
theorem get_fold (f:List Int→Int):∀ (L:List (List Int)) (T:TpH) (u:List Int),((L.map fun t=>(t,f t)).foldl putP T).get u=if u∈L then f u else T.get u
 | [],T,u=>by simp
 | a::L,T,u=>by
   rw[List.map_cons,List.foldl_cons,get_fold f L,get_putP];by_cases h1:u∈L
   ·rw[if_pos h1,if_pos (by simp[h1])]
   ·rw[if_neg h1]
    by_cases h2:u=a
    ·rw[if_pos h2,if_pos (by simp[h2]),h2]
    ·rw[if_neg h2,if_neg (by simp[h1,h2])]
theorem zip_self_map (f:List Int→Int):∀L:List (List Int),L.zip (L.map f)=L.map fun t=>(t,f t)
 | []=>rfl
 |a::L=>by rw[List.map_cons,List.zip_cons_cons,zip_self_map f L,List.map_cons]
theorem raw_get {g:CF}{zs:List Int}{K:Int}(h:GoodC zs K g){f:List Int→Int}(hf:g.C=tabF g.sizes f){t:List Int}(ht:InS g.sizes t):(tpOf (rawC g) K (linesC g)).get t=f t:=by
 rw[← of_tp h];have e:(allI g.sizes).zip g.C=(allI g.sizes).map fun t=>(t,f t):=by rw[hf];exact zip_self_map f _
 rw[e,get_fold,if_pos ((mem_all fun z hz=>(h.szs.2 z hz).1).2 ht)]
theorem ownT_self {sc t:List Int}(hn:sc.Nodup)(ht:t.length=sc.length):ownT sc sc t=t:=by
 unfold ownT
 apply List.ext_getElem?
 intro i;rw[List.getElem?_map];by_cases hi:i<sc.length
 ·have e:=List.getElem?_eq_getElem hi
  rw[e];show some (t.getD (sc.idxOf sc[i]) 0)=_;rw[idx_at hn e,List.getElem?_eq_getElem (by omega:i<t.length),List.getD_eq_getElem?_getD,List.getElem?_eq_getElem (by omega:i<t.length)];rfl
 ·rw[List.getElem?_eq_none (by omega),List.getElem?_eq_none (by omega)]
  rfl
theorem lt_nodup {l:List Int}(h:l.Pairwise fun a b=>a<b):l.Nodup:=h.imp fun h=>by omega
theorem turn_raw {g:CF}{zs:List Int}{K:Int}(h:GoodC zs K g):turnF zs K (rawC g)=g:=by
 obtain⟨f,hf,-⟩:=h.tab;have e1:rise g.scope=g.scope:=rise_id h.rise;have e2:=h.sizes
 have e3:(allI g.sizes).map (fun t=>(tpOf (rawC g) K (linesC g)).get (ownT g.scope g.scope t))=g.C:=by
  rw[hf];refine tabF_congr (fun z hz=>(h.szs.2 z hz).1) fun t ht=>?_
  rw[ownT_self (lt_nodup h.rise) (by rw[ht.1,e2,szOf_len]),raw_get h hf ht]
 show (⟨rise g.scope,szOf zs (rise g.scope),(allI (szOf zs (rise g.scope))).map fun t=>(tpOf (rawC g) K (linesC g)).get (ownT g.scope (rise g.scope) t)⟩:CF)=g;rw[e1,← e2,e3]
theorem turn_raws {zs:List Int}{K:Int}:∀ {l:List CF},(∀g∈l,GoodC zs K g)→(l.map rawC).map (turnF zs K)=l
 | [],_=>rfl
 |g::l,h=>by rw[List.map_cons,List.map_cons,turn_raw (h g (by simp)),turn_raws fun x hx=>h x (by simp[hx])]
theorem joined_turn (zs:List Int)(K:Int)(fs:List Raw):joined zs K fs=(fs.map (turnF zs K)).foldl (addC K) []:=by
 unfold joined;rw[List.foldl_map]
theorem add_all {K:Int}:∀ (l acc:List CF),OnceC (acc++l)→l.foldl (addC K) acc=acc++l
 | [],acc,_=>by simp
 | g::l,acc,h=>by
   have e:acc++g::l=(acc ++ [g])++l:=by simp
   rw[List.foldl_cons,addC_new fun x hx=>?_,add_all l (acc ++ [g]) (by rw[← e];exact h),e];exact (List.pairwise_append.1 h).2.2 x hx g (by simp)
theorem joined_raws {zs:List Int}{K:Int}{l:List CF}(h:∀g∈l,GoodC zs K g)(ho:OnceC l):joined zs K (l.map rawC)=l:=by
 rw[joined_turn,turn_raws h,add_all l [] (by simpa using ho)];rfl
theorem canonP_once {zs:List Int}{K:Int}{l:List CF}(h:CanonP zs K l):OnceC l:=h.ord.imp fun {a b} hab e=>by rw[cmpC_of_eq e]at hab;omega
theorem canon_twice {f:Fil}(hok:OkFile f):canonF (canonF f)=canonF f:=by
 have hp:=canonL_p (K:=f.k) hok.fs;have hok2:=canon_ok hok;have hg:GoodFs f.sizes f.k ((canonL f.sizes f.k f.funs).map rawC):=hok2.fs;have hp2:=canonL_p hg
 have e:canonL f.sizes f.k ((canonL f.sizes f.k f.funs).map rawC)=canonL f.sizes f.k f.funs:=by
  refine canonL_uniq hp2 hp ?_;have h1:=canonL_perm f.sizes f.k ((canonL f.sizes f.k f.funs).map rawC);rw[joined_raws hp.good (canonP_once hp)]at h1;have h2:(canonL f.sizes f.k f.funs).filter (fun g => !isNothing g)=canonL f.sizes f.k f.funs:=List.filter_eq_self.2 fun g hg=>by rw[hp.some g hg];rfl
  rw[h2]at h1;exact h1
 show (⟨f.name,f.k,f.sizes,(canonL f.sizes f.k ((canonL f.sizes f.k f.funs).map rawC)).map rawC⟩:Fil)=_;rw[e];rfl
def sumI (l:List Int):Int:=l.foldr (fun a s=>a+s) 0
theorem sumI_cons (a:Int)(l:List Int):sumI (a::l)=a+sumI l:=rfl
theorem sumI_nn {l:List Int}(h:∀a∈l,0≤a):0≤sumI l:=by
 induction l with
 |nil=>exact Int.le_refl _
 | cons a l ih =>
   have:=ih fun x hx=>h x (by simp[hx])
   have:=h a (by simp);rw[sumI_cons];omega
theorem sumI_perm {l m:List Int}(h:l.Perm m):sumI l=sumI m:=by
 unfold sumI;exact h.foldr_eq' (fun x _ y _ z=>by omega) 0
theorem cap_sum {α:Type}{K:Int}(v:α→Int):∀ (l:List α) (s:Int),s≤K→(∀x∈l,0≤v x)→l.foldl (fun s x=>min (s+v x) K) s=min (s+sumI (l.map v)) K
 | [],s,h,_=>by show s=min (s+0) K;omega
 | x::l,s,h,h0=>by
   have n1:=h0 x (by simp)
   have n2:=sumI_nn (l:=l.map v) fun a ha=>by
    obtain⟨y,hy,rfl⟩:=List.mem_map.1 ha;exact h0 y (by simp[hy])
   rw[List.foldl_cons,cap_sum v l _ (by omega) fun y hy=>h0 y (by simp[hy]),List.map_cons,sumI_cons];omega
theorem cap_each {K:Int}(hk:0≤K){α:Type}(v:α→Int):∀ (l:List α),(∀x∈l,0≤v x)→min (sumI (l.map fun x=>min (v x) K)) K=min (sumI (l.map v)) K∧0≤sumI (l.map fun x=>min (v x) K)
 | [],_=>⟨rfl,Int.le_refl _⟩
 | x::l,h=>by
   have n1:=h x (by simp)
   have n2:=sumI_nn (l:=l.map v) fun a ha=>by
    obtain⟨y,hy,rfl⟩:=List.mem_map.1 ha;exact h y (by simp[hy])
   obtain⟨i1,i2⟩:=cap_each hk v l fun y hy=>h y (by simp[hy])
   simp only[List.map_cons,sumI_cons];constructor<;>omega
def valOf (K:Int)(xs:List Int)(x:Raw):Int:=(tpOf x K x.lines).get (part x xs)
theorem valTo_sum {f:Fil}{xs:List Int}{l:List Raw}(hk:1≤f.k)(h:∀x∈l,okF x f.k):valTo f xs l=min (sumI (l.map (valOf f.k xs))) f.k:=by
 have:=cap_sum (K:=f.k) (valOf f.k xs) l 0 (by omega) fun x hx=>(get_in (h x hx) _).1
 rw[Int.zero_add]at this;exact this
def pick (xs sc:List Int):List Int:=sc.map fun v=>xs.getD v.toNat 0
theorem own_pick {sc xs:List Int}:ownT sc (rise sc) (pick xs (rise sc))=pick xs sc:=by
 unfold ownT pick;refine List.map_congr_left fun v hv=>?_
 have h:=idx_mem (rise_mem.2 hv);rw[List.getD_eq_getElem?_getD,List.getElem?_map,h];rfl
theorem val_costR {K:Int}{xs:List Int}(x:Raw):costR K x (pick xs (rise x.scope))=valOf K xs x:=by
 unfold costR;rw[own_pick];rfl
theorem sumS_val {K:Int}{xs s:List Int}:∀ (fs:List Raw),sumS K s (pick xs s) fs=sumI (fs.map fun x=>if rise x.scope=s then valOf K xs x else 0)
 | []=>rfl
 | x::fs=>by
   rw[sumS_cons,sumS_val fs,List.map_cons,sumI_cons];by_cases e:rise x.scope=s
   ·rw[if_pos e,if_pos e,← e,val_costR]
   ·rw[if_neg e,if_neg e]
theorem sumI_zero {α:Type}(l:List α):sumI (l.map fun _=>(0:Int))=0:=by
 induction l with
 |nil=>rfl
 |cons a l ih=>rw[List.map_cons,sumI_cons,ih];rfl
theorem sumI_add {α:Type}(u v:α→Int)(l:List α):sumI (l.map fun x=>u x+v x)=sumI (l.map u)+sumI (l.map v):=by
 induction l with
 |nil=>rfl
 |cons a l ih=>simp only[List.map_cons,sumI_cons,ih];omega
theorem sum_none {l:List CF}{s:List Int}{c:Int}(h:∀g∈l,g.scope≠s):sumI (l.map fun g=>if s=g.scope then c else 0)=0:=by
 induction l with
 |nil=>rfl
 |cons a l ih=>rw[List.map_cons,sumI_cons,if_neg (fun e=>h a (by simp) e.symm),ih fun g hg=>h g (by simp[hg])];rfl
theorem sum_one {l:List CF}{s:List Int}{c:Int}(ho:OnceC l)(hs:∃g∈l,g.scope=s):sumI (l.map fun g=>if s=g.scope then c else 0)=c:=by
 induction l with
 |nil=>obtain⟨g,hg,-⟩:=hs;cases hg
 | cons a l ih =>
   obtain⟨o1,o2⟩:=List.pairwise_cons.1 ho;rw[List.map_cons,sumI_cons];by_cases e:s=a.scope
   ·rw[if_pos e,sum_none fun g hg e2=>o1 g hg (e.symm.trans e2.symm)];omega
   ·rw[if_neg e,ih o2]
    ·omega
    ·obtain⟨g,hg,h⟩:=hs
     rcases List.mem_cons.1 hg with rfl | hg
     ·exact absurd h.symm e
     ·exact⟨g,hg,h⟩
theorem swap_sums {K:Int}{xs:List Int}{l:List CF}(ho:OnceC l):∀ (fs:List Raw),(∀x∈fs,∃g∈l,g.scope=rise x.scope)→sumI (l.map fun g=>sumI (fs.map fun x=>if rise x.scope=g.scope then valOf K xs x else 0))=sumI (fs.map (valOf K xs))
 | [],_=>by show sumI (l.map fun _=>(0:Int))=0;exact sumI_zero l
 | x::fs,h=>by
   rw[List.map_cons,sumI_cons,← swap_sums ho fs fun y hy=>h y (by simp[hy])];have e:(fun g:CF=>sumI ((x::fs).map fun x=>if rise x.scope=g.scope then valOf K xs x else 0))=fun g:CF=>(if rise x.scope=g.scope then valOf K xs x else 0)+sumI (fs.map fun x=>if rise x.scope=g.scope then valOf K xs x else 0):=rfl
   rw[e,sumI_add,sum_one ho (h x (by simp))]
theorem sum_filter {α:Type}(u:α→Int)(p:α→Bool){l:List α}(h:∀x∈l,p x=false→u x=0):sumI ((l.filter p).map u)=sumI (l.map u):=by
 induction l with
 |nil=>rfl
 | cons a l ih =>
   have i:=ih fun x hx=>h x (by simp[hx])
   cases hp:p a with
   |true=>rw[List.filter_cons_of_pos hp,List.map_cons,List.map_cons,sumI_cons,sumI_cons,i]
   |false=>rw[List.filter_cons_of_neg (by simp[hp]),List.map_cons,sumI_cons,i,h a (by simp) hp];omega
theorem pick_in {zs xs:List Int}{g:CF}{K:Int}(h:GoodC zs K g)(hx:InS zs xs):InS g.sizes (pick xs g.scope):=by
 have hf:FitF zs (rawC g):=⟨h.vars,lt_nodup h.rise,h.sizes⟩;have:=part_in (f:=⟨[],0,zs,[]⟩) hf hx;exact this
theorem canon_val {f:Fil}(hok:OkFile f){xs:List Int}(hx:InS f.sizes xs):valTo (canonF f) xs (canonF f).funs=valTo f xs f.funs:=by
 have hg:GoodFs f.sizes f.k f.funs:=hok.fs;have hp:=canonL_p hg;have hok2:=canon_ok hok;have hj:=joined_is (zs:=f.sizes) (K:=f.k) _ f.funs rfl hg;have ho:=joined_once f.sizes f.k f.funs;have hjg:=joined_good hg;rw[valTo_sum hok.k1 fun x hx=>(hok.fs x hx).1,valTo_sum hok2.k1 fun x hx=>(hok2.fs x hx).1];show min (sumI (((canonL f.sizes f.k f.funs).map rawC).map (valOf f.k xs))) f.k=_
 have one:∀g∈joined f.sizes f.k f.funs,valOf f.k xs (rawC g)=min (sumS f.k g.scope (pick xs g.scope) f.funs) f.k:=fun g hgm=>by
  obtain⟨-,j2,-⟩:=hj.1 g hgm;exact raw_get (hjg g hgm) j2 (pick_in (hjg g hgm) hx)
 have nothing:∀g∈joined f.sizes f.k f.funs,(!isNothing g)=false→valOf f.k xs (rawC g)=0:=fun g hgm hn=>by
  obtain⟨u,hu,hb⟩:=(hjg g hgm).tab;have hin:=pick_in (hjg g hgm) hx;have e:valOf f.k xs (rawC g)=u (pick xs g.scope):=raw_get (hjg g hgm) hu hin
  have hm:u (pick xs g.scope)∈g.C:=by
   rw[hu];exact List.mem_map_of_mem ((mem_all fun z hz=>((hjg g hgm).szs.2 z hz).1).2 hin)
  have h1:=hb _ hin;have h2:isNothing g=true:=by simpa using hn
  unfold isNothing at h2;have h3:=List.all_eq_true.1 h2 _ hm;rw[decide_eq_true_eq]at h3;unfold inB at h1;rw[decide_eq_true_eq]at h1;rw[e];omega
 rw[List.map_map,sumI_perm ((canonL_perm f.sizes f.k f.funs).map _),sum_filter (valOf f.k xs ∘ rawC) _ nothing]
 have e1:(joined f.sizes f.k f.funs).map (valOf f.k xs ∘ rawC)=(joined f.sizes f.k f.funs).map fun g=>min (sumI (f.funs.map fun x=>if rise x.scope=g.scope then valOf f.k xs x else 0)) f.k :=
  List.map_congr_left fun g hgm=>by
   show valOf f.k xs (rawC g)=_;rw[one g hgm,sumS_val]
 rw[e1,(cap_each (K:=f.k) (by have:=hok.k1;omega) (fun g:CF=>sumI (f.funs.map fun x=>if rise x.scope=g.scope then valOf f.k xs x else 0)) _ fun g _=>sumI_nn fun a ha=>?_).1,swap_sums ho f.funs hj.2];obtain⟨x,hx1,rfl⟩:=List.mem_map.1 ha;split
 ·exact (get_in (hok.fs x hx1).1 _).1
 ·exact Int.le_refl _
end Go.Proofs.YtjpkkkphhaajgaaGreatDoor.wcp
namespace Go.Proofs.YtjpkkkphhaajgaaGreatDoor.wcp
open Go RowKit ChangeShapes WideShapes ChangeAt Maps words scn
def lessL (xs ys:List Int):Bool:=if xs.length=ys.length then decide (cmpL xs ys<0) else decide (xs.length<ys.length)
theorem less_cmp (g h:CF):lessL g.scope h.scope=decide (cmpC g h<0):=by
 unfold lessL cmpC;by_cases e:g.scope.length=h.scope.length
 ·rw[if_pos e,if_neg (by omega),if_neg (by omega)]
 ·rw[if_neg e]
  by_cases h1:g.scope.length<h.scope.length
  ·rw[if_pos h1,decide_eq_true h1];rfl
  ·rw[if_neg h1,if_pos (by omega),decide_eq_false h1];rfl
set_option maxRecDepth 100000 in
set_option maxHeartbeats 4000000 in
theorem less8_any (A C A2 A3 C2 C3:Option Addr)(n m a c n2 a2 n3 a3 m2 c2 m3 c3:Nat)(xs ys:List Int)(w:World)(hn:n≤1000000)(hm:m≤1000000)(hrx:Reads w w.heap.size 1 A n (nums xs))(hry:Reads w w.heap.size 1 C m (nums ys)) :
 Calls Tryz.prog 53 #[.agg #[.slice A n a,.slice A2 n2 a2,.slice A3 n3 a3],.agg #[.slice C m c,.slice C2 m2 c2,.slice C3 m3 c3]] w fun e w'=>e = .returned (.bool (lessL xs ys))∧Below w.heap.size w w':=by
 have hlx:=nums_len hrx;have hly:=nums_len hry;obtain⟨w1,hw1⟩:∃w1,(w.alloc (.cells #[.slice A n a,.slice A2 n2 a2,.slice A3 n3 a3] 52)).alloc (.cells #[.slice C m c,.slice C2 m2 c2,.slice C3 m3 c3] 52)=w1:=⟨_,rfl⟩;have hB:Below w.heap.size w w1:=by rw[← hw1];exact bnew (bone w _) _
 have hx1:Blk w1 w.heap.size 52 #[.slice A n a,.slice A2 n2 a2,.slice A3 n3 a3]:=by rw[← hw1];exact (Blk.new w _ _).alloc _
 have hy1:Blk w1 (w.heap.size+1) 52 #[.slice C m c,.slice C2 m2 c2,.slice C3 m3 c3]:=by
  rw[← hw1];have:=Blk.new (w.alloc (.cells #[.slice A n a,.slice A2 n2 a2,.slice A3 n3 a3] 52)) 52 #[.slice C m c,.slice C2 m2 c2,.slice C3 m3 c3];rw[show (w.alloc (.cells #[.slice A n a,.slice A2 n2 a2,.slice A3 n3 a3] 52)).heap.size=w.heap.size+1 by simp]at this;exact this
 have HX1:=Hd hx1;have HY1:=Hd hy1;have HB:=Hd hB;have q0:w1.cell? ⟨w.heap.size,0,none⟩=some (.slice A n a):=hx1.cell 0;have p0:w1.cell? ⟨w.heap.size+1,0,none⟩=some (.slice C m c):=hy1.cell 0;clear hx1 hy1 hB;by_cases hnm:n=m
 ·subst hnm
  have hb:((n:Int) != (n:Int))=false:=by simp
  go_enter Tryz.func53,Tryz.ntmps53
  go_upto_region 1 with fail
  try rw[hw1]
  clear hw1;go_wp2_with fail;clear q0 p0 hb
  go_loopw [5,23] (fun _ jv wr => ∃j:Nat,jv = .int .i64 j∧j≤n∧Hid (cmpL (xs.drop j) (ys.drop j)=cmpL xs ys)∧Hid (Below w1.heap.size w1 wr)) (fun _ jv _=>n-(intOf jv).toNat)
  case atStart=>exact⟨0,rfl,Nat.zero_le _,by unfold Hid;simp,Below.refl _ _⟩
  case round =>
   obtain⟨j,rfl,hj,HC,HBR⟩:=hrel;have HBW:=Hd (bto HB.out HBR.out);by_cases hlt:j<n
   ·have q0:wr.cell? ⟨w.heap.size,0,none⟩=some (.slice A n a):=(HX1.out.under HBR.out).cell 0
    have p0:wr.cell? ⟨w.heap.size+1,0,none⟩=some (.slice C n c):=(HY1.out.under HBR.out).cell 0;obtain⟨ad,x,rfl,_,hxj,hcx⟩:=(hrx.lift HBW.out).num hlt;obtain⟨ad2,y,rfl,_,hyj,hcy⟩:=(hry.lift HBW.out).num hlt;have i0:(0:Int)≤(j:Int):=Int.natCast_nonneg _;have i1:(j:Int)<(n:Int):=by omega
    have HST:=Hd (cmpL_step hxj hyj);by_cases hxy:x=y
    ·have HN:Hid (cmpL (xs.drop (j+1)) (ys.drop (j+1))=cmpL xs ys):=by unfold Hid;rw[← HC.out,HST.out,if_neg (by omega),if_neg (by omega)]
     have hb:(x != y)=false:=by simp[hxy]
     have hb2:(x==y)=true:=by simp[hxy]
     clear hxj hyj hxy hrx hry;go_wp2_with fail
     go_quiet (fail)
     go_wp2
     go_roundw
     case rel=>exact⟨j+1,by go_num,by omega,HN,below_drewN HBR.out _⟩
     case measure=>simp[intOf];omega
    ·have HL:Hid (lessL xs ys=decide (x<y)):=by
      unfold Hid lessL;rw[if_pos (by omega),← HC.out,HST.out];by_cases h1:x<y
      ·rw[if_pos h1,decide_eq_true h1];rfl
      ·rw[if_neg h1,if_pos (by omega),decide_eq_false h1];rfl
     have hb:(x != y)=true:=by simp[hxy]
     have hb2:(x==y)=false:=by simp[hxy]
     clear hxj hyj hxy hrx hry;go_wp2_with fail
     go_quiet (fail)
     go_wp2
     go_quiet (fail)
     go_wp2
     go_ret;exact⟨ret_bool HL.out.symm,below_drewN (below_drewN HBW.out _) _⟩
   ·have HL:Hid (lessL xs ys=false):=by
     unfold Hid lessL;rw[if_pos (by omega),← HC.out,List.drop_of_length_le (by omega),List.drop_of_length_le (by omega)];rfl
    go_wp2
    go_ret;exact⟨ret_bool HL.out.symm,HBW.out⟩
 ·have hb:((n:Int) != (m:Int))=true:=by simp;omega
  have HL:Hid (lessL xs ys=decide (n<m)):=by
   unfold Hid lessL;rw[if_neg (by omega),hlx,hly]
  go_enter Tryz.func53,Tryz.ntmps53
  go_upto_region 1 with fail
  try rw[hw1]
  clear hw1;go_wp2_with fail;go_ret;exact⟨ret_bool HL.out.symm,HB.out⟩
end Go.Proofs.YtjpkkkphhaajgaaGreatDoor.wcp
namespace Go.Proofs.YtjpkkkphhaajgaaGreatDoor.wcp
open Go RowKit ChangeShapes WideShapes ChangeAt Maps words scn
open shp (Szs prodI InT idxI tupI allI)
abbrev JT:=Value × CF
def jcells (V:List JT):List Value:=V.flatMap fun p=>match p.1 with | .agg cs=>cs.toList | _ => []
def cblk (p:JT):Option Nat:=match p.1 with | .agg #[_,_,c]=>c.ownBlock | _=>none
def GR (w:World)(B:Nat)(p:JT):Prop := ∃v1 v2 v3,p.1 = .agg #[v1,v2,v3]∧RFn w B v1 v2 v3 p.2
def Is3 (V:List JT):Prop := ∀p∈V,∃a b c,p.1 = .agg #[a,b,c]
theorem GR.is3 {w:World}{B:Nat}{V:List JT}(h:∀p∈V,GR w B p):Is3 V:=fun p hp=>by
 obtain⟨a,b,c,e,-⟩:=h p hp;exact⟨a,b,c,e⟩
theorem jc_at:∀ {V:List JT},Is3 V→∀ {i:Nat} {p:JT} {a b c:Value},V[i]?=some p→p.1 = .agg #[a,b,c]→(jcells V)[i*3]?=some a∧(jcells V)[i*3+1]?=some b∧(jcells V)[i*3+2]?=some c
 | [],_,i,p,a,b,c,h,_=>by simp at h
 | q::V,hV,0,p,a,b,c,h,e=>by
   simp at h;subst h;have hc:jcells (q::V)=a::b::c::jcells V:=by unfold jcells;rw[List.flatMap_cons,e];rfl
   rw[hc]
   exact⟨rfl,rfl,rfl⟩
 | q::V,hV,i+1,p,a,b,c,h,e=>by
   obtain⟨x,y,z,hq⟩:=hV q (by simp);have hc:jcells (q::V)=x::y::z::jcells V:=by unfold jcells;rw[List.flatMap_cons,hq];rfl
   have:=jc_at (V:=V) (fun p hp=>hV p (by simp[hp])) (i:=i) (by simpa using h) e;rw[hc,show (i+1)*3=i*3+1+1+1 by omega];exact this
theorem jc_append (V U:List JT):jcells (V++U)=jcells V++jcells U:=by unfold jcells;rw[List.flatMap_append]
theorem jc_one {p:JT}{a b c:Value}(h:p.1 = .agg #[a,b,c]):jcells [p] = [a,b,c]:=by unfold jcells;rw[List.flatMap_cons,h];rfl
theorem jc_len:∀ {V:List JT},Is3 V→(jcells V).length=V.length*3
 | [],_=>rfl
 | q::V,h=>by
   obtain⟨a,b,c,e⟩:=h q (by simp);have h1:jcells (q::V)=jcells [q]++jcells V:=jc_append [q] V;rw[h1,jc_one e,List.length_append,jc_len fun p hp=>h p (by simp[hp]),List.length_cons];simp;omega
theorem jc_take {V:List JT}(h:Is3 V)(i:Nat):jcells (V.take i)=(jcells V).take (i*3):=by
 have e:jcells V=jcells (V.take i)++jcells (V.drop i):=by rw[← jc_append,List.take_append_drop]
 have hl:=jc_len (V:=V.take i) fun p hp=>h p (List.mem_of_mem_take hp)
 by_cases hi:i≤V.length
 ·have hl2:(jcells (V.take i)).length=i*3:=by rw[hl,List.length_take];omega
  rw[e,← hl2,List.take_left]
 ·rw[List.take_of_length_le (l:=V) (by omega),List.take_of_length_le (by rw[jc_len h];omega)]
theorem jc_drop {V:List JT}(h:Is3 V){i:Nat}(hi:i≤V.length):jcells (V.drop i)=(jcells V).drop (i*3):=by
 have e:jcells V=jcells (V.take i)++jcells (V.drop i):=by rw[← jc_append,List.take_append_drop]
 have hl:=jc_len (V:=V.take i) fun p hp=>h p (List.mem_of_mem_take hp)
 have hl2:(jcells (V.take i)).length=i*3:=by rw[hl,List.length_take];omega
 rw[e,← hl2,List.drop_left]
theorem reads_take {w:World}{B s n m:Nat}{A:Option Addr}{xs:List Value}(h:Reads w B s A n xs)(hm:m≤n):Reads w B s A m (xs.take (m*s)):=by
 have hms:m*s≤n*s:=Nat.mul_le_mul_right s hm;refine⟨by rw[List.length_take,h.1];omega,fun h0=>?_⟩;obtain⟨ad,e,hb,hc⟩:=h.2 (by omega);refine⟨ad,e,hb,fun j u hj=>hc j u ?_⟩;rw[List.getElem?_take]at hj;split at hj
 ·exact hj
 ·cases hj
theorem add_at (q k:Nat):(⟨q,0,none⟩:Addr).add k=⟨q,k,none⟩:=by
 unfold Addr.add;split
 ·rename_i h;rw[h]
 ·simp
theorem add_at2 (q o k:Nat):(⟨q,o,none⟩:Addr).add k=⟨q,o+k,none⟩:=by
 unfold Addr.add;split
 ·rename_i h;rw[h];rfl
 ·simp
theorem reads_drop {w:World}{B s n m q:Nat}{xs:List Value}(h:Reads w B s (some ⟨q,0,none⟩) n xs)(hm:m≤n):Reads w B s (some ⟨q,m*s,none⟩) (n-m) (xs.drop (m*s)):=by
 have hms:m*s≤n*s:=Nat.mul_le_mul_right s hm;refine⟨by rw[List.length_drop,h.1,Nat.sub_mul],fun h0=>?_⟩;obtain⟨ad',e,hb,hc⟩:=h.2 (by omega);injection e with e
 subst e;refine⟨⟨q,m*s,none⟩,rfl,hb,fun j u hj=>?_⟩;rw[List.getElem?_drop]at hj;have:=hc _ u hj;rw[add_at]at this;rw[add_at2];exact this
theorem reads_3 {w:World}{t:TypeId}{b:Nat}{x y z:Value}(h:w.heap[b]?=some (.cells #[x,y,z] t (0,0))):Reads w w.heap.size 3 (some ⟨b,0,none⟩) 1 [x,y,z]:=by
 refine⟨rfl,fun _=>⟨⟨b,0,none⟩,rfl,Blk.lt (t:=t) h,fun j u hj=>?_⟩⟩;have hb:Blk w b t #[x,y,z]:=h
 match j,hj with
 |0,hj=>injection hj with hj;subst hj;exact hb.cell 0
 |1,hj=>injection hj with hj;subst hj;exact hb.cell 1
 |2,hj=>injection hj with hj;subst hj;exact hb.cell 2
theorem row3_cells {w:World}{B qs n c i:Nat}{V:List JT}{p:JT}{x y z:Value}(h:w.ownsRow B 52 3 (.slice (some ⟨qs,0,none⟩) n c) n (jcells V))(hn:V.length=n)(hV:Is3 V)(hi:V[i]?=some p)(hp:p.1 = .agg #[x,y,z]) :
 w.cell? ⟨qs,i*3,none⟩=some x∧w.cell? ⟨qs,i*3+1,none⟩=some y∧w.cell? ⟨qs,i*3+2,none⟩=some z:=by
 obtain⟨hl,-⟩:=List.getElem?_eq_some_iff.1 hi;obtain⟨c0,c1,c2⟩:=jc_at hV hi hp;exact⟨(h.cellAt (i*3) (by omega)).trans c0,(h.cellAt (i*3+1) (by omega)).trans c1,(h.cellAt (i*3+2) (by omega)).trans c2⟩
theorem RowI.under {w w':World}{B:Nat}{v:Value}{xs:List Int}(h:RowI w B v xs)(hb:Below w.heap.size w w'):RowI w' B v xs:=⟨h.1,own_under h.2 hb⟩
theorem Row64.under {w w':World}{B:Nat}{v:Value}{xs:List Int}(h:Row64 w B v xs)(hb:Below w.heap.size w w'):Row64 w' B v xs:=⟨h.1,own_under h.2 hb⟩
theorem RFn.under {w w':World}{B:Nat}{v1 v2 v3:Value}{g:CF}(h:RFn w B v1 v2 v3 g)(hb:Below w.heap.size w w'):RFn w' B v1 v2 v3 g:=⟨h.1.under hb,h.2.1.under hb,h.2.2.under hb⟩
theorem RFn.base {w:World}{B B':Nat}{v1 v2 v3:Value}{g:CF}(h:RFn w B v1 v2 v3 g)(hb:B'≤B):RFn w B' v1 v2 v3 g:=⟨⟨h.1.1,own_base h.1.2 hb⟩,⟨h.2.1.1,own_base h.2.1.2 hb⟩,h.2.2.1,own_base h.2.2.2 hb⟩
theorem GR.under {w w':World}{B:Nat}{p:JT}(h:GR w B p)(hb:Below w.heap.size w w'):GR w' B p:=by
 obtain⟨a,b,c,e,h⟩:=h;exact⟨a,b,c,e,h.under hb⟩
theorem GR.off {w w':World}{B:Nat}{S:Nat→Prop}{p:JT}(h:GR w B p)(ht:Tch w w' S)(hS:∀q,S q→∃t cs,Blk w q t cs∧t≠3∧(t=2→cblk p≠some q)):GR w' B p:=by
 obtain⟨a,b,c,e,h1,h2,h3⟩:=h
 have hi:∀ {v:Value} {xs:List Int},RowI w B v xs→RowI w' B v xs:=fun hr=>⟨hr.1,ht.own hr.2 fun q hq hs=>by
  obtain⟨cs,hb⟩:=own_is hr.2 hq;obtain⟨t,cs',hb',hne,-⟩:=hS q hs
  exact Blk.ne_ hb' hb hne rfl⟩
 refine⟨a,b,c,e,hi h1,hi h2,h3.1,ht.own h3.2 fun q hq hs=>?_⟩;obtain⟨cs,hb⟩:=own_is h3.2 hq;obtain⟨t,cs',hb',-,hne⟩:=hS q hs;by_cases htt:t=2
 ·refine hne htt ?_
  unfold cblk;rw[e];exact hq
 ·exact Blk.ne_ hb' hb htt rfl
def updC (K:Int)(g h:CF):CF:=if h.scope=g.scope then ⟨h.scope,h.sizes,sumL K h.C g.C⟩ else h
def hasS (l:List CF)(s:List Int):Bool:=l.any fun h=>decide (h.scope=s)
theorem upd_none {K:Int}{g:CF}:∀ {l:List CF},(∀h∈l,h.scope≠g.scope)→l.map (updC K g)=l
 | [],_=>rfl
 | a::l,h=>by
   rw[List.map_cons,upd_none fun x hx=>h x (by simp[hx])];unfold updC;rw[if_neg (h a (by simp))]
theorem add_upd {K:Int}{g:CF}:∀ {l:List CF},OnceC l→addC K l g=if hasS l g.scope=true then l.map (updC K g) else l ++ [g]
 | [],_=>rfl
 | a::l,h=>by
   obtain⟨h1,h2⟩:=List.pairwise_cons.1 h;unfold addC;by_cases e:a.scope=g.scope
   ·rw[if_pos e,if_pos (by unfold hasS;simp[e]),List.map_cons,upd_none fun x hx he=>h1 x hx (e.trans he.symm)]
    unfold updC;rw[if_pos e]
   ·rw[if_neg e,add_upd h2]
    have e2:hasS (a::l) g.scope=hasS l g.scope:=by unfold hasS;simp[e]
    rw[e2,List.map_cons];have e3:updC K g a=a:=by unfold updC;rw[if_neg e]
    rw[e3];split<;>rfl
def updI (K:Int)(g:CF)(l:List CF)(i:Nat):List CF:=(l.take i).map (updC K g)++l.drop i
theorem updI_step {K:Int}{g h:CF}{l:List CF}{i:Nat}(hi:l[i]?=some h):updI K g l (i+1)=(updI K g l i).set i (updC K g h):=by
 obtain⟨hl,-⟩:=List.getElem?_eq_some_iff.1 hi;have e1:l.take (i+1)=l.take i ++ [h]:=by rw[List.take_add_one,hi];rfl
 have e2:l.drop i=h::l.drop (i+1):=by
  rw[List.drop_eq_getElem_cons hl]
  congr 1
  have:=List.getElem?_eq_getElem hl;rw[hi]at this;injection this with this
  exact this.symm
 have e3:((l.take i).map (updC K g)).length=i:=by rw[List.length_map,List.length_take];omega
 unfold updI;rw[e1,e2,List.map_append,List.append_assoc,List.set_append_right _ _ (by omega),e3,Nat.sub_self];rfl
theorem updI_at {K:Int}{g h:CF}{l:List CF}{i:Nat}(hi:l[i]?=some h):(updI K g l i)[i]?=some h:=by
 obtain⟨hl,-⟩:=List.getElem?_eq_some_iff.1 hi;have e3:((l.take i).map (updC K g)).length=i:=by rw[List.length_map,List.length_take];omega
 unfold updI;rw[List.getElem?_append_right (by omega),e3,Nat.sub_self,List.getElem?_drop];exact hi
theorem hasS_step {l:List CF}{h:CF}{i:Nat}(s:List Int)(hi:l[i]?=some h):hasS (l.take (i+1)) s=(hasS (l.take i) s || decide (h.scope=s)):=by
 unfold hasS;rw[List.take_add_one,hi,Option.toList_some,List.any_append];simp
theorem ins_ord {O:List CF}{g:CF}{i:Nat}(ho:O.Pairwise fun a b=>cmpC a b<0)(hs:∀x∈O,x.scope≠g.scope)(h1:∀x∈O.take i,cmpC x g<0)(h2:∀x,O[i]?=some x→¬ cmpC x g<0) :
 (O.take i++g::O.drop i).Pairwise fun a b=>cmpC a b<0:=by
 have h3:∀x∈O.drop i,cmpC g x<0:=fun x hx=>by
  by_cases hi:i<O.length
  ·rw[List.drop_eq_getElem_cons hi]at hx
   have h4:=h2 _ (List.getElem?_eq_getElem hi);have h5:cmpC (O[i]) g≠0:=fun e=>hs _ (List.getElem_mem hi) (cmpC_eq e)
   have h6:cmpC g (O[i])<0:=by rw[cmpC_neg];omega
   rcases List.mem_cons.1 hx with rfl | hx
   ·exact h6
   ·have h7:(O.drop i).Pairwise fun a b=>cmpC a b<0:=ho.sublist (List.drop_sublist i O)
    rw[List.drop_eq_getElem_cons hi]at h7;have h8:=(List.pairwise_cons.1 h7).1 x hx;have h9:leC g x=true:=leC_trans g (O[i]) x (by unfold leC;rw[decide_eq_true_eq];omega) (by unfold leC;rw[decide_eq_true_eq];omega);unfold leC at h9;rw[decide_eq_true_eq]at h9;have h10:cmpC g x≠0:=fun e=>hs x (List.mem_of_mem_drop (i:=i+1) hx) (cmpC_eq e).symm
    omega
  ·rw[List.drop_of_length_le (by omega)]at hx;cases hx
 refine List.pairwise_append.2 ⟨ho.sublist (List.take_sublist i O),List.pairwise_cons.2 ⟨h3,ho.sublist (List.drop_sublist i O)⟩,fun a ha b hb=>?_⟩;rcases List.mem_cons.1 hb with rfl | hb
 ·exact h1 a ha
 ·have:=List.take_append_drop i O
  rw[← this]at ho;exact (List.pairwise_append.1 ho).2.2 a ha b hb
theorem rcanon_is {zs:List Int}{K:Int}{fs:List Raw}(hg:GoodFs zs K fs){O:List CF}(h1:O.Perm ((joined zs K fs).filter fun g => !isNothing g))(h2:O.Pairwise fun a b=>cmpC a b<0):O=canonL zs K fs:=by
 have hc:=canonL_p hg;have hp:=h1.trans (canonL_perm zs K fs).symm;refine canonL_uniq ⟨fun g hgm=>hc.good g (hp.mem_iff.1 hgm),fun g hgm=>hc.some g (hp.mem_iff.1 hgm),h2⟩ hc hp
def anyP (l:List Int):Bool:=l.any fun c=>decide (0<c)
theorem anyP_not (g:CF):anyP g.C = !isNothing g:=by
 unfold anyP isNothing;rw[List.all_eq_not_any_not,Bool.not_not]
 congr 1
 funext x
 by_cases h:0<x
 ·rw[decide_eq_true h,decide_eq_false (fun h2=>h2 h)];rfl
 ·rw[decide_eq_false h,decide_eq_true h];rfl
theorem anyP_step {l:List Int}{c:Int}{i:Nat}(hi:l[i]?=some c):anyP (l.take (i+1))=(anyP (l.take i) || decide (0<c)):=by
 unfold anyP;rw[List.take_add_one,hi,Option.toList_some,List.any_append];simp
end Go.Proofs.YtjpkkkphhaajgaaGreatDoor.wcp
namespace Go.Proofs.YtjpkkkphhaajgaaGreatDoor.wcp
open Go RowKit ChangeShapes WideShapes ChangeAt Maps words scn
def Bst (l:List Int)(j:Nat)(b:Int)(t:Nat):Prop:=(j=0∧b=0∧t=0)∨(0<j∧b=(l.take j).foldl (mstep l) (l.headD 0)∧t=l.count b)
theorem bst_yes {l:List Int}{j t:Nat}{b c:Int}(h:Bst l j b t)(hc:l[j]?=some c)(hw:t<l.count c∨(l.count c=t∧c<b)):Bst l (j+1) c (l.count c):=by
 refine .inr ⟨by omega,?_,rfl⟩;rw[List.take_add_one,hc,Option.toList_some,List.foldl_append];rcases h with⟨rfl,rfl,rfl⟩ | ⟨h0,rfl,rfl⟩
 ·have hd:l.headD 0=c:=by
   cases l with
   |nil=>cases hc
   |cons a l=>simpa using hc
  rw[hd];show c=mstep l c c;unfold mstep;split<;>rfl
 ·show c=mstep l _ c
  unfold mstep;rw[if_pos];exact hw
theorem bst_no {l:List Int}{j t:Nat}{b c:Int}(h:Bst l j b t)(hc:l[j]?=some c)(hw:¬ (t<l.count c∨(l.count c=t∧c<b))):Bst l (j+1) b t:=by
 rcases h with⟨rfl,rfl,rfl⟩ | ⟨h0,hb,ht⟩
 ·exfalso
  have:=List.count_pos_iff.2 (List.mem_of_getElem? hc);exact hw (.inl this)
 ·refine .inr ⟨by omega,?_,ht⟩
  rw[List.take_add_one,hc,Option.toList_some,List.foldl_append,← hb];show b=mstep l b c;unfold mstep;rw[if_neg];rw[← ht];exact hw
theorem bst_end {l:List Int}{b:Int}{t:Nat}(h:Bst l l.length b t)(hl:l ≠ []):b=mostL l:=by
 rcases h with⟨h,-,-⟩ | ⟨-,h,-⟩
 ·exact absurd (List.length_eq_zero_iff.1 h) hl
 ·rw[List.take_length]at h
  exact h
theorem bst_le {l:List Int}{j:Nat}{b:Int}{t:Nat}(h:Bst l j b t):t≤l.length:=by
 rcases h with⟨-,-,rfl⟩ | ⟨-,-,rfl⟩
 ·exact Nat.zero_le _
 ·exact List.count_le_length
theorem count_take {l:List Int}{i:Nat}{d:Int}(c:Int)(h:l[i]?=some d):(l.take (i+1)).count c=if d=c then (l.take i).count c+1 else (l.take i).count c:=by
 rw[List.take_add_one,h,Option.toList_some,List.count_append];by_cases e:d=c
 ·rw[if_pos e,e];simp
 ·rw[if_neg e];simp[e]
set_option maxRecDepth 100000 in
set_option maxHeartbeats 8000000 in
theorem rmost_any (SA CA:Option Addr)(sn sc n cc:Nat)(k:Int)(l:List Int)(w:World)(hn:n≤4096)(hr:Reads w w.heap.size 1 CA n (nums l))(hl:l ≠ []) :
 Calls Tryz.prog 22 #[.agg #[.slice SA sn sc,.int .i64 k,.slice CA n cc]] w fun e w'=>e = .returned (.int .i64 (mostL l))∧Below w.heap.size w w':=by
 have hln:=nums_len hr;obtain⟨w1,hw1⟩:∃w1,w.alloc (.cells #[.slice SA sn sc,.int .i64 k,.slice CA n cc] 60)=w1:=⟨_,rfl⟩;have hB:Below w.heap.size w w1:=by rw[← hw1];exact bone w _
 have hx1:Blk w1 w.heap.size 60 #[.slice SA sn sc,.int .i64 k,.slice CA n cc]:=by rw[← hw1];exact Blk.new w _ _
 have HX1:=Hd hx1;have HB:=Hd hB;have q0:w1.cell? ⟨w.heap.size,2,none⟩=some (.slice CA n cc):=hx1.cell 2;have HR:=Hd (hr.lift hB);have HL:=Hd hl;have HLN:=Hd hln;clear hx1 hB hr hl hln
 go_enter Tryz.func22,Tryz.ntmps22
 go_upto_region 1 with fail
 try rw[hw1]
 clear hw1;go_wp2_with fail
 go_loopw [3,4,6,7,9,13] (fun bv tv _ _ _ jv wr => ∃ (j t:Nat) (b:Int),jv = .int .i64 j∧bv = .int .i64 b∧tv = .int .i64 t∧j≤n∧Hid (Bst l j b t)∧wr=w1) (fun _ _ _ _ _ jv _=>n-(intOf jv).toNat)
 case atStart=>exact⟨0,0,0,rfl,rfl,rfl,Nat.zero_le _,.inl ⟨rfl,rfl,rfl⟩,rfl⟩
 case round =>
  obtain⟨j,t,b,rfl,rfl,rfl,hj,HS,rfl⟩:=hrel;by_cases hlt:j<n
  ·obtain⟨ad,c,rfl,_,hcj,hcx⟩:=HR.out.num hlt
   have i0:(0:Int)≤(j:Int):=Int.natCast_nonneg _;have i1:(j:Int)<(n:Int):=by omega
   have HCJ:=Hd hcj;have hcl:l.count c≤n:=by have:=List.count_le_length (a:=c) (l:=l);have:=HLN.out;omega
   have htl:t≤n:=by have:=bst_le HS.out;have:=HLN.out;omega
   clear hcj;go_wp2_with fail
   go_loopw [7,9,20] (fun nv _ iv wq => ∃ (i m:Nat),iv = .int .i64 i∧nv = .int .i64 m∧i≤n∧m≤i∧Hid (m=(l.take i).count c)∧wq=wr) (fun _ _ iv _=>n-(intOf iv).toNat)
   case atStart=>exact⟨0,0,rfl,rfl,Nat.zero_le _,Nat.le_refl _,by unfold Hid;simp,rfl⟩
   case round =>
    obtain⟨i,m,rfl,rfl,hi,hmi,HM,rfl⟩:=hrel;by_cases hli:i<n
    ·obtain⟨ad2,d,hadd,_,hdi,hdx⟩:=HR.out.num hli
     injection hadd with hadd
     subst hadd;have i0':(0:Int)≤(i:Int):=Int.natCast_nonneg _;have i1':(i:Int)<(n:Int):=by omega
     have HST:=Hd (count_take c hdi);clear hdi;by_cases hdc:d=c
     ·have HN:Hid (m+1=(l.take (i+1)).count c):=by unfold Hid;rw[HST.out,if_pos hdc,HM.out]
      have hb:(d==c)=true:=by simp[hdc]
      clear hdc;go_wp2_with fail;go_roundw
      case rel=>exact⟨i+1,m+1,by go_num,by go_num,by omega,by omega,HN,trivial⟩
      case measure=>simp[intOf];omega
     ·have HN:Hid (m=(l.take (i+1)).count c):=by unfold Hid;rw[HST.out,if_neg hdc,HM.out]
      have hb:(d==c)=false:=by simp[hdc]
      clear hdc;go_wp2_with fail;go_roundw
      case rel=>exact⟨i+1,m,by go_num,rfl,by omega,by omega,HN,trivial⟩
      case measure=>simp[intOf];omega
    ·obtain rfl:i=n:=by omega
     have hm:m=l.count c:=by rw[HM.out,List.take_of_length_le (by have:=HLN.out;omega)]
     have HMM:=Hd hm;clear hm hcx;by_cases h1:t<m
     ·have HN:Hid (Bst l (j+1) c m):=by unfold Hid;have:=bst_yes HS.out HCJ.out (.inl (by rw[← HMM.out];exact h1));rw[← HMM.out]at this;exact this
      have hb:decide ((t:Int)<(m:Int))=true:=decide_eq_true (by omega);go_wp2_with fail;go_roundw
      case rel=>exact⟨j+1,m,c,by go_num,rfl,rfl,by omega,HN,trivial⟩
      case measure=>simp[intOf];omega
     ·have hb:decide ((t:Int)<(m:Int))=false:=decide_eq_false (by omega)
      by_cases h2:m=t
      ·have hb2:((m:Int)==(t:Int))=true:=by simp[h2]
       by_cases h3:c<b
       ·have HN:Hid (Bst l (j+1) c m):=by unfold Hid;have:=bst_yes HS.out HCJ.out (.inr ⟨by rw[← HMM.out];exact h2,h3⟩);rw[← HMM.out]at this;exact this
        have hb3:decide (c<b)=true:=decide_eq_true h3;go_wp2_with fail;go_roundw
        case rel=>exact⟨j+1,m,c,by go_num,rfl,rfl,by omega,HN,trivial⟩
        case measure=>simp[intOf];omega
       ·have HN:Hid (Bst l (j+1) b t):=bst_no HS.out HCJ.out (by rw[← HMM.out];omega)
        have hb3:decide (c<b)=false:=decide_eq_false h3;go_wp2_with fail;go_roundw
        case rel=>exact⟨j+1,t,b,by go_num,rfl,rfl,by omega,HN,trivial⟩
        case measure=>simp[intOf];omega
      ·have HN:Hid (Bst l (j+1) b t):=bst_no HS.out HCJ.out (by rw[← HMM.out];omega)
       have hb2:((m:Int)==(t:Int))=false:=by simp;omega
       go_wp2_with fail;go_roundw
       case rel=>exact⟨j+1,t,b,by go_num,rfl,rfl,by omega,HN,trivial⟩
       case measure=>simp[intOf];omega
  ·obtain rfl:j=n:=by omega
   have HE:Hid (b=mostL l):=bst_end (t:=t) (by rw[HLN.out];exact HS.out) HL.out;go_wp2_with fail;go_ret;refine⟨?_,HB.out⟩;rw[← HE.out];rfl
end Go.Proofs.YtjpkkkphhaajgaaGreatDoor.wcp
