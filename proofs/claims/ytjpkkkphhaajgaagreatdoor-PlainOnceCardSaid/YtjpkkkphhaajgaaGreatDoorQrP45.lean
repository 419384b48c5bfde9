/- PtNorm, PtLen, Read8W, PtWant. -/
import Derived.Test.YtjpkkkphhaajgaaGreatDoorQrP43
import Derived.Test.YtjpkkkphhaajgaaGreatDoorQrP27
import Derived.Test.YtjpkkkphhaajgaaGreatDoorQrP44
import Derived.Test.YtjpkkkphhaajgaaGreatDoorQrP37
import Derived.Test.YtjpkkkphhaajgaaGreatDoorQrP13
import Derived.Test.YtjpkkkphhaajgaaGreatDoorQrP22
import Derived.Test.YtjpkkkphhaajgaaGreatDoorQrTakes
set_option linter.all false
namespace Go.Proofs.YtjpkkkphhaajgaaGreatDoor.wcp
open Go Go.Proofs.YtjpkkkphhaajgaaGreatDoor.words Go.Proofs.YtjpkkkphhaajgaaGreatDoor.scn
open Go.Proofs.YtjpkkkphhaajgaaGreatDoor.shp (Szs prodI InT idxI tupI allI)
theorem cmpL_cons (v:Int)(a b:List Int):cmpL (v::a) (v::b)=cmpL a b:=by
 show (if v<v then (-1:Int) else if v<v then 1 else cmpL a b)=_;rw[if_neg (by omega),if_neg (by omega)]
theorem all_sorted:∀ (zs:List Int),(allI zs).Pairwise fun a b=>leL a b=true:=by
 intro zs
 induction zs with
 |nil=>unfold shp.allI;exact List.pairwise_singleton _ _
 | cons x zs ih =>
   unfold shp.allI;rw[List.pairwise_flatMap];refine⟨fun v _=>?_,?_⟩
   ·rw[List.pairwise_map]
    refine ih.imp fun {a b} h=>?_
    unfold leL at h ⊢;rw[cmpL_cons];exact h
   ·refine List.pairwise_lt_range.imp fun {u v} huv a ha b hb=>?_
    obtain⟨a',-,rfl⟩:=List.mem_map.1 ha;obtain⟨b',-,rfl⟩:=List.mem_map.1 hb;unfold leL;show decide ((if (u:Int)<(v:Int) then (-1:Int) else _)≤0)=true;rw[if_pos (by omega)];decide
def domL (T:TpH):List (List Int):=(allI T.sizes).filter fun t=>(T.f t).isSome
theorem dom_mem {T:TpH}(hv:okV T){t:List Int}:t∈domL T↔(T.f t).isSome=true:=by
 unfold domL;rw[List.mem_filter,mem_all fun z hz=>(hv.ok.2.1 z hz).1];refine⟨fun h=>h.2,fun h=>⟨?_,h⟩⟩;obtain⟨c,hc⟩:=Option.isSome_iff_exists.1 h;exact (hv.dom t c hc).1
theorem dom_uniq {T:TpH}{L:List (List Int)}(hv:okV T)(hL:DomT T L):L=domL T:=by
 have hn:(domL T).Nodup:=(all_nodup hv.ok.szs).filter _
 have hp:(domL T).Perm L:=(List.perm_ext_iff_of_nodup hn hL.nd).2 fun t=>by
  rw[dom_mem hv,hL.mem t];refine⟨fun h=>⟨?_,h⟩,fun h=>h.2⟩;obtain⟨c,hc⟩:=Option.isSome_iff_exists.1 h;exact (hv.dom t c hc).1.tpl hv.ok.1 hv.ok.2.1
 have hs:(domL T).Pairwise fun a b=>leL a b=true:=(all_sorted _).filter _
 exact hL.ord.symm.trans (ordT_uniq hp hs).symm
theorem domL_is {T:TpH}(hv:okV T):DomT T (domL T):=by
 have hn:(domL T).Nodup:=(all_nodup hv.ok.szs).filter _;refine⟨hn,fun t=>?_,(ordT_uniq (List.Perm.refl _) ((all_sorted _).filter _)).symm⟩;rw[dom_mem hv];refine⟨fun h=>⟨?_,h⟩,fun h=>h.2⟩;obtain⟨c,hc⟩:=Option.isSome_iff_exists.1 h;exact (hv.dom t c hc).1.tpl hv.ok.1 hv.ok.2.1
def prnT (T:TpH):List (List Int × Int):=linesT T (domL T)
def prnF (k:Int)(x:Raw):Raw:=⟨x.scope,x.sizes,min x.other k,prnT (tpOf x k x.lines)⟩
def prn (f:Fil):Fil:=⟨f.name,f.k,f.sizes,f.funs.map (prnF f.k)⟩
theorem told_mem {r:Raw}{K:Int}:∀ (n:Nat) (ls:List (List Int × Int)),ls.length=n→∀t,((tpOf r K ls).f t).isSome=true→t∈ls.map (·.1):=by
 intro n
 induction n with
 | zero =>
   intro ls hl t ht;obtain rfl:=List.length_eq_zero_iff.1 hl
   cases ht
 | succ n ih =>
   intro ls hl t ht;obtain⟨ms,l,rfl⟩:∃ms l,ls=ms ++ [l]:=⟨ls.dropLast,ls.getLast (by rintro rfl;cases hl),(List.dropLast_concat_getLast _).symm⟩;have hml:ms.length=n:=by simp at hl;exact hl
   rw[tpOf_snoc]at ht;rw[List.map_append,List.mem_append];by_cases e:t=l.1
   ·exact .inr (by simp[e])
   ·refine .inl (ih ms hml t ?_)
    unfold putF at ht;dsimp only at ht;split at ht
    ·dsimp only at ht;rw[if_neg e]at ht;exact ht
    ·dsimp only at ht;rw[if_neg e]at ht;exact ht
theorem prn_len {x:Raw}{K:Int}(h:okF x K):(prnF K x).lines.length≤x.lines.length:=by
 have hv:=ok_val h;show (linesT _ (domL (tpOf x K x.lines))).length≤_;unfold linesT;rw[List.length_map];have hd:=domL_is hv;have hs:domL (tpOf x K x.lines) ⊆ x.lines.map (·.1):=fun t ht=>told_mem _ _ rfl t ((dom_mem hv).1 ht)
 have:=hd.nd.length_le_of_subset hs
 rwa [List.length_map]at this
theorem linesOf_map {K:Int}:∀ (fs:List Raw),(∀x∈fs,okF x K)→linesOf (fs.map (prnF K))≤linesOf fs
 | [],_=>by simp
 | x::fs,h=>by
   have h1:=linesOf_map fs fun y hy=>h y (by simp[hy])
   have h2:=prn_len (h x (by simp));show (prnF K x).lines.length+linesOf (fs.map (prnF K))≤x.lines.length+linesOf fs;omega
theorem prn_tp {x:Raw}{K:Int}(h:okF x K):tpOf (prnF K x) K (prnF K x).lines=tpOf x K x.lines:=by
 have hv:=ok_val h;have o3:=h.2.2.1;have hmo:min (min x.other K) K=min x.other K:=by omega
 have hf:(tpOf (prnF K x) K (prnF K x).lines).f=(tpOf x K x.lines).f:=funext fun u=>by
  show (tpOf (prnF K x) K (linesT (tpOf x K x.lines) (domL (tpOf x K x.lines)))).f u=_;rw[tpf_put (r:=x) (r':=prnF K x) o3 h.2.2.2.2.2.1 rfl hmo _ (domL (tpOf x K x.lines)) rfl (fun t ht=>(dom_mem hv).1 ht) u];by_cases hu:u∈domL (tpOf x K x.lines)
  ·rw[if_pos hu]
  ·rw[if_neg hu]
   cases he:(tpOf x K x.lines).f u with
   |none=>rfl
   |some c=>exact absurd ((dom_mem hv).2 (by rw[he];rfl)) hu
 obtain⟨a1,a2,a3⟩:=tpOf_same x K x.lines;obtain⟨b1,b2,b3⟩:=tpOf_same (prnF K x) K (prnF K x).lines;have c1:(prnF K x).sizes=x.sizes:=rfl;have c3:min (prnF K x).other K=min x.other K:=hmo;rw[c1]at b1;rw[c3]at b3;generalize tpOf (prnF K x) K (prnF K x).lines=X at *;generalize tpOf x K x.lines=Y at *
 cases X
 cases Y
 simp_all
theorem prn_lines {x:Raw}{K:Int}(h:okF x K):∀l∈(prnF K x).lines,InS x.sizes l.1∧0≤l.2∧l.2≤K∧l.2=(tpOf x K x.lines).get l.1∧l.2≠min x.other K:=fun l hl=>by
 have hv:=ok_val h;have hl':l∈linesT (tpOf x K x.lines) (domL (tpOf x K x.lines)):=hl;unfold linesT at hl';obtain⟨t,ht,rfl⟩:=List.mem_map.1 hl';obtain⟨c,hc⟩:=Option.isSome_iff_exists.1 ((dom_mem hv).1 ht);obtain⟨c1,c2,c3,c4⟩:=tpf_ok h.2.2.1 _ _ rfl h.2.2.2.2.2.1 t c hc;unfold TpH.get;rw[hc];exact⟨c4,c2,c3,rfl,c1⟩
theorem prn_nd {x:Raw}{K:Int}(h:okF x K):((prnF K x).lines.map Prod.fst).Nodup:=by
 have hd:=domL_is (ok_val h);show ((linesT _ (domL (tpOf x K x.lines))).map Prod.fst).Nodup;unfold linesT;rw[List.map_map];have:(Prod.fst ∘ fun (t:List Int)=>(t,((tpOf x K x.lines).f t).getD 0))=fun t=>t:=rfl
 rw[this,List.map_id'];exact hd.nd
theorem prn_funP {zs:List Int}{x:Raw}{K:Int}(h1:okF x K)(h2:FitF zs x)(h3:great x.sizes=false):FunP zs (prnF K x) where
 h6:=h1.2.2.2.2.2.2.2
 sc:=h2.1
 nd:=h2.2.1
 sz:=h2.2.2
 s1:=h1.2.1
 gr:=h3
 o:=by
  have:=h1.2.2.1;have:=h1.2.2.2.1;have:=h1.2.2.2.2.1;show 0≤min x.other K∧min x.other K≤_;omega
 lok:=fun l hl=>by
  obtain⟨a,b,c,-,-⟩:=prn_lines h1 l hl;have:=h1.2.2.2.1;exact⟨a,b,by omega⟩
 lnd:=prn_nd h1
theorem prn_filP {f:Fil}(h:OkFile f)(hl:linesOf f.funs≤16384):FilP (prn f) where
 name:=h.name
 nlen:=h.nlen
 k1:=h.k1
 k2:=h.k2
 s0:=h.s0
 s1:=h.s1
 s2:=h.s2
 n:=by show (f.funs.map (prnF f.k)).length≤_;rw[List.length_map];exact h.n
 fs:=fun x hx=>by
  obtain⟨y,hy,rfl⟩:=List.mem_map.1 hx;obtain⟨a,b,c⟩:=h.fs y hy;exact prn_funP a b c
 li:=Nat.le_trans (linesOf_map f.funs fun x hx=>(h.fs x hx).1) hl
theorem prn_ok {f:Fil}(h:OkFile f):OkFile (prn f) where
 name:=h.name
 nlen:=h.nlen
 k1:=h.k1
 k2:=h.k2
 s0:=h.s0
 s1:=h.s1
 s2:=h.s2
 n:=by show (f.funs.map (prnF f.k)).length≤_;rw[List.length_map];exact h.n
 fs:=fun x hx=>by
  obtain⟨y,hy,rfl⟩:=List.mem_map.1 hx;obtain⟨a,b,c⟩:=h.fs y hy;obtain⟨o1,o2,o3,o4,o5,o6,o7,o8⟩:=a;refine⟨⟨o1,o2,o3,o4,?_,fun l hl=>?_,?_,o8⟩,b,c⟩
  ·show 0≤min y.other f.k;omega
  ·obtain⟨a1,a2,-⟩:=prn_lines (h.fs y hy).1 l hl
   exact⟨a1,a2⟩
  ·exact Nat.le_trans (prn_len (h.fs y hy).1) o7
theorem same_self (T:TpH):SameP T T:=⟨rfl,rfl,fun _ _=>rfl,.inl rfl⟩
theorem prn_same {f:Fil}(h:OkFile f):FilS f (prn f):=by
 refine⟨rfl,rfl,rfl,by show _=(f.funs.map (prnF f.k)).length;rw[List.length_map],fun j x y hx hy=>?_⟩;have hy':(f.funs.map (prnF f.k))[j]?=some y:=hy;rw[List.getElem?_map,hx]at hy';injection hy' with hy'
 subst hy';refine⟨rfl,?_⟩;rw[prn_tp (h.fs x (List.mem_of_getElem? hx)).1];exact same_self _
theorem dd_le:∀ (d u:Nat),u<10 ^ (d+1)→(Lib.decDigits u).length≤d+1
 |0,u,h=>by rw[dd_small (by simpa using h)];simp
 | d+1,u,h=>by
   by_cases hu:u<10
   ·rw[dd_small hu];simp
   ·rw[dd_more hu,List.length_append]
    have:=dd_le d (u / 10) (by rw[Nat.pow_succ]at h;omega);simp;omega
theorem itoa_le (d:Nat){n:Int}(h0:0≤n)(h1:n<(10 ^ (d+1):Nat)):(Lib.itoa n).length≤d+1:=by
 have e:Lib.itoa n=Lib.decDigits n.natAbs:=by unfold Lib.itoa;rw[if_neg (by omega)];congr 1;omega
 rw[e];exact dd_le d _ (by omega)
def lenW (ws:List (List UInt8)):Nat:=ws.foldr (fun w n=>w.length+1+n) 0
theorem lenW_cons (w:List UInt8)(ws:List (List UInt8)):lenW (w::ws)=w.length+1+lenW ws:=rfl
theorem lenW_append (ws vs:List (List UInt8)):lenW (ws++vs)=lenW ws+lenW vs:=by
 induction ws with
 |nil=>simp[lenW]
 |cons w ws ih=>rw[List.cons_append,lenW_cons,lenW_cons,ih];omega
theorem flat_len (ws:List (List UInt8)):(ws.flatMap fun v=>(32:UInt8)::v).length=lenW ws:=by
 induction ws with
 |nil=>rfl
 |cons w ws ih=>rw[List.flatMap_cons,List.length_append,ih,lenW_cons];simp
theorem lineW_len {ws:List (List UInt8)}(h:ws ≠ []):(lineW ws).length=lenW ws:=by
 cases ws with
 |nil=>exact absurd rfl h
 | cons w ws =>
   unfold lineW joinW;rw[List.length_append,List.length_append,flat_len,lenW_cons];simp;omega
theorem decs_le (d:Nat):∀ (l:List Int),(∀v∈l,0≤v∧v<(10 ^ (d+1):Nat))→lenW (decs l)≤(d+2)*l.length
 | [],_=>by simp[decs,lenW]
 | v::l,h=>by
   have h1:=decs_le d l fun u hu=>h u (by simp[hu])
   have h2:=itoa_le d (h v (by simp)).1 (h v (by simp)).2;show lenW (Lib.itoa v::decs l)≤_;rw[lenW_cons,List.length_cons,Nat.mul_add];omega
theorem decs_append (l m:List Int):decs (l++m)=decs l++decs m:=by unfold decs;rw[List.map_append]
theorem decs_one {d:Nat}{v:Int}(h0:0≤v)(h1:v<(10 ^ (d+1):Nat)):lenW (decs [v])≤d+2:=by
 have:=decs_le d [v] fun u hu=>by rw[List.mem_singleton.1 hu];exact⟨h0,h1⟩
 simpa using this
theorem lin_le {sizes:List Int}{l:List Int × Int}(hs:∀k∈sizes,1≤k∧k≤32)(h:InS sizes l.1)(h0:0≤l.2)(h1:l.2≤2147483648):(linT l).length≤11*(sizes.length+1):=by
 unfold linT;rw[lineW_len (by simp[decs]),decs_append,lenW_append]
 have h2:=decs_le 1 l.1 fun v hv=>by
  obtain⟨i,hi⟩:=List.getElem?_of_mem hv;have hl:i<sizes.length:=by have:=(List.getElem?_eq_some_iff.1 hi).1;rw[h.1]at this;exact this
  have h3:=h.2 i v _ hi (List.getElem?_eq_getElem hl);have h4:=hs _ (List.getElem_mem hl);omega
 have h3:=decs_one (d:=9) h0 (by omega);rw[h.1]at h2;omega
theorem lins_le {sizes:List Int}(hs:∀k∈sizes,1≤k∧k≤32):∀ (ls:List (List Int × Int)),(∀l∈ls,InS sizes l.1∧0≤l.2∧l.2≤2147483648)→(ls.flatMap linT).length≤11*(ls.length*(sizes.length+1))
 | [],_=>by simp
 | l::ls,h=>by
   have h1:=lins_le hs ls fun x hx=>h x (by simp[hx])
   obtain⟨a,b,c⟩:=h l (by simp);have h2:=lin_le hs a b c;rw[List.flatMap_cons,List.length_append,List.length_cons,Nat.add_mul];omega
def wtR (x:Raw):Nat:=37+11*(x.lines.length*(x.sizes.length+1))
def wtF (fs:List Raw):Nat:=fs.foldr (fun x n=>wtR x+n) 0
theorem wtF_cons (x:Raw)(fs:List Raw):wtF (x::fs)=wtR x+wtF fs:=rfl
def SmallL (x:Raw):Prop:=x.other≤2147483648∧∀l∈x.lines,l.2≤2147483648
theorem fun_le {zs:List Int}{x:Raw}(hz:zs.length≤64)(h:FunP zs x)(hs:SmallL x)(hl:x.lines.length≤16384):(funT x).length≤wtR x:=by
 unfold funT wtR;rw[List.length_append,lineW_len (by simp[decs,funH])];have h1:=lins_le h.s1 x.lines fun l hl=>⟨(h.lok l hl).1,(h.lok l hl).2.1,hs.2 l hl⟩
 have h6:=h.h6;have e:funH x = [(x.scope.length:Int)]++(x.scope++([x.other] ++ [(x.lines.length:Int)])):=rfl;rw[e,decs_append,decs_append,decs_append,lenW_append,lenW_append,lenW_append];have a1:=decs_one (d:=0) (v:=(x.scope.length:Int)) (by omega) (by omega);have a2:=decs_le 1 x.scope fun v hv=>by have:=h.sc v hv;omega
 have a3:=decs_one (d:=9) h.o.1 (by have:=hs.1;omega);have a4:=decs_one (d:=4) (v:=(x.lines.length:Int)) (by omega) (by omega);omega
theorem funs_le {zs:List Int}(hz:zs.length≤64):∀ (fs:List Raw),(∀x∈fs,FunP zs x∧SmallL x)→linesOf fs≤16384→(fs.flatMap funT).length≤wtF fs
 | [],_,_=>by simp
 | x::fs,h,hl=>by
   have hll:linesOf (x::fs)=x.lines.length+linesOf fs:=rfl;have h1:=funs_le hz fs (fun y hy=>h y (by simp[hy])) (by omega);have h2:=fun_le hz (h x (by simp)).1 (h x (by simp)).2 (by omega);rw[List.flatMap_cons,List.length_append,wtF_cons];omega
theorem text_le {f:Fil}(h:FilP f)(hs:∀x∈f.funs,SmallL x):(textF f).length≤300+wtF f.funs:=by
 have h1:=funs_le h.s2 f.funs (fun x hx=>⟨h.fs x hx,hs x hx⟩) h.li;unfold textF;rw[List.length_append,List.length_append,lineW_len (by simp),lineW_len (by have:=h.s0;simpa [decs] using this),lenW_cons];have a0:=h.nlen;have a1:=decs_le 1 f.sizes fun v hv=>by have:=h.s1 v hv;omega
 have a2:=h.s2;have a3:=h.n;have hl0:=List.length_pos_iff.2 h.s0;have hm2:maxI f.sizes≤32:=maxI_le h.s0 fun v hv=>(h.s1 v hv).2
 have hm3:1≤maxI f.sizes:=by
  obtain⟨v,hv⟩:=List.exists_mem_of_ne_nil _ h.s0;have:=(h.s1 v hv).1;have:=maxI_ge v hv;omega
 have e:headN f = [(f.sizes.length:Int)]++([maxI f.sizes]++([(f.funs.length:Int)] ++ [f.k])):=rfl;rw[e,decs_append,decs_append,decs_append,lenW_append,lenW_append,lenW_append];have b1:=decs_one (d:=1) (v:=(f.sizes.length:Int)) (by omega) (by omega);have b2:=decs_one (d:=1) (v:=maxI f.sizes) (by omega) (by omega);have b3:=decs_one (d:=2) (v:=(f.funs.length:Int)) (by omega) (by omega);have b4:=decs_one (d:=9) (v:=f.k) (by have:=h.k1;omega) (by have:=h.k2;omega);omega
theorem prn_small {x:Raw}{K:Int}(h:okF x K):SmallL (prnF K x):=by
 have hk:=h.2.2.2.1;refine⟨by show min x.other K≤_;omega,fun l hl=>?_⟩;have:=(prn_lines h l hl).2.2.1;omega
theorem prn_wt {x:Raw}{K:Int}(h:okF x K):wtR (prnF K x)≤wtR x:=by
 have h1:=prn_len h;have e:(prnF K x).sizes=x.sizes:=rfl;unfold wtR;rw[e];have:=Nat.mul_le_mul_right (x.sizes.length+1) h1;omega
theorem prn_wts {K:Int}:∀ (fs:List Raw),(∀x∈fs,okF x K)→wtF (fs.map (prnF K))≤wtF fs
 | [],_=>by simp
 | x::fs,h=>by
   have h1:=prn_wts fs fun y hy=>h y (by simp[hy])
   have h2:=prn_wt (h x (by simp));rw[List.map_cons,wtF_cons,wtF_cons];omega
theorem prn_le {f:Fil}(h:OkFile f)(hl:linesOf f.funs≤16384)(hw:wtF f.funs≤65000):(textF (prn f)).length≤65536:=by
 have h1:=text_le (prn_filP h hl) fun x hx=>by
  obtain⟨y,hy,rfl⟩:=List.mem_map.1 (show x∈f.funs.map (prnF f.k) from hx);exact prn_small (h.fs y hy).1
 have h2:=prn_wts f.funs fun x hx=>(h.fs x hx).1
 have e:(prn f).funs=f.funs.map (prnF f.k):=rfl;rw[e]at h1;omega
variable {en ee:Int}
theorem plines_words {sizes:List Int}:∀ (k:Nat) {s s':Ps} {out:List (List Int × Int)},plines en ee sizes k [] s = .ok out s'→s'.l.length+k*(sizes.length+1)≤s.l.length:=by
 intro k
 induction k with
 |zero=>intro s s' out h;injection h with h1 h2;subst h1 h2;simp
 | succ k ih =>
   intro s s' out h;rw[plines_snoc]at h;obtain⟨o,s1,e1,h⟩:=bind_inv h;unfold pline at h;obtain⟨t,s2,e2,h⟩:=bind_inv h;obtain⟨c,s3,e3,h⟩:=bind_inv h;have a1:=ih e1;have a2:=(ptup_ok _ e2).2.2.2.2;have a3:=(pnum_ok e3).2.2.2.2.2
   have h4:s'.l=s3.l:=by
    split at h
    ·cases h
    ·injection h with _ h;rw[h]
   rw[h4,Nat.add_mul];omega
def WLe (M:Nat)(n:Nat)(ls:List (List Int × Int)):Prop:=ls.length*(n+1)≤M
theorem pall_words {sizes:List Int}{s s':Ps}{out:List (List Int × Int)}{M:Nat}(h:pall en ee sizes s = .ok out s')(h0:0≤s.told)(hM:∀p∈s.sh,WLe M p.1.length p.2) :
 ∃M',M≤M'∧WLe M' sizes.length out∧s'.l.length+1+(M' - M)≤s.l.length∧s'.sh=s.sh:=by
 have hq:=pall_ok h h0;unfold pall at h;obtain⟨n,s1,e1,h⟩:=bind_inv h;have b1:=pnum_ok e1;split at h
 ·next hn =>
  cases hx:s1.sh[(-n.1-1).toNat]? with
  |none=>rw[hx]at h;cases h
  | some x =>
    rw[hx]at h;dsimp only at h;split at h
    ·next he =>
     injection h with h1 h2
     subst h1 h2;have:=hM x (by rw[← b1.2.2.1];exact List.mem_of_getElem? hx);rw[he]at this;exact⟨M,Nat.le_refl _,this,by have:=b1.2.2.2.2.2;omega,b1.2.2.1⟩
    ·cases h
 ·have c1:=plines_words _ h
  have c2:=(plines_ok _ h).1;have c3:=plarge_l (decide (min (s1.told+n.1) far>16384)) n.2 { s1 with told:=min (s1.told+n.1) far };rw[c3.1]at c1;refine⟨M+out.length*(sizes.length+1),Nat.le_add_right _ _,?_,?_,hq.1⟩
  ·unfold WLe;omega
  ·rw[c2]
   have:=b1.2.2.2.2.2;have c4:({ s1 with told:=min (s1.told+n.1) far }:Ps).l=s1.l:=rfl;rw[c4]at c1;omega
theorem pfun_words {all:List Int}{s s':Ps}{f:Raw}{M:Nat}(h:pfun en ee all s = .ok f s')(h0:0≤s.told)(hM:∀p∈s.sh,WLe M p.1.length p.2) :
 ∃M',M≤M'∧WLe M' f.sizes.length f.lines∧s'.l.length+3+(M' - M)≤s.l.length∧∀p∈s'.sh,WLe M' p.1.length p.2:=by
 unfold pfun at h;obtain⟨a,s1,e1,h⟩:=bind_inv h;obtain⟨sc,s2,e2,h⟩:=bind_inv h;obtain⟨o,s3,e3,h⟩:=bind_inv h;obtain⟨ls,s4,e4,h⟩:=bind_inv h;injection h with hf h
 have q1:=pnum_ok e1;have q2:=pscope_ok _ _ e2;have q3:=pnum_ok e3;have ql:=plarge_l (decide ((a.1.natAbs:Int)>6) || great (sc.map fun v=>all.getD v.toNat 0)) a.2 s2;have h30:s3.sh=s.sh:=by rw[q3.2.2.1,ql.2.1,q2.2.1,q1.2.2.1]
 obtain⟨M',m1,m2,m3,m4⟩:=pall_words (M:=M) e4 (by rw[q3.2.2.2.1,ql.2.2,q2.2.2.1,q1.2.2.2.1];exact h0) (by rw[h30];exact hM);have h5:s'.l=s4.l:=by rw[← h];split<;>rfl
 have b1:=q1.2.2.2.2.2;have b2:=q2.2.2.2.2.1;have b3:=q3.2.2.2.2.2;rw[ql.1]at b3;have hmono:∀p∈s.sh,WLe M' p.1.length p.2:=fun p hp=>Nat.le_trans (hM p hp) m1
 refine⟨M',m1,by rw[← hf];exact m2,by rw[h5];omega,fun p hp=>?_⟩;rw[← h]at hp;split at hp
 ·have hp':p∈s4.sh ++ [(sc.map fun v=>all.getD v.toNat 0,ls)]:=hp
  rcases List.mem_append.1 hp' with hp | hp
  ·exact hmono p (by rw[← h30,← m4];exact hp)
  ·rw[List.mem_singleton.1 hp];exact m2
 ·exact hmono p (by rw[← h30,← m4];exact hp)
theorem pfuns_words {all:List Int}:∀ (k:Nat) {s s':Ps} {out:List Raw},pfuns en ee all k [] s = .ok out s'→0≤s.told→s.sh = [] →
 0≤s'.told∧out.length=k∧∃M,(∀x∈out,WLe M x.sizes.length x.lines)∧(∀p∈s'.sh,WLe M p.1.length p.2)∧s'.l.length+3*k+M≤s.l.length:=by
 intro k
 induction k with
 |zero=>intro s s' out h h0 hs;injection h with h1 h2;subst h1 h2;exact⟨h0,rfl,0,(fun x hx=>by cases hx),(fun p hp=>by rw[hs]at hp;cases hp),by omega⟩
 | succ k ih =>
   intro s s' out h h0 hs;rw[pfuns_snoc]at h;obtain⟨o1,s1,e1,h⟩:=bind_inv h;obtain⟨f,s2,e2,h⟩:=bind_inv h;injection h with h1 h2
   subst h1 h2;obtain⟨a1,a2,M,a3,a4,a5⟩:=ih e1 h0 hs;obtain⟨M',m1,m2,m3,m4⟩:=pfun_words e2 a1 a4;have b2:=pfun_ok e2 a1;refine⟨b2.2.1,by simp[a2],M',fun x hx=>?_,m4,by omega⟩;rcases List.mem_append.1 hx with hx | hx
   ·exact Nat.le_trans (a3 x hx) m1
   ·rw[List.mem_singleton.1 hx];exact m2
theorem wtF_le {M:Nat}:∀ (fs:List Raw),(∀x∈fs,WLe M x.sizes.length x.lines)→wtF fs≤fs.length*(37+11*M)
 | [],_=>by simp[wtF]
 | x::fs,h=>by
   have h1:=wtF_le fs fun y hy=>h y (by simp[hy])
   have h2:x.lines.length*(x.sizes.length+1)≤M:=h x (by simp);rw[wtF_cons,List.length_cons,Nat.add_mul];unfold wtR;omega
theorem wt_num:∀n,n<67→n*(37+11*(200-3*n))≤65000:=by decide
theorem wt_short {bs:List UInt8}{l:List Wd}{f:Fil}(hT:scn.Told bs l (-1))(h:pread en 4 l = .file f)(hb:bs.length≤400):wtF f.funs≤65000:=by
 have h1:=told_two hT;obtain⟨s',hb,hbig⟩:=pread_inv h;unfold pbody at hb;obtain⟨w,s1,e1,hb⟩:=bind_inv hb;obtain⟨n,s2,e2,hb⟩:=bind_inv hb;obtain⟨most,s3,e3,hb⟩:=bind_inv hb;obtain⟨count,s4,e4,hb⟩:=bind_inv hb;obtain⟨k,s5,e5,hb⟩:=bind_inv hb;obtain⟨sizes,s6,e6,hb⟩:=bind_inv hb;obtain⟨fs,s7,e7,hb⟩:=bind_inv hb;injection hb with hb _
 subst hb
 have q1:s1.told=0∧s1.sh = []∧s1.l.length≤l.length:=by
  unfold pword at e1
  cases l with
  |nil=>cases e1
  |cons a l=>injection e1 with _ e1;rw[← e1];exact⟨rfl,rfl,by simp⟩
 have q2:=pnum_ok e2;have q3:=pnum_ok e3;have q4:=pnum_ok e4;have q5:=pnum_ok e5;have q6:=psizes_ok _ e6;have l2:=plarge_l (decide (w.1.length>64)) w.2 s1;have l3:=plarge_l (decide (n.1>64)) n.2 s2;have l5:=plarge_l (decide (count.1>256)) count.2 s4;have l6:=plarge_l (decide (k.1>2147483648)) k.2 s5;have ht:s6.told=0:=by rw[q6.2.2.2.1,l6.2.2,q5.2.2.2.1,l5.2.2,q4.2.2.2.1,q3.2.2.2.1,l3.2.2,q2.2.2.2.1,l2.2.2,q1.1]
 have hsh:s6.sh = []:=by rw[q6.2.2.1,l6.2.1,q5.2.2.1,l5.2.1,q4.2.2.1,q3.2.2.1,l3.2.1,q2.2.2.1,l2.2.1,q1.2.1]
 obtain⟨-,a2,M,a3,-,a5⟩:=pfuns_words _ e7 (by rw[ht];exact Int.le_refl _) hsh;have b2:=q2.2.2.2.2.2;have b3:=q3.2.2.2.2.2;have b4:=q4.2.2.2.2.2;have b5:=q5.2.2.2.2.2;have b6:=q6.2.2.2.2;rw[l2.1]at b2;rw[l3.1]at b3;rw[l5.1]at b5;rw[l6.1]at b6;have c1:=wtF_le fs a3;dsimp only;rw[a2]at c1;have c2:=wt_num count.1.toNat (by omega);have c3:=Nat.mul_le_mul_left count.1.toNat (show 37+11*M≤37+11*(200-3*count.1.toNat) by omega);omega
end Go.Proofs.YtjpkkkphhaajgaaGreatDoor.wcp
namespace Go.Proofs.YtjpkkkphhaajgaaGreatDoor.wcp
open Go Go.RowKit Go.ChangeShapes Go.WideShapes Go.ChangeAt Go.Maps Go.Proofs.YtjpkkkphhaajgaaGreatDoor.words Go.Proofs.YtjpkkkphhaajgaaGreatDoor.scn
def Read8W (w:World)(e:Ending)(w':World):Prop :=
 Below w.heap.size w w'∧(e = .returned (.tuple #[.pointer none,.pointer none]) ∨
  ∃gf gx B f SA sc FA fc V,e = .returned (.tuple #[.pointer (some ⟨gf,0,none⟩),.pointer (some ⟨gx,0,none⟩)])∧OkFile f∧linesOf f.funs≤16384∧wtF f.funs≤65000∧FilW w' gf f SA sc FA fc V∧w.heap.size≤gf∧w.heap.size≤B∧B≤gx∧QFileV w' B gx f)
set_option maxRecDepth 100000 in
set_option maxHeartbeats 4000000 in
theorem read8_w (A:Option Addr)(n cap:Nat)(xs:List UInt8)(w:World)(hn:n≤9223372036854775807)(hnc:n≤cap)(hr:Reads w w.heap.size 1 A n (bv xs))(ht:Tab w) :
 Calls Tryz.prog 9 #[.slice A n cap] w fun e w'=>Read8W w e w':=by
 obtain⟨k,hk1,k1,k2,hkm⟩:=min_nat n 400;have hkI:min (n:Int) 400=(k:Int):=by omega
 have hk1':(if (400:Int)<(n:Int) then (400:Int) else (n:Int))=(k:Int):=hk1;have kI:(0:Int)≤(k:Int):=Int.natCast_nonneg _;have kc:(k:Int)≤(cap:Int):=by omega
 have hxl:xs.length=n:=by have:=hr.1;rw[bv_len]at this;omega
 obtain⟨bs,hbs⟩:∃bs,xs.take k=bs:=⟨_,rfl⟩;have hbl:bs.length=k:=by rw[← hbs,List.length_take];omega
 have hrk:Reads w w.heap.size 1 A k (bv bs):=by
  have:=hr.take_ (m:=k) (by omega);rw[← hbs];unfold bv at this ⊢;rw[List.map_take];exact this
 have HT:=Hd ht;have hcl:=cloneB_any A k cap bs w (by omega) hrk;have hbl4:bs.length≤400:=by omega
 have HBL:=Hd hbl;obtain⟨l,wb,htl⟩:=told_total bs;have HTL:=Hd htl;clear hr ht hxl hbs hbl hrk hkm hk1 htl
 go_enter Tryz.func9,Tryz.ntmps9
 go_wp2_with fail;refine hcl.mono ?_;rintro e w2 ⟨P,pc,rfl,hop,hb2⟩;have HB2:=Hd hb2;have HOP:=Hd (own_base hop (Nat.zero_le _));have hrd:=read_any P bs.length pc bs wb l w2 rfl (Reads.of_own hop) (by omega) HTL.out (HT.out.below hb2);clear hcl hb2 hop;go_wp2_with fail;refine hrd.mono ?_;rintro e w3 ⟨hb3,hm3⟩;have HB3:=Hd (bto HB2.out hb3);have hqr:=qread_any P pc 0 bs wb l w3 (by omega) (own_under HOP.out hb3) HTL.out;clear hrd
 cases hp:pread (enOf bs wb) (eeOf wb) l with
 | err er x =>
   rw[hp]at hm3;obtain rfl:=hm3;have HP:=Hd hp;clear hp hb3;by_cases h0:er=0
   ·subst h0
    go_wp2_with fail;refine hqr.mono ?_;rintro e w4 ⟨hb4,hm4⟩;rw[HP.out]at hm4;obtain rfl:=hm4;have HB4:=Hd (bto HB3.out hb4);clear hqr hb4;go_wp2_with fail;go_ret2;exact⟨HB4.out,.inl rfl⟩
   ·have h0b:(er != 0)=true:=by simp[h0]
    clear h0;go_wp2_with fail;refine hqr.mono ?_;rintro e w4 ⟨hb4,hm4⟩;rw[HP.out]at hm4;obtain rfl:=hm4;have HB4:=Hd (bto HB3.out hb4);clear hqr hb4;go_wp2_with fail;go_ret2
    exact⟨HB4.out,.inl rfl⟩
 | file f =>
   rw[hp]at hm3;obtain⟨gf,rfl,hfv⟩:=hm3;obtain⟨hgf,SA,sc,FA,fc,V,hfw⟩:=hfv.filw;obtain rfl:=file_wb hp;have HOK:=Hd (okFile_of HTL.out hp (by have:=Told.len HTL.out;omega));have HLI:=Hd (lines_short HTL.out hp hbl4);have HWT:=Hd (wt_short HTL.out hp hbl4);have HP:=Hd hp;have HF3:=Hd hfw;have HGF:Hid (w.heap.size≤gf):=Nat.le_trans HB2.out.size hgf;clear hp hfv hfw hb3;go_wp2_with fail;refine hqr.mono ?_;rintro e w4 ⟨hb4,hm4⟩;rw[HP.out]at hm4;obtain⟨gx,rfl,hgx,hqv⟩:=hm4;have HQV:=Hd hqv;have HGX:=Hd hgx;have HF4:=Hd (HF3.out.below hb4);have HB4:=Hd (bto HB3.out hb4);clear hqr hb4 hqv hgx;go_wp2_with fail;go_ret2;exact⟨HB4.out,.inr ⟨gf,gx,w3.heap.size,f,SA,sc,FA,fc,V,rfl,HOK.out,HLI.out,HWT.out,HF4.out,HGF.out,HB3.out.size,HGX.out,HQV.out⟩⟩
end Go.Proofs.YtjpkkkphhaajgaaGreatDoor.wcp
namespace Go.Proofs.YtjpkkkphhaajgaaGreatDoor.wcp
open Go Go.Proofs.YtjpkkkphhaajgaaGreatDoor.words Go.Proofs.YtjpkkkphhaajgaaGreatDoor.scn
open Go.Proofs.YtjpkkkphhaajgaaGreatDoor.shp (Szs prodI InT idxI tupI allI)
theorem joinW_num (w:List UInt8)(ns:List Int):joinW (w::decs ns)=w++numT ns:=by
 show w++(ns.map Lib.itoa).flatMap (fun v=>32::v)=w++ns.flatMap (fun v=>32::Lib.itoa v);rw[List.flatMap_map]
theorem numT_snoc (ns:List Int)(v:Int):numT (ns ++ [v])=numT ns++(32::Lib.itoa v):=by
 rw[numT_append];unfold numT;simp
theorem numT_take {xs:List Int}{j:Nat}{v:Int}(h:xs[j]?=some v):numT (xs.take (j+1))=numT (xs.take j)++(32::Lib.itoa v):=by
 rw[List.take_add_one,h];exact numT_snoc _ _
theorem numT_drop {xs:List Int}(h:xs ≠ []):(numT xs).drop 1=joinW (decs xs):=by
 obtain⟨a,l,rfl⟩:=List.exists_cons_of_ne_nil h;rw[numT_cons];show (Lib.itoa a++numT l)=joinW (Lib.itoa a::decs l);rw[joinW_num]
theorem head_text (name:List UInt8)(ns:List Int):lineW (name::decs ns)=name++numT ns ++ [10]:=by unfold lineW;rw[joinW_num]
theorem nums_text {xs:List Int}(h:xs ≠ []):lineW (decs xs)=(numT xs).drop 1 ++ [10]:=by unfold lineW;rw[numT_drop h]
def oneT (t:List Int):List UInt8:=t.flatMap fun v=>Lib.itoa v ++ [32]
theorem oneT_take {t:List Int}{j:Nat}{v:Int}(h:t[j]?=some v):oneT (t.take (j+1))=oneT (t.take j)++(Lib.itoa v ++ [32]):=by
 unfold oneT;rw[List.take_add_one,h,List.flatMap_append];simp
theorem one_join:∀ (t:List Int) (c:Int),joinW (decs (t ++ [c]))=oneT t++Lib.itoa c
 | [],c=>by show Lib.itoa c ++ []=_;simp[oneT]
 | [v],c=>by
   show joinW (Lib.itoa v::decs [c])=_;rw[joinW_num]
   simp[numT,oneT]
 | v::u::t,c=>by
   have h:=one_join (u::t) c;show joinW (Lib.itoa v::Lib.itoa u::decs (t ++ [c]))=_;rw[joinW_two];have e:joinW (Lib.itoa u::decs (t ++ [c]))=oneT (u::t)++Lib.itoa c:=h;rw[e];simp[oneT]
theorem lin_text (t:List Int)(c:Int):linT (t,c)=oneT t++(Lib.itoa c ++ [10]):=by
 unfold linT lineW;rw[one_join,List.append_assoc]
def wl (T:TpH)(L:List (List Int)):List (List Int × Int):=(L.filter fun t=>decide (T.get t≠T.other)).map fun t=>(t,T.get t)
theorem wl_take {T:TpH}{L:List (List Int)}{j:Nat}{t:List Int}(h:L[j]?=some t):wl T (L.take (j+1))=if T.get t=T.other then wl T (L.take j) else wl T (L.take j) ++ [(t,T.get t)]:=by
 unfold wl;rw[List.take_add_one,h,Option.toList_some,List.filter_append,List.map_append];by_cases e:T.get t=T.other
 ·rw[if_pos e,List.filter_cons_of_neg (by simp[e])];simp
 ·rw[if_neg e,List.filter_cons_of_pos (by simp[e])];simp
theorem wl_all {x:Raw}{K:Int}(h:okF x K):wl (tpOf x K x.lines) (allI x.sizes)=prnT (tpOf x K x.lines):=by
 have hs:=(tpOf_same x K x.lines).1;have ho:=(tpOf_same x K x.lines).2.2
 have hiff:∀t,decide ((tpOf x K x.lines).get t≠(tpOf x K x.lines).other)=((tpOf x K x.lines).f t).isSome:=fun t=>by
  unfold TpH.get
  cases hc:(tpOf x K x.lines).f t with
  |none=>simp
  | some c =>
    obtain⟨c1,-⟩:=tpf_ok h.2.2.1 _ _ rfl h.2.2.2.2.2.1 t c hc;rw[ho];simp[c1]
 unfold wl prnT linesT domL;rw[hs,show (fun t=>decide ((tpOf x K x.lines).get t≠(tpOf x K x.lines).other))=(fun t=>((tpOf x K x.lines).f t).isSome) from funext hiff];refine List.map_congr_left fun t ht=>?_
 have:=(List.mem_filter.1 ht).2;obtain⟨c,hc⟩:=Option.isSome_iff_exists.1 this;unfold TpH.get;rw[hc];rfl
theorem fun_text {x:Raw}{K:Int}(h:okF x K):funT (prnF K x)=Lib.itoa (x.scope.length:Int)++numT x.scope++(32::Lib.itoa (min x.other K))++(32::Lib.itoa ((wl (tpOf x K x.lines) (allI x.sizes)).length:Int)) ++ [10]++(wl (tpOf x K x.lines) (allI x.sizes)).flatMap linT:=by
 rw[wl_all h];unfold funT funH;show lineW (Lib.itoa (x.scope.length:Int)::decs (x.scope ++ [min x.other K,((prnT (tpOf x K x.lines)).length:Int)]))++(prnT (tpOf x K x.lines)).flatMap linT=_;rw[head_text,show x.scope ++ [min x.other K,((prnT (tpOf x K x.lines)).length:Int)]=(x.scope ++ [min x.other K]) ++ [((prnT (tpOf x K x.lines)).length:Int)] by simp,numT_snoc,numT_snoc];simp only[List.append_assoc]
end Go.Proofs.YtjpkkkphhaajgaaGreatDoor.wcp
