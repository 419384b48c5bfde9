/- LargeP, NumsRead, PtPlain, QVal, RfRise. -/
import Derived.Test.YtjpkkkphhaajgaaGreatDoorQrP22
import Derived.Test.YtjpkkkphhaajgaaGreatDoorQrP39
import Derived.Test.YtjpkkkphhaajgaaGreatDoorQrTakes
import Derived.Test.YtjpkkkphhaajgaaGreatDoorQrP04
set_option linter.all false
namespace Go.Proofs.YtjpkkkphhaajgaaGreatDoor.wcp
open Go Go.Proofs.YtjpkkkphhaajgaaGreatDoor.scn
variable {en ee:Int}
theorem pword_cons (w:Wd)(l:List Wd)(b:Option Int)(t:Int)(sh:List (List Int × List (List Int × Int))):pword en ee ⟨w::l,b,t,sh⟩ = .ok w ⟨l,b,t,sh⟩:=rfl
theorem pnum_cons {v:List UInt8}{p:Nat}{n lo hi:Int}(l:List Wd)(b:Option Int)(t:Int)(sh:List (List Int × List (List Int × Int)))(hr:readW v=(n,0))(h0:lo≤n)(h1:n≤hi) :
 pnum en ee lo hi ⟨(v,p)::l,b,t,sh⟩ = .ok (n,(p:Int)) ⟨l,b,t,sh⟩:=by
 unfold pnum;rw[pword_cons,Res.bind_ok];dsimp only;rw[hr];dsimp only;rw[if_neg (by omega)]
theorem plarge_no {is:Bool}{x:Int}(s:Ps)(h:is=false):plarge is x s=s:=by unfold plarge;rw[h,if_neg (by simp)]
def LargeT (bs:List UInt8)(x:Int):Prop:=bs.length≤20000∧∃l f s,Mid bs l∧(∀en ee,pbody en ee ⟨l,none,0,[]⟩ = .ok f s)∧s.l = []∧s.big=some x
theorem LargeT.said {bs:List UInt8}{x:Int}(h:LargeT bs x):∃l,scn.Told bs l (-1)∧pread (enOf bs (-1)) (eeOf (-1)) l = .err 5 x:=by
 obtain⟨_,l,f,⟨sl,sb,st,ss⟩,hm,hp,h1,h2⟩:=h;refine⟨l,hm.told,?_⟩;dsimp only at h1 h2;subst h1 h2;exact ((pread_end (hp _ _)).2 rfl).2 rfl |>.1 x rfl
theorem LargeT.wrong {bs:List UInt8}{x:Int}(h:LargeT bs x):∃l,scn.Told (bs ++ [32,120]) l (-1)∧pread (enOf (bs ++ [32,120]) (-1)) (eeOf (-1)) l = .err 4 (bs.length+1:Nat):=by
 obtain⟨_,l,f,⟨sl,sb,st,ss⟩,hm,hp,h1,h2⟩:=h;have hm2:=hm.snoc (v := [120]) (by simp) (by decide);refine⟨_,hm2.told,?_⟩;dsimp only at h1 h2;subst h1 h2;have hq:=pbody_more (en:=enOf (bs ++ [32,120]) (-1)) (ee:=4) (en2:=enOf (bs ++ [32,120]) (-1)) (ee2:=4) (l2 := [([120],bs.length+1)]) ⟨l,none,0,[]⟩;rw[hp]at hq;have e0:(Ps.more ⟨l,none,0,[]⟩ [([120],bs.length+1)])=⟨l ++ [([120],bs.length+1)],none,0,[]⟩:=rfl;rw[e0]at hq;rcases hq with⟨f',s',h3,h4⟩ | ⟨_,_,h3,_⟩ | h3
 ·injection h3 with h5 h6
  subst h5 h6;exact (pread_end h4).1 _ _ rfl
 ·cases h3
 ·cases h3
end Go.Proofs.YtjpkkkphhaajgaaGreatDoor.wcp
namespace Go.Proofs.YtjpkkkphhaajgaaGreatDoor.wcp
open Go Go.Proofs.YtjpkkkphhaajgaaGreatDoor.scn
variable {en ee:Int}
def numT (vs:List Int):List UInt8:=vs.flatMap fun v=>32::Lib.itoa v
theorem numT_cons (v:Int)(vs:List Int):numT (v::vs)=32::Lib.itoa v++numT vs:=rfl
theorem numT_append (vs us:List Int):numT (vs++us)=numT vs++numT us:=by unfold numT;rw[List.flatMap_append]
def WN (l:List Wd)(vs:List Int):Prop:=l.map Prod.fst=vs.map Lib.itoa
theorem Mid.nums:∀ (vs:List Int) {bs:List UInt8} {l:List Wd},scn.Mid bs l→∃lw,scn.Mid (bs++numT vs) (l++lw)∧WN lw vs:=by
 intro vs
 induction vs with
 |nil=>intro bs l h;exact⟨[],by simpa [numT] using h,rfl⟩
 | cons v vs ih =>
   intro bs l h;obtain⟨i1,i2⟩:=itoa_in v;obtain⟨lw,h2,h3⟩:=ih (h.snoc i1 i2);refine⟨(Lib.itoa v,bs.length+1)::lw,?_,?_⟩
   ·rw[numT_cons]
    simpa [List.append_assoc] using h2
   ·unfold WN at h3 ⊢
    rw[List.map_cons,List.map_cons,h3]
theorem WN.cons {l:List Wd}{v:Int}{vs:List Int}(h:WN l (v::vs)):∃p l',l=(Lib.itoa v,p)::l'∧WN l' vs:=by
 cases l with
 |nil=>cases h
 | cons w l =>
   unfold WN at h;rw[List.map_cons,List.map_cons]at h;injection h with h1 h2
   exact⟨w.2,l,by rw[← h1],h2⟩
theorem WN.nil {l:List Wd}(h:WN l []):l = []:=by
 cases l with
 |nil=>rfl
 |cons w l=>cases h
def Sm (v:Int):Prop := -4611686018427387904≤v∧v≤4611686018427387904
theorem pn {lw:List Wd}{v lo hi:Int}{vs:List Int}(b:Option Int)(t:Int)(sh:List (List Int × List (List Int × Int)))(h:WN lw (v::vs))(hs:Sm v)(h0:lo≤v)(h1:v≤hi) :
 ∃ (p:Int) (l':List Wd),pnum en ee lo hi ⟨lw,b,t,sh⟩ = .ok (v,p) ⟨l',b,t,sh⟩∧WN l' vs:=by
 obtain⟨p,l',rfl,h2⟩:=h.cons;exact⟨_,l',pnum_cons l' b t sh (readW_small hs.1 hs.2) h0 h1,h2⟩
theorem pscope_read {n:Int}(b:Option Int)(t:Int)(sh:List (List Int × List (List Int × Int)))(hn:n≤1000000):∀ (sc out:List Int) {lw:List Wd} {vs:List Int},WN lw (sc++vs)→(∀v∈sc,0≤v∧v<n)→(out++sc).Nodup →
 ∃l',pscope en ee n sc.length out ⟨lw,b,t,sh⟩ = .ok (out++sc) ⟨l',b,t,sh⟩∧WN l' vs:=by
 intro sc
 induction sc with
 |nil=>intro out lw vs h _ _;exact⟨lw,by rw[List.append_nil];rfl,h⟩
 | cons v sc ih =>
   intro out lw vs h hb hnd;have hv:=hb v (by simp);obtain⟨p,l1,e1,h1⟩:=pn (en:=en) (ee:=ee) (lo:=0) (hi:=n-1) b t sh h ⟨by omega,by omega⟩ hv.1 (by omega);rw[show out++v::sc=out ++ [v]++sc by simp]at hnd ⊢;obtain⟨l2,e2,h2⟩:=ih (out ++ [v]) h1 (fun u hu=>hb u (by simp[hu])) hnd;refine⟨l2,?_,h2⟩;show pscope en ee n (sc.length+1) out _=_;unfold pscope;rw[e1,Res.bind_ok,if_neg ?_]
   ·exact e2
   ·intro hm
    have hd:=(List.nodup_append.1 (List.nodup_append.1 hnd).1).2.2 v hm v (by simp);exact hd rfl
theorem ptup_read (b:Option Int)(t:Int)(sh:List (List Int × List (List Int × Int))):∀ (ks u out:List Int) {lw:List Wd} {vs:List Int},WN lw (u++vs)→u.length=ks.length→(∀ (i:Nat) (v k:Int),u[i]?=some v→ks[i]?=some k→0≤v∧v<k)→(∀k∈ks,k≤1000000) →
 ∃l',ptup en ee ks out ⟨lw,b,t,sh⟩ = .ok (out++u) ⟨l',b,t,sh⟩∧WN l' vs:=by
 intro ks
 induction ks with
 | nil =>
   intro u out lw vs h hl _ _;obtain rfl:=List.eq_nil_of_length_eq_zero hl
   exact⟨lw,by rw[List.append_nil];rfl,h⟩
 | cons k ks ih =>
   intro u out lw vs h hl hb hk
   cases u with
   |nil=>cases hl
   | cons v u =>
     have hv:=hb 0 v k rfl rfl;have hkk:=hk k (by simp);obtain⟨p,l1,e1,h1⟩:=pn (en:=en) (ee:=ee) (lo:=0) (hi:=k-1) b t sh h ⟨by omega,by omega⟩ hv.1 (by omega);obtain⟨l2,e2,h2⟩:=ih u (out ++ [v]) h1 (by simpa using hl) (fun i x y hx hy=>hb (i+1) x y (by simpa using hx) (by simpa using hy)) fun y hy=>hk y (by simp[hy])
     refine⟨l2,?_,h2⟩;unfold ptup;rw[e1,Res.bind_ok];rw[show out++v::u=out ++ [v]++u by simp];exact e2
def flatL (ls:List (List Int × Int)):List Int:=ls.flatMap fun l=>l.1 ++ [l.2]
theorem flatL_cons (l:List Int × Int)(ls:List (List Int × Int)):flatL (l::ls)=l.1++([l.2]++flatL ls):=by unfold flatL;rw[List.flatMap_cons,List.append_assoc]
def LOk (sizes:List Int)(ls:List (List Int × Int)):Prop := ∀l∈ls,InS sizes l.1∧0≤l.2∧l.2≤4611686018427387904
theorem plines_read {sizes:List Int}(b:Option Int)(t:Int)(sh:List (List Int × List (List Int × Int)))(hk:∀k∈sizes,k≤1000000):∀ (ls out:List (List Int × Int)) {lw:List Wd} {vs:List Int},WN lw (flatL ls++vs)→LOk sizes ls→((out++ls).map Prod.fst).Nodup →
 ∃l',plines en ee sizes ls.length out ⟨lw,b,t,sh⟩ = .ok (out++ls) ⟨l',b,t,sh⟩∧WN l' vs:=by
 intro ls
 induction ls with
 |nil=>intro out lw vs h _ _;exact⟨lw,by rw[List.append_nil];rfl,h⟩
 | cons x ls ih =>
   intro out lw vs h hb hnd;obtain⟨h0,h1,h2⟩:=hb x (by simp);rw[flatL_cons,List.append_assoc,List.append_assoc]at h;obtain⟨l1,e1,g1⟩:=ptup_read (en:=en) (ee:=ee) b t sh sizes x.1 [] h h0.1 h0.2 hk;obtain⟨p,l2,e2,g2⟩:=pn (en:=en) (ee:=ee) (lo:=0) (hi:=far) b t sh g1 ⟨by omega,h2⟩ h1 h2;rw[show out++x::ls=out ++ [x]++ls by simp]at hnd ⊢;obtain⟨l3,e3,g3⟩:=ih (out ++ [x]) g2 (fun y hy=>hb y (by simp[hy])) hnd;refine⟨l3,?_,g3⟩;show plines en ee sizes (ls.length+1) out _=_;unfold plines;rw[e1,Res.bind_ok,e2,Res.bind_ok,List.nil_append,if_neg ?_]
   ·exact e3
   ·intro hm
    rw[List.map_append,List.map_append]at hnd;exact (List.nodup_append.1 (List.nodup_append.1 hnd).1).2.2 x.1 hm x.1 (by simp) rfl
theorem psizes_read {most:Int}(b:Option Int)(t:Int)(sh:List (List Int × List (List Int × Int)))(hm:most≤1000000):∀ (ks out:List Int) {lw:List Wd} {vs:List Int},WN lw (ks++vs)→(∀k∈ks,1≤k∧k≤most∧k≤32) →
 ∃l',psizes en ee most ks.length out ⟨lw,b,t,sh⟩ = .ok (out++ks) ⟨l',b,t,sh⟩∧WN l' vs:=by
 intro ks
 induction ks with
 |nil=>intro out lw vs h _;exact⟨lw,by rw[List.append_nil];rfl,h⟩
 | cons k ks ih =>
   intro out lw vs h hb;obtain⟨h0,h1,h2⟩:=hb k (by simp);obtain⟨p,l1,e1,g1⟩:=pn (en:=en) (ee:=ee) (lo:=1) (hi:=most) b t sh h ⟨by omega,by omega⟩ h0 h1;obtain⟨l2,e2,g2⟩:=ih (out ++ [k]) g1 fun y hy=>hb y (by simp[hy])
   refine⟨l2,?_,g2⟩;show psizes en ee most (ks.length+1) out _=_;unfold psizes;rw[e1,Res.bind_ok,plarge_no _ (by simp;omega),show out++k::ks=out ++ [k]++ks by simp];exact e2
def szA (all sc:List Int):List Int:=sc.map fun v=>all.getD v.toNat 0
theorem pfun_own {all sc:List Int}{o t a:Int}{ls:List (List Int × Int)}(sh:List (List Int × List (List Int × Int))){lw:List Wd}{vs:List Int}
 (h:WN lw (a::(sc++(o::(ls.length:Int)::(flatL ls++vs))))) (ha:a.natAbs=sc.length) (h6:sc.length≤6) (hall:all.length≤1000000) (hsc:∀v∈sc,0≤v∧v<all.length) (hnd:sc.Nodup) (hg:great (szA all sc)=false) (hsz:∀k∈szA all sc,k≤1000000)
 (ho:0≤o∧o≤4611686018427387904) (hl:LOk (szA all sc) ls) (hd:(ls.map Prod.fst).Nodup) (ht:0≤t) (hm:t+ls.length≤16384) :
 ∃l',pfun en ee all ⟨lw,none,t,sh⟩ = .ok ⟨sc,szA all sc,o,ls⟩ ⟨l',none,t+ls.length,if a<0 then sh ++ [(szA all sc,ls)] else sh⟩∧WN l' vs:=by
 obtain⟨p,l1,e1,g1⟩:=pn (en:=en) (ee:=ee) (lo := -far) (hi:=far) none t sh h (show Sm a by unfold Sm;omega) (by unfold far;omega) (by unfold far;omega);obtain⟨l2,e2,g2⟩:=pscope_read (en:=en) (ee:=ee) (n:=all.length) none t sh (by omega) sc [] g1 hsc (by simpa using hnd);obtain⟨q,l3,e3,g3⟩:=pn (en:=en) (ee:=ee) (lo:=0) (hi:=far) none t sh g2 ⟨by omega,ho.2⟩ ho.1 ho.2;obtain⟨r,l4,e4,g4⟩:=pn (en:=en) (ee:=ee) (lo := -far) (hi:=far) none t sh g3 ⟨by omega,by omega⟩ (by unfold far;omega) (by unfold far;omega);obtain⟨l5,e5,g5⟩:=plines_read (en:=en) (ee:=ee) (sizes:=szA all sc) none (t+ls.length) sh hsz ls [] g4 hl (by simpa using hd);refine⟨l5,?_,g5⟩;unfold pfun;rw[e1,Res.bind_ok];dsimp only;rw[ha,e2,Res.bind_ok,List.nil_append]
 rw[plarge_no _ (by
  show (decide ((sc.length:Int)>6) || great (szA all sc))=false
  rw[hg];simp;omega),e3,Res.bind_ok]
 unfold pall;rw[e4,Res.bind_ok];dsimp only;rw[if_neg (by omega),show min (t+(ls.length:Int)) far=t+ls.length by unfold far;omega,plarge_no _ (by simp;omega),show ((ls.length:Int).toNat)=ls.length by omega];show (Res.bind (plines en ee (szA all sc) ls.length [] ⟨l4,none,t+ls.length,sh⟩) _)=_;rw[e5,Res.bind_ok,List.nil_append];by_cases hn:a<0
 ·rw[if_pos hn,if_pos hn];rfl
 ·rw[if_neg hn,if_neg hn];rfl
end Go.Proofs.YtjpkkkphhaajgaaGreatDoor.wcp
namespace Go.Proofs.YtjpkkkphhaajgaaGreatDoor.wcp
open Go Go.Proofs.YtjpkkkphhaajgaaGreatDoor.words Go.Proofs.YtjpkkkphhaajgaaGreatDoor.scn
open Go.Proofs.YtjpkkkphhaajgaaGreatDoor.shp (Szs prodI InT idxI tupI allI)
def joinW:List (List UInt8)→List UInt8
 | [] => []
 |w::ws=>w++ws.flatMap fun v=>32::v
def lineW (ws:List (List UInt8)):List UInt8:=joinW ws ++ [10]
def decs (l:List Int):List (List UInt8):=l.map Lib.itoa
theorem joinW_two (w v:List UInt8)(ws:List (List UInt8)):joinW (w::v::ws)=w ++ [32]++joinW (v::ws):=by
 simp[joinW]
def Good (v:List UInt8):Prop:=v ≠ []∧v.all (fun b=>isIn b.toNat)=true
theorem bld_line:∀ (ws:List (List UInt8)),ws ≠ []→(∀v∈ws,Good v)→∀ {bs:List UInt8} {l:List Wd},Bld bs l→∃lw,Bld (bs++lineW ws) (l++lw)∧lw.map Prod.fst=ws
 | [],h,_,_,_,_=>absurd rfl h
 | [w],_,hg,bs,l,h=>by
   obtain⟨h1,h2⟩:=hg w (by simp);refine⟨[(w,bs.length)],?_,rfl⟩;have:=h.word h1 h2 (b:=10) (by decide);unfold lineW joinW
   simpa using this
 | w::v::ws,_,hg,bs,l,h=>by
   obtain⟨h1,h2⟩:=hg w (by simp);obtain⟨lw,h3,h4⟩:=bld_line (v::ws) (by simp) (fun u hu=>hg u (by simp at hu ⊢;exact .inr hu)) (h.word h1 h2 (b:=32) (by decide));refine⟨(w,bs.length)::lw,?_,by rw[List.map_cons,h4]⟩;unfold lineW at h3 ⊢;rw[joinW_two]
   simpa [List.append_assoc] using h3
theorem good_dec (n:Int):Good (Lib.itoa n):=itoa_in n
theorem good_decs {l:List Int}:∀v∈decs l,Good v:=fun v hv=>by
 unfold decs at hv;obtain⟨n,-,rfl⟩:=List.mem_map.1 hv;exact good_dec n
theorem good_word {v:List UInt8}(h:IsWord v):Good v:=by
 refine⟨h.1,?_⟩;rw[List.all_eq_true];intro b hb;obtain⟨i,hi⟩:=List.getElem?_of_mem hb;obtain⟨hl,he⟩:=List.getElem?_eq_some_iff.1 hi;have:=h.2 i hl;unfold at_ at this;rw[List.getD_eq_getElem?_getD,hi]at this;exact this
theorem bld_nums {ns:List Int}(h0:ns ≠ []){bs:List UInt8}{l:List Wd}(h:Bld bs l):∃lw,Bld (bs++lineW (decs ns)) (l++lw)∧WN lw ns:=by
 obtain⟨lw,h1,h2⟩:=bld_line (decs ns) (by unfold decs;simpa using h0) good_decs h;exact⟨lw,h1,h2⟩
def linT (l:List Int × Int):List UInt8:=lineW (decs (l.1 ++ [l.2]))
theorem WN.append {l m:List Wd}{vs us:List Int}(h:WN l vs)(k:WN m us):WN (l++m) (vs++us):=by
 unfold WN at *;rw[List.map_append,List.map_append,h,k]
theorem bld_lines:∀ (ls:List (List Int × Int)) {bs:List UInt8} {l:List Wd},Bld bs l→∃lw,Bld (bs++ls.flatMap linT) (l++lw)∧WN lw (flatL ls)
 | [],bs,l,h=>⟨[],by simpa using h,rfl⟩
 | x::ls,bs,l,h=>by
   obtain⟨l1,h1,g1⟩:=bld_nums (ns:=x.1 ++ [x.2]) (by simp) h;obtain⟨l2,h2,g2⟩:=bld_lines ls h1;refine⟨l1++l2,?_,?_⟩
   ·rw[List.flatMap_cons,← List.append_assoc,← List.append_assoc];exact h2
   ·have:=g1.append g2
    rw[flatL_cons,← List.append_assoc];exact this
def funH (x:Raw):List Int:=(x.scope.length:Int)::(x.scope ++ [x.other,(x.lines.length:Int)])
def funT (x:Raw):List UInt8:=lineW (decs (funH x))++x.lines.flatMap linT
def funN (x:Raw):List Int:=funH x++flatL x.lines
theorem bld_funs:∀ (fs:List Raw) {bs:List UInt8} {l:List Wd},Bld bs l→∃lw,Bld (bs++fs.flatMap funT) (l++lw)∧WN lw (fs.flatMap funN)
 | [],bs,l,h=>⟨[],by simpa using h,rfl⟩
 | x::fs,bs,l,h=>by
   obtain⟨l1,h1,g1⟩:=bld_nums (ns:=funH x) (by simp[funH]) h;obtain⟨l2,h2,g2⟩:=bld_lines x.lines h1;obtain⟨l3,h3,g3⟩:=bld_funs fs h2;refine⟨l1++(l2++l3),?_,?_⟩
   ·rw[List.flatMap_cons]
    show Bld (bs++((lineW (decs (funH x))++x.lines.flatMap linT)++fs.flatMap funT)) _
    simpa only[List.append_assoc] using h3
   ·rw[List.flatMap_cons]
    show WN _ ((funH x++flatL x.lines)++fs.flatMap funN);rw[List.append_assoc];exact g1.append (g2.append g3)
def maxI (l:List Int):Int:=l.foldl max (l.headD 0)
def headN (f:Fil):List Int := [(f.sizes.length:Int),maxI f.sizes,(f.funs.length:Int),f.k]
def textF (f:Fil):List UInt8:=lineW (f.name::decs (headN f))++(lineW (decs f.sizes)++f.funs.flatMap funT)
theorem bld_text {f:Fil}(hn:Good f.name)(h0:f.sizes ≠ []):∃p lw,Bld (textF f) ((f.name,p)::lw)∧WN lw (headN f++(f.sizes++f.funs.flatMap funN)):=by
 obtain⟨l1,h1,g1⟩:=bld_line (f.name::decs (headN f)) (by simp) (fun v hv=>by
  rcases List.mem_cons.1 hv with rfl | hv
  ·exact hn
  ·exact good_decs v hv) bld_nil
 obtain⟨l2,h2,g2⟩:=bld_nums h0 h1;obtain⟨l3,h3,g3⟩:=bld_funs f.funs h2
 cases l1 with
 |nil=>cases g1
 | cons a l1 =>
   rw[List.map_cons]at g1;injection g1 with e1 e2
   obtain⟨av,ap⟩:=a;obtain rfl:av=f.name:=e1;refine⟨ap,l1++(l2++l3),?_,?_⟩
   ·unfold textF
    simpa only[List.nil_append,List.append_assoc,List.cons_append] using h3
   ·have e3:WN l1 (headN f):=e2
    exact e3.append (g2.append g3)
structure FunP (zs:List Int) (x:Raw):Prop where
 h6:x.scope.length≤6
 sc:∀v∈x.scope,0≤v∧v<(zs.length:Int)
 nd:x.scope.Nodup
 sz:x.sizes=szOf zs x.scope
 s1:∀k∈x.sizes,1≤k∧k≤32
 gr:great x.sizes=false
 o:0≤x.other∧x.other≤4611686018427387904
 lok:LOk x.sizes x.lines
 lnd:(x.lines.map Prod.fst).Nodup
theorem pfuns_read {en ee:Int}{zs:List Int}(hz:zs.length≤1000000):∀ (fs:List Raw) (out:List Raw) (t:Int) {lw:List Wd} {vs:List Int},WN lw (fs.flatMap funN++vs)→(∀x∈fs,FunP zs x)→0≤t→t+linesOf fs≤16384 →
 ∃l' t',pfuns en ee zs fs.length out ⟨lw,none,t,[]⟩ = .ok (out++fs) ⟨l',none,t',[]⟩∧WN l' vs:=by
 intro fs
 induction fs with
 |nil=>intro out t lw vs h _ _ _;exact⟨lw,t,by rw[List.append_nil];rfl,h⟩
 | cons x fs ih =>
   intro out t lw vs h hP h0 hl;have hx:=hP x (by simp);have e0:szA zs x.scope=x.sizes:=hx.sz.symm
   have e9:(x::fs).flatMap funN++vs=(x.scope.length:Int)::(x.scope++(x.other::(x.lines.length:Int)::(flatL x.lines++(fs.flatMap funN++vs)))):=by
    rw[List.flatMap_cons];show (((x.scope.length:Int)::(x.scope ++ [x.other,(x.lines.length:Int)]))++flatL x.lines++fs.flatMap funN)++vs=_;simp
   rw[e9]at h;have hll:linesOf (x::fs)=x.lines.length+linesOf fs:=rfl;rw[hll]at hl
   obtain⟨l1,e1,g1⟩:=pfun_own (en:=en) (ee:=ee) (all:=zs) (sc:=x.scope) (o:=x.other) (t:=t) (a:=(x.scope.length:Int)) (ls:=x.lines) (vs:=fs.flatMap funN++vs) [] (lw:=lw) h (by omega) hx.h6 hz hx.sc hx.nd (by rw[e0];exact hx.gr)
    (by rw[e0];exact fun k hk=>by have:=hx.s1 k hk;omega) hx.o (by rw[e0];exact hx.lok) hx.lnd h0 (by omega)
   obtain⟨l2,t2,e2,g2⟩:=ih (out ++ [x]) (t+x.lines.length) g1 (fun y hy=>hP y (by simp[hy])) (by omega) (by omega);refine⟨l2,t2,?_,g2⟩;show pfuns en ee zs (fs.length+1) out _=_;unfold pfuns;rw[e1,Res.bind_ok,if_neg (by omega),show out++x::fs=out ++ [x]++fs by simp];have:(⟨x.scope,szA zs x.scope,x.other,x.lines⟩:Raw)=x:=by rw[e0]
   rw[this];exact e2
theorem foldl_max_ge:∀ (l:List Int) (a:Int),a≤l.foldl max a∧∀v∈l,v≤l.foldl max a
 | [],a=>⟨Int.le_refl _,fun v h=>by cases h⟩
 | b::l,a=>by
   obtain⟨h1,h2⟩:=foldl_max_ge l (max a b);rw[List.foldl_cons];refine⟨by omega,fun v hv=>?_⟩;rcases List.mem_cons.1 hv with rfl | hv
   ·omega
   ·exact h2 v hv
theorem maxI_ge {l:List Int}:∀v∈l,v≤maxI l:=(foldl_max_ge l _).2
theorem foldl_max_le {M:Int}:∀ (l:List Int) (a:Int),a≤M→(∀v∈l,v≤M)→l.foldl max a≤M
 | [],a,h,_=>h
 | b::l,a,h,hl=>by
   rw[List.foldl_cons];exact foldl_max_le l _ (by have:=hl b (by simp);omega) fun v hv=>hl v (by simp[hv])
theorem maxI_le {l:List Int}{M:Int}(h0:l ≠ [])(h:∀v∈l,v≤M):maxI l≤M:=by
 obtain⟨a,l,rfl⟩:=List.exists_cons_of_ne_nil h0;exact foldl_max_le _ _ (h a (by simp)) h
structure FilP (f:Fil):Prop where
 name:IsWord f.name
 nlen:f.name.length≤64
 k1:1≤f.k
 k2:f.k≤2147483648
 s0:f.sizes ≠ []
 s1:∀v∈f.sizes,1≤v∧v≤32
 s2:f.sizes.length≤64
 n:f.funs.length≤256
 fs:∀x∈f.funs,FunP f.sizes x
 li:linesOf f.funs≤16384
theorem text_read {f:Fil}(h:FilP f):∃l,scn.Told (textF f) l (-1)∧pread (enOf (textF f) (-1)) (eeOf (-1)) l = .file f:=by
 obtain⟨p,lw,hb,hw⟩:=bld_text (good_word h.name) h.s0;refine⟨_,hb.told,?_⟩;have hee:eeOf (-1)=4:=rfl;rw[hee];generalize enOf (textF f) (-1)=en;unfold headN at hw;have hs2:=h.s2;have hn:=h.n;have hk1:=h.k1;have hk2:=h.k2;have hm1:∀v∈f.sizes,v≤maxI f.sizes:=maxI_ge;have hm2:maxI f.sizes≤32:=maxI_le h.s0 fun v hv=>(h.s1 v hv).2
 have hl0:=List.length_pos_iff.2 h.s0
 have hm3:1≤maxI f.sizes:=by
  obtain⟨v,hv⟩:=List.exists_mem_of_ne_nil _ h.s0;have:=(h.s1 v hv).1;have:=hm1 v hv;omega
 obtain⟨p1,l1,e1,g1⟩:=pn (en:=en) (ee:=4) (lo:=1) (hi:=far) none 0 [] hw ⟨by omega,by omega⟩ (by omega) (by unfold far;omega);obtain⟨p2,l2,e2,g2⟩:=pn (en:=en) (ee:=4) (lo:=1) (hi:=far) none 0 [] g1 ⟨by omega,by omega⟩ hm3 (by unfold far;omega);obtain⟨p3,l3,e3,g3⟩:=pn (en:=en) (ee:=4) (lo:=0) (hi:=far) none 0 [] g2 ⟨by omega,by omega⟩ (by omega) (by unfold far;omega);obtain⟨p4,l4,e4,g4⟩:=pn (en:=en) (ee:=4) (lo:=1) (hi:=far) none 0 [] g3 ⟨by omega,by omega⟩ hk1 (by unfold far;omega);obtain⟨l5,e5,g5⟩:=psizes_read (en:=en) (ee:=4) (most:=maxI f.sizes) none 0 [] (by omega) f.sizes [] (lw:=l4) (vs:=f.funs.flatMap funN) g4 fun k hk=>⟨(h.s1 k hk).1,hm1 k hk,(h.s1 k hk).2⟩
 obtain⟨l6,t6,e6,g6⟩:=pfuns_read (en:=en) (ee:=4) (zs:=f.sizes) (by omega) f.funs [] 0 (lw:=l5) (vs := []) (by simpa using g5) h.fs (by omega) (by have:=h.li;omega)
 have hb:pbody en 4 ⟨(f.name,p)::lw,none,0,[]⟩ = .ok f ⟨l6,none,t6,[]⟩:=by
  unfold pbody;rw[pword_cons,Res.bind_ok,plarge_no _ (by have:=h.nlen;simp;omega),e1,Res.bind_ok,plarge_no _ (by simp;omega),e2,Res.bind_ok,e3,Res.bind_ok,plarge_no _ (by simp;omega),e4,Res.bind_ok,plarge_no _ (by simp;omega)];dsimp only;rw[show ((f.sizes.length:Int).toNat)=f.sizes.length by omega,e5,Res.bind_ok,List.nil_append];rw[show ((f.funs.length:Int).toNat)=f.funs.length by omega,e6,Res.bind_ok,List.nil_append]
 unfold pread;rw[hb];obtain rfl:=g6.nil;rfl
end Go.Proofs.YtjpkkkphhaajgaaGreatDoor.wcp
namespace Go.Proofs.YtjpkkkphhaajgaaGreatDoor.wcp
open Go Go.RowKit Go.ChangeShapes Go.WideShapes Go.ChangeAt Go.Maps Go.Proofs.YtjpkkkphhaajgaaGreatDoor.words Go.Proofs.YtjpkkkphhaajgaaGreatDoor.scn
def lastC (o:Int)(ls:List (List Int × Int))(t:List Int):Int:=ls.foldl (fun c l=>if l.1=t then l.2 else c) o
theorem lastC_snoc (o:Int)(ls:List (List Int × Int))(l:List Int × Int)(t:List Int):lastC o (ls ++ [l]) t=if l.1=t then l.2 else lastC o ls t:=by unfold lastC;rw[List.foldl_append];rfl
theorem putF_get (T:TpH)(t u:List Int)(c:Int):(putF T t c).get u=if t=u then c else T.get u:=by
 unfold TpH.get putF;dsimp only;by_cases hc:c=T.other
 ·rw[if_pos hc]
  by_cases h:t=u
  ·subst h;simp[hc]
  ·rw[if_neg (fun e=>h e.symm),if_neg h]
 ·rw[if_neg hc]
  by_cases h:t=u
  ·subst h;simp
  ·rw[if_neg (fun e=>h e.symm),if_neg h]
theorem get_last (f:Raw)(K:Int)(u:List Int):∀ls:List (List Int × Int),(tpOf f K ls).get u=min (lastC f.other ls u) K:=by
 intro ls;generalize hn:ls.length=n
 induction n generalizing ls with
 | zero =>
   obtain rfl:=List.eq_nil_of_length_eq_zero hn;unfold lastC tpOf TpH.get
   rfl
 | succ n ih =>
   obtain⟨l0,l,rfl⟩:∃l0 l,ls=l0 ++ [l]:=⟨ls.dropLast,ls.getLast (by intro h;rw[h]at hn;cases hn),(List.dropLast_concat_getLast _).symm⟩;rw[tpOf_snoc,putF_get,lastC_snoc,ih l0 (by simpa using hn)];split<;>rfl
theorem less_any (a b:Int)(w:World):Calls Tryz.prog 73 #[.int .i64 a,.int .i64 b] w fun e w'=>e = .returned (.int .i64 (min a b))∧w=w':=by
 by_cases h:a<b
 ·have hI:decide (a<b)=true:=decide_eq_true h
  have hm:min a b=a:=by omega
  rw[hm];clear h hm
  go_enter Tryz.func73,Tryz.ntmps73
  go_wp2
  go_ret;exact⟨rfl,rfl⟩
 ·have hI:decide (a<b)=false:=decide_eq_false h
  have hm:min a b=b:=by omega
  rw[hm];clear h hm
  go_enter Tryz.func73,Tryz.ntmps73
  go_wp2
  go_ret;exact⟨rfl,rfl⟩
set_option maxRecDepth 100000 in
set_option maxHeartbeats 8000000 in
theorem qcost_any {w:World}{v1 v2 v4:Value}{o:Int}{f:Raw}(h:QFn w v1 v2 o v4 f)(A:Option Addr)(n cap:Nat)(t:List Int)(hr:Reads w w.heap.size 1 A n (nums t))(hn:n≤1000000)(k:Int) :
 Calls Tryz.prog 30 #[.agg #[v1,v2,.int .i64 o,v4],.slice A n cap,.int .i64 k] w fun e w'=>e = .returned (.int .i64 (min (lastC f.other f.lines t) k))∧Below w.heap.size w w':=by
 obtain⟨rfl,⟨⟨A1,c1,rfl⟩,-⟩,⟨⟨A2,c2,rfl⟩,-⟩,L,hL,⟨A4,c4,rfl⟩,hown,hrows⟩:=h;have hb1:=bone w (.cells #[.slice A1 f.scope.length c1,.slice A2 f.sizes.length c2,.int .i64 f.other,.slice A4 L.length c4] 70);obtain⟨x0,x1,x2,x3,-⟩:=Blk.four (t:=70) (Blk.new w 70 #[.slice A1 f.scope.length c1,.slice A2 f.sizes.length c2,.int .i64 f.other,.slice A4 L.length c4]);have hlm:=own_max hown;obtain⟨w1,hw1⟩:∃w1,w.alloc (.cells #[.slice A1 f.scope.length c1,.slice A2 f.sizes.length c2,.int .i64 f.other,.slice A4 L.length c4] 70)=w1:=⟨_,rfl⟩;rw[hw1]at hb1 x0 x1 x2 x3;have HB1:=Hd hb1;have HO:=Hd (own_under hown hb1);have HR:=Hd (hr.below hb1 |>.more hb1.size);have HRO:=Hd (fun p hp=>(hrows p hp).tch (Tch.of_below hb1 (fun _=>False)) (fun _ h=>h.elim));have HL:=Hd hL;have htl:=nums_len hr;have HTL:=Hd htl;clear hown hrows hr hb1 hL htl
 go_enter Tryz.func30,Tryz.ntmps30
 go_wp2_with fail;clear x0 x1 x2 x3 hw1
 go_loopw [7,15] (fun cv jv wr => ∃j:Nat,jv = .int .i64 j∧j≤L.length∧cv = .int .i64 (lastC f.other (f.lines.take j) t)∧Hid (Below w1.heap.size w1 wr)) (fun _ jv _=>L.length-(intOf jv).toNat)
 case atStart=>exact⟨0,rfl,Nat.zero_le _,rfl,Below.refl _ _⟩
 case round =>
  obtain⟨j,rfl,hj,rfl,hb⟩:=hrel;by_cases hjl:j<L.length
  ·obtain⟨p,hp⟩:∃p,L[j]?=some p:=⟨_,List.getElem?_eq_getElem hjl⟩
   have ho:=own_under HO.out hb.out;obtain⟨q4,rfl,-,-⟩:=own_some ho (by omega);obtain⟨⟨tA,tC,htv⟩,hro⟩:=HRO.out p (List.mem_of_getElem? hp);obtain⟨tv,tu,tk⟩:=p;dsimp only at htv hro;subst htv;have hfl:f.lines[j]?=some (tu,tk):=by rw[← HL.out,List.getElem?_map,hp];rfl
   obtain⟨e1,e2⟩:=qlc_at hp;have c40:=(ho.cellAt (j*2) (by omega)).trans e1;have c41:=(ho.cellAt (j*2+1) (by omega)).trans e2;have jI:decide ((j:Int)<(L.length:Int))=true:=decide_eq_true (by omega);have i0:(0:Int)≤(j:Int):=Int.natCast_nonneg _;have i1:(j:Int)<(L.length:Int):=by omega
   have hby:=bone wr (.cells #[.slice tA tu.length tC,.int .i64 tk] 137);obtain⟨z0,z1⟩:=Blk.two (Blk.new wr 137 #[.slice tA tu.length tC,.int .i64 tk]);obtain⟨wy,hwy⟩:∃wy,wr.alloc (.cells #[.slice tA tu.length tC,.int .i64 tk] 137)=wy:=⟨_,rfl⟩;rw[hwy]at hby z0 z1;have hbb:Below w1.heap.size w1 wy:=hb.out.trans (hby.mono hb.out.size);have hsm:=same_ref tA A tu.length n tC cap tu t wy (own_max hro) (by omega) (Reads.of_own (own_under hro hbb)) ((HR.out.below hbb).more hbb.size);have hst:lastC f.other (f.lines.take (j+1)) t=if tu=t then tk else lastC f.other (f.lines.take j) t:=by rw[List.take_add_one,hfl];exact lastC_snoc _ _ _ _
   have HST:=Hd hst;have HBB:=Hd hbb;have hlt2:wr.heap.size<wy.heap.size:=by rw[← hwy];simp
   clear hp ho hro hfl e1 e2 hby hbb hst;go_wp2_with fail;refine hsm.mono ?_;rintro e w7 ⟨rfl,hb7⟩;have HB7:=Hd (HBB.out.trans (hb7.mono HBB.out.size));have z1':=((bcell hb7).1 wr.heap.size 1 hlt2).trans z1;clear hsm hb7 z0 z1 c40 c41 hwy hlt2;by_cases hE:tu=t
   ·have hEb:eqB tu t=true:=decide_eq_true hE
    have HE:=Hd hE;clear hE;go_wp2_with fail;go_roundw
    case measure=>simp[intOf];omega
    case rel=>exact⟨j+1,by go_num,hjl,by rw[HST.out,if_pos HE.out],HB7⟩
   ·have hEb:eqB tu t=false:=decide_eq_false hE
    have HE:=Hd hE;clear hE z1';go_wp2_with fail;go_roundw
    case measure=>simp[intOf];omega
    case rel=>exact⟨j+1,by go_num,hjl,by rw[HST.out,if_neg HE.out],HB7⟩
  ·obtain rfl:j=L.length:=by omega
   have jI:decide ((L.length:Int)<(L.length:Int))=false:=decide_eq_false (by omega);have hll:L.length=f.lines.length:=by rw[← HL.out];simp
   have hls:=less_any (lastC f.other (f.lines.take L.length) t) k wr;rw[List.take_of_length_le (by omega)]at hls ⊢;clear hll;go_wp2_with fail;refine hls.mono ?_;rintro e w8 ⟨rfl,rfl⟩;go_wp2_with fail;go_ret;exact⟨rfl,HB1.out.trans (hb.out.mono HB1.out.size)⟩
theorem QFn.below {w w':World}{v1 v2 v4:Value}{o:Int}{f:Raw}(h:QFn w v1 v2 o v4 f)(hb:Below w.heap.size w w'):QFn w' v1 v2 o v4 f:=h.tch (Tch.of_below hb (fun _=>False)) (fun _ h=>h.elim) (fun _ h=>h.elim)
theorem QFileV.below {w w':World}{B g:Nat}{f:Fil}(h:QFileV w B g f)(hb:Below w.heap.size w w'):QFileV w' B g f:=by
 obtain⟨vz,vf,V,h1,h2,h3,h4,h5,h6⟩:=h;exact⟨vz,vf,V,h1,h2.under hb,h3.tch (Tch.of_below hb (fun _=>False)) (fun _ h=>h.elim),h4,own_under h5 hb,fun p hp=>(h6 p hp).below hb⟩
theorem infoInt8:(Tryz.prog.info? 3).map (fun i=>(i.zero,i.size,i.bytes))=some (some (.int .i64 0),1,8):=by kernel_rfl
end Go.Proofs.YtjpkkkphhaajgaaGreatDoor.wcp
