/- a part -/
import Derived.Test.YtjpkkkphhaajgaaGreatDoorQdP37
set_option linter.all false
namespace Go.Proofs.YtjpkkkphhaajgaaGreatDoor.wcp
open Go RowKit ChangeShapes WideShapes ChangeAt Maps words scn
theorem own_trunc {w:World}{base s n c m:Nat}{e:TypeId}{A:Option Addr}{xs:List Value}(h:w.ownsRow base e s (.slice A n c) n xs)(hm:m≤n):w.ownsRow base e s (.slice A m c) m (xs.take (m*s)):=by
 obtain⟨hl,h2⟩:=h;have hms:m*s≤n*s:=Nat.mul_le_mul_right _ hm;refine⟨by rw[List.length_take,hl,Nat.min_eq_left hms],?_⟩;rcases h2 with⟨h0,hn⟩ | ⟨g',cap',cur,hv,hg,hh,hn,hcap,hsz,htake⟩
 ·injection h0 with h1 h2 h3
  subst h1;subst h3;obtain rfl:m=0:=by omega
  exact .inl ⟨rfl,rfl⟩
 ·injection hv with h1 _ h3
  subst h1;subst h3;refine .inr ⟨g',c,cur,rfl,hg,hh,by omega,hcap,hsz,?_⟩;rw[← htake,List.take_take,Nat.min_eq_left hms]
theorem take_set {α:Type}(xs:List α)(j k:Nat)(u:α)(h:k≤j):(xs.set j u).take k=xs.take k:=by
 apply List.ext_getElem?
 intro i;rw[List.getElem?_take,List.getElem?_take];by_cases hi:i<k
 ·rw[if_pos hi,if_pos hi,List.getElem?_set_ne (by omega)]
 ·rw[if_neg hi,if_neg hi]
theorem own_setCells {base size g n cap:Nat}{e:TypeId}:∀ (vs:List Value) (o:Nat) {w:World} {xs:List Value},w.ownsRow base e size (.slice (some ⟨g,0,none⟩) n cap) n xs→∃ys,(w.setCells g o vs).ownsRow base e size (.slice (some ⟨g,0,none⟩) n cap) n ys∧ys.take o=xs.take o∧Tch w (w.setCells g o vs) (fun q=>q=g)
 | [],o,w,xs,h=>⟨xs,h,rfl,Tch.refl _ _⟩
 | v::vs,o,w,xs,h=>by
   have h1:=(h.stored o v).1;obtain⟨ys,h2,h3,h4⟩:=own_setCells vs (o+1) h1;refine⟨ys,h2,?_,(Tch.set_ (S:=fun q=>q=g) w (p:=⟨g,o,none⟩) v rfl).trans h4 fun _ _ h=>h⟩;have e1:=congrArg (List.take o) h3;rw[List.take_take,List.take_take,Nat.min_eq_left (by omega)]at e1;rw[e1,take_set _ _ _ _ (Nat.le_refl _)]
theorem clear_two (w:World)(t e ty:TypeId)(a b:Value)(ht:Tryz.prog.underlying t=some (.slice e))(hv:∀w,(zeroValue e).run Tryz.prog w = .ok (.agg #[a,b]) w)(ha:a.oneCell'=true)(hb:b.oneCell'=true)(g o n c:Nat)(hn:0<n)
 (hc:∀j,j<n*2→(w.cell? ⟨g,o+j,none⟩).isSome=true) (hf:∀j,j<n*2→w.frozen? ⟨g,o+j,none⟩=false) :
 ∃vs:List Value,(Builtin.clear_ #[t] ty #[.slice (some ⟨g,o,none⟩) n c]).run Tryz.prog w = .ok (.tuple #[]) (w.setCells g o vs):=by
 obtain⟨vs,hvs⟩:∃vs,(Builtin.zeroCells (Value.agg #[a,b]).cells n).toList=vs:=⟨_,rfl⟩;have hl:vs.length=n*2:=by rw[← hvs];simp[Builtin.zeroCells,Value.cells]
 have hone:∀v∈vs,v.oneCell'=true:=by
  intro v hv;rw[← hvs]at hv;simp only[Builtin.zeroCells,Value.cells,Array.toList_map,List.mem_map]at hv;obtain⟨i,-,rfl⟩:=hv;have h2:i % 2=0∨i % 2=1:=by omega
  show ((#[a,b]:Array Value)[i % 2]!).oneCell'=true;rcases h2 with h2 | h2<;>rw[h2]<;>assumption
 have hst:=run_storeCells_cells (P:=Tryz.prog) g o vs 0 w (by rw[hl];simpa using hc) (by rw[hl];simpa using hf) hone;simp only[Nat.add_zero]at hst;obtain⟨m,rfl⟩:∃m,n=m+1:=⟨n-1,by omega⟩;refine⟨vs,?_⟩;simp[Builtin.clear_,run_underlying ht,hv,hvs,hst]
theorem canon2_any {w:World}{B:Nat}{K:Int}{p:GT}(h:GV w B K p)(hn:p.2.C.length≤4096) :
 Calls Tryz.prog 40 #[p.1] w fun e w'=>e = .returned (.bool (isNothing p.2))∧Below w.heap.size w w':=by
 obtain⟨A,c,g,h1,-,h3⟩:=h;rw[h1];exact nothing_any h3 hn _
def FirstN (V:List GT)(e:Ending):Prop :=
 (e = .returned (.int .i64 (-1))∧∀p∈V,isNothing p.2=false)∨∃ (i:Nat) (p:GT),e = .returned (.int .i64 i)∧V[i]?=some p∧isNothing p.2=true∧∀ (j:Nat) x,j<i→V[j]?=some x→isNothing x.2=false
set_option maxRecDepth 100000 in
set_option maxHeartbeats 8000000 in
theorem indexN_any {w:World}{B B':Nat}{K:Int}{V:List GT}{L:Option Addr}{lc:Nat}(hrow:w.ownsRow B' 88 2 (.slice L V.length lc) V.length (gcells V))(hv:∀p∈V,GV w B K p∧p.2.C.length≤4096)(hV:V.length≤256) :
 Calls Tryz.prog 37 #[.slice L V.length lc,.func (.func 40) #[] #[]] w fun e w'=>FirstN V e∧Below w.heap.size w w':=by
 have H2:Hid (∀p∈V,∃a b,p.1 = .agg #[a,b]):=fun p hp=>(hv p hp).1.two
 have HV:=Hd hv;have HROW:=Hd hrow;clear hv hrow
 go_enter Tryz.func37,Tryz.ntmps37
 go_wp2_with fail
 go_loopw [5,8] (fun _ jv wr => ∃j:Nat,jv = .int .i64 j∧j≤V.length∧Hid (∀ (i:Nat) x,i<j→V[i]?=some x→isNothing x.2=false)∧Below w.heap.size w wr) (fun _ jv _=>V.length-(intOf jv).toNat)
 case atStart=>exact⟨0,rfl,Nat.zero_le _,(fun i x hi=>by omega),Below.refl _ _⟩
 case round =>
  obtain⟨j,rfl,hj,HN,hb⟩:=hrel;by_cases hlt:j<V.length
  ·have hrow:=own_under HROW.out hb
   obtain⟨p,hp⟩:∃p,V[j]?=some p:=⟨_,List.getElem?_eq_getElem hlt⟩;have hpm:=List.mem_of_getElem? hp;have hfp:=(HV.out p hpm).1.under hb;have hp64:=(HV.out p hpm).2;obtain⟨a,b,hab⟩:=H2.out p hpm;have hun:=canon2_any hfp hp64;obtain⟨pv,pf⟩:=p;dsimp only at hab hfp hun hp64;subst hab;obtain⟨c0,c1⟩:=gc_at H2.out hp;obtain⟨fq,rfl,_,_⟩:=own_some hrow (by omega);have d0:=(hrow.cellAt (j*2) (by omega)).trans c0;have d1:=(hrow.cellAt (j*2+1) (by omega)).trans c1;have i0:(0:Int)≤(j:Int):=Int.natCast_nonneg _;have i1:(j:Int)<(V.length:Int):=by omega
   have HBW:=Hd hb;have HP:=Hd hp;obtain⟨v1,k1,tg,e1,-⟩:=hfp;injection e1 with e1
   obtain⟨rfl,rfl⟩:a = .slice v1 pf.scope.length k1∧b = .pointer (some ⟨tg,0,none⟩):=by simpa using e1
   clear hrow hp hpm c0 c1 hb e1
   cases hdc:isNothing pf with
   | false =>
     rw[hdc]at hun;have HD:=Hd hdc;clear hdc;go_wp2_with fail;refine hun.mono ?_;rintro e w2 ⟨rfl,hb2⟩;clear hun;have HB2:=Hd (bto HBW.out hb2);clear hb2 d0 d1;go_wp2_with fail;go_roundw
     case measure=>simp[intOf];omega
     case rel =>
      refine⟨j+1,by go_num,by omega,fun i x hi hx=>?_,HB2.out⟩;by_cases hij:i=j
      ·subst hij
       rw[HP.out]at hx;obtain rfl:=Option.some.inj hx;exact HD.out
      ·exact HN.out i x (by omega) hx
   | true =>
     rw[hdc]at hun;have HD:=Hd hdc;clear hdc;go_wp2_with fail;refine hun.mono ?_;rintro e w2 ⟨rfl,hb2⟩;clear hun;have HB2:=Hd (bto HBW.out hb2);clear hb2 d0 d1;go_wp2_with fail;go_ret;exact⟨.inr ⟨j,_,rfl,HP.out,HD.out,HN.out⟩,HB2.out⟩
  ·obtain rfl:j=V.length:=by omega
   have HBW:=Hd hb;clear hb;go_wp2_with fail;go_ret;refine⟨.inl ⟨rfl,fun p hp=>?_⟩,HBW.out⟩;obtain⟨i,hi⟩:=List.getElem?_of_mem hp;exact HN.out i p (List.getElem?_eq_some_iff.1 hi).1 hi
theorem gc_set2 {V:List GT}(h2:∀p∈V,∃a b,p.1 = .agg #[a,b]):∀ {i:Nat} {a b:Value} {f:CF},i<V.length→((gcells V).set (i*2) a).set (i*2+1) b=gcells (V.set i (.agg #[a,b],f)):=by
 induction V with
 |nil=>intro i a b f h;simp at h
 | cons q V ih =>
   intro i a b f h;obtain⟨a0,b0,hq⟩:=h2 q (by simp);obtain⟨qv,qf⟩:=q;dsimp only at hq;subst hq
   cases i with
   |zero=>rfl
   | succ i =>
     have:=ih (fun p hp=>h2 p (by simp[hp])) (i:=i) (f:=f) (a:=a) (b:=b) (by simpa using h);rw[show (i+1)*2+1=i*2+1+1+1 by omega,show (i+1)*2=i*2+1+1 by omega];show a0::b0::((gcells V).set (i*2) a).set (i*2+1) b=a0::b0::gcells (V.set i _);rw[this]
theorem gc_take {V:List GT}(h2:∀p∈V,∃a b,p.1 = .agg #[a,b]):∀ (i:Nat),(gcells V).take (i*2)=gcells (V.take i):=by
 induction V with
 |nil=>intro i;simp[gcells]
 | cons q V ih =>
   intro i;obtain⟨a0,b0,hq⟩:=h2 q (by simp);obtain⟨qv,qf⟩:=q;dsimp only at hq;subst hq
   cases i with
   |zero=>rfl
   | succ i =>
     have:=ih (fun p hp=>h2 p (by simp[hp])) i;rw[show (i+1)*2=i*2+1+1 by omega];show a0::b0::(gcells V).take (i*2)=a0::b0::gcells (V.take i);rw[this]
def keepN (V:List GT):List GT:=V.filter fun p => !isNothing p.2
structure KeptN (V X:List GT) (i j:Nat):Prop where
 lt:i<j
 len:X.length=V.length
 ahead:X.take i=keepN (V.take j)
 behind:X.drop j=V.drop j
 sub:∀p∈X,p∈V
theorem KeptN.skip {V X:List GT}{i j:Nat}{p:GT}(h:KeptN V X i j)(hp:V[j]?=some p)(hn:isNothing p.2=true):KeptN V X i (j+1):=by
 refine⟨by have:=h.lt;omega,h.len,?_,?_,h.sub⟩
 ·rw[h.ahead,List.take_add_one,hp]
  unfold keepN;rw[List.filter_append,Option.toList_some,List.filter_cons_of_neg (by simp[hn])];simp
 ·rw[← List.drop_drop,← List.drop_drop,h.behind]
theorem KeptN.keep {V X:List GT}{i j:Nat}{p:GT}(h:KeptN V X i j)(hp:V[j]?=some p)(hn:isNothing p.2=false):KeptN V (X.set i p) (i+1) (j+1):=by
 have hj:=(List.getElem?_eq_some_iff.1 hp).1;have hi:i<X.length:=by have:=h.lt;have:=h.len;omega
 refine⟨by have:=h.lt;omega,by rw[List.length_set];exact h.len,?_,?_,fun q hq=>?_⟩
 ·rw[List.take_add_one,List.getElem?_set_self hi,take_set _ _ _ _ (Nat.le_refl _),h.ahead,List.take_add_one,hp]
  unfold keepN;simp[List.filter_append,hn]
 ·rw[List.drop_set_of_lt (by have:=h.lt;omega),← List.drop_drop,← List.drop_drop,h.behind]
 ·rcases List.mem_or_eq_of_mem_set hq with hq | rfl
  ·exact h.sub q hq
  ·exact List.mem_of_getElem? hp
theorem KeptN.at_ {V X:List GT}{i j:Nat}(h:KeptN V X i j):X[j]?=V[j]?:=by
 have:=congrArg (fun l=>l[0]?) h.behind
 simpa [List.getElem?_drop] using this
theorem KeptN.start {V:List GT}{k:Nat}{p:GT}(hp:V[k]?=some p)(hn:isNothing p.2=true)(hall:∀ (j:Nat) x,j<k→V[j]?=some x→isNothing x.2=false):KeptN V V k (k+1):=by
 refine⟨by omega,rfl,?_,rfl,fun p h=>h⟩;rw[List.take_add_one,hp];unfold keepN;rw[List.filter_append,Option.toList_some,List.filter_cons_of_neg (by simp[hn]),List.filter_nil,List.append_nil];refine (List.filter_eq_self.2 fun x hx=>?_).symm;obtain⟨j,hj⟩:=List.getElem?_of_mem hx;have hjk:j<k:=by have:=(List.getElem?_eq_some_iff.1 hj).1;rw[List.length_take]at this;omega
 rw[List.getElem?_take_of_lt hjk]at hj;simp[hall j x hjk hj]
set_option maxRecDepth 100000 in
set_option maxHeartbeats 8000000 in
theorem deleteN_any {w:World}{B B':Nat}{K:Int}{V:List GT}{L:Option Addr}{lc:Nat}(hrow:w.ownsRow B' 88 2 (.slice L V.length lc) V.length (gcells V))(hv:∀p∈V,GV w B K p∧p.2.C.length≤4096)(hV:V.length≤256) :
 Calls Tryz.prog 43 #[.slice L V.length lc,.func (.func 40) #[] #[]] w fun e w'=>e = .returned (.slice L (keepN V).length lc)∧w'.ownsRow B' 88 2 (.slice L (keepN V).length lc) (keepN V).length (gcells (keepN V))∧Tch w w' (OnlyOwn (.slice L V.length lc)):=by
 have hix:=indexN_any hrow hv hV;have H2:Hid (∀p∈V,∃a b,p.1 = .agg #[a,b]):=fun p hp=>(hv p hp).1.two
 have HV:=Hd hv;have HROW:=Hd hrow;clear hv hrow
 go_enter Tryz.func43,Tryz.ntmps43
 go_wp2_with fail;refine hix.mono ?_;rintro e w1 ⟨hF,hb1⟩;clear hix;have HB1:=Hd hb1;clear hb1;rcases hF with⟨rfl,hall⟩ | ⟨k,p,rfl,hp,hn,hall⟩
 ·have HK:Hid (keepN V=V):=List.filter_eq_self.2 fun x hx=>by simp[hall x hx]
  clear hall;go_wp2_with fail;go_ret;rw[HK.out];exact⟨rfl,own_under HROW.out HB1.out,Tch.of_below HB1.out _⟩
 ·have hkl:k<V.length:=(List.getElem?_eq_some_iff.1 hp).1
  obtain⟨g,rfl,hg0,hgl⟩:=own_some HROW.out (by omega);have HS:=Hd (KeptN.start hp hn hall);have hne1:((k:Int) == -1)=false:=beq_eq_false_iff_ne.2 (by omega);obtain⟨n,hnn⟩:∃n,V.length=n:=⟨_,rfl⟩;have HNN:=Hd hnn;rw[hnn]at hV hkl ⊢;clear hp hn hall hnn;go_wp2_with fail
  go_loopw [5,6,7] (fun iv jv _ wr => ∃ (i j:Nat) (X:List GT),iv = .int .i64 i∧jv = .int .i64 j∧j≤n∧Hid (KeptN V X i j)∧wr.ownsRow B' 88 2 (.slice (some ⟨g,0,none⟩) n lc) n (gcells X)∧Tch w wr (fun q=>q=g)) (fun _ jv _ _=>n-(intOf jv).toNat)
  case atStart=>exact⟨k,k+1,V,rfl,by go_num,hkl,HS.out,by have:=own_under HROW.out HB1.out;rwa [HNN.out]at this,Tch.of_below HB1.out _⟩
  case round =>
   obtain⟨i,j,X,rfl,rfl,hj,hK,ho,hT⟩:=hrel;have hij:=hK.out.lt;have hXl:=hK.out.len;by_cases hlt:j<n
   ·obtain⟨p,hp⟩:∃p,V[j]?=some p:=⟨_,List.getElem?_eq_getElem (by rw[HNN.out];exact hlt)⟩
    have hXp:=hK.out.at_.trans hp;have hpm:=List.mem_of_getElem? hp;have X2:∀p∈X,∃a b,p.1 = .agg #[a,b]:=fun p hp=>H2.out p (hK.out.sub p hp)
    have hfp:=(HV.out p hpm).1.off hT (fun q e=>by obtain⟨cs,hc⟩:=own_is HROW.out (q:=g) rfl;subst e;exact⟨_,cs,hc,by decide,by decide,by decide⟩);have hp64:=(HV.out p hpm).2;obtain⟨a,b,hab⟩:=H2.out p hpm;obtain⟨pv,pf⟩:=p;dsimp only at hab hfp hp64;subst hab;obtain⟨c0,c1⟩:=gc_at X2 hXp;have d0:=(ho.cellAt (j*2) (by omega)).trans c0;have d1:=(ho.cellAt (j*2+1) (by omega)).trans c1;have i0:(0:Int)≤(j:Int):=Int.natCast_nonneg _;have i1:(j:Int)<(n:Int):=by omega
    have i2:(0:Int)≤(i:Int):=Int.natCast_nonneg _;have i3:(i:Int)<(n:Int):=by omega
    obtain⟨w2,hw2⟩:∃w2,wr.alloc (.cells #[a,b] 88)=w2:=⟨_,rfl⟩;have hB2:Below wr.heap.size wr w2:=by rw[← hw2];exact bone wr _
    have hbx:Blk w2 wr.heap.size 88 #[a,b]:=by rw[← hw2];exact Blk.new _ _ _
    have hcl:=canon2_any (hfp.under hB2) hp64;obtain⟨v1,k1,tg,e1,-⟩:=hfp;injection e1 with e1
    obtain⟨rfl,rfl⟩:a = .slice v1 pf.scope.length k1∧b = .pointer (some ⟨tg,0,none⟩):=by simpa using e1
    dsimp only at hcl;obtain⟨x0,x1⟩:=hbx.two;have HK:=Hd hK.out;have HO:=Hd ho;have HT:=Hd hT;have HP:=Hd hp;have HB2:=Hd hB2;have HBX:=Hd hbx;have HX2:=Hd X2;have HXL:=Hd hXl;clear hK ho hT hp hB2 hbx X2 c0 c1 hXp hpm hXl e1
    cases hdc:isNothing pf with
    | true =>
      rw[hdc]at hcl;have HD:=Hd hdc;clear hdc;go_wp2_with fail
      try rw[hw2]
      clear hw2;go_wp2_with fail;refine hcl.mono ?_;rintro e w3 ⟨rfl,hb3⟩;clear hcl;have HB3:=Hd (bto HB2.out hb3);clear hb3 d0 d1 x0 x1;go_wp2_with fail;go_roundw
      case measure=>simp[intOf];omega
      case rel=>exact⟨i,j+1,X,rfl,by go_num,by omega,HK.out.skip HP.out HD.out,own_under HO.out HB3.out,HT.out.trans (Tch.of_below HB3.out fun _=>False) fun _ _ h=>h.elim⟩
    | false =>
      rw[hdc]at hcl;have HD:=Hd hdc;clear hdc;go_wp2_with fail
      try rw[hw2]
      clear hw2;go_wp2_with fail;refine hcl.mono ?_;rintro e w3 ⟨rfl,hb3⟩;clear hcl;have HB3:=Hd (bto HB2.out hb3);have ho3:=own_under HO.out HB3.out;have f0:=ho3.frozenAt (i*2);have f1:=ho3.frozenAt (i*2+1);obtain⟨u0,hu0⟩:∃u,w3.cell? ⟨g,i*2,none⟩=some u:=⟨_,(ho3.cellAt (i*2) (by omega)).trans (List.getElem?_eq_getElem (by rw[gc_len HX2.out,HXL.out,HNN.out];omega))⟩;obtain⟨u1,hu1⟩:∃u,w3.cell? ⟨g,i*2+1,none⟩=some u:=⟨_,(ho3.cellAt (i*2+1) (by omega)).trans (List.getElem?_eq_getElem (by rw[gc_len HX2.out,HXL.out,HNN.out];omega))⟩;obtain⟨x0,x1⟩:=(HBX.out.under hb3).two;have HO3:=Hd ho3;clear hb3 d0 d1 ho3;go_wp2_with fail;go_roundw
      case measure=>simp[intOf];omega
      case rel =>
       have hst:=((HO3.out.stored (i*2) (.slice v1 pf.scope.length k1)).1.stored (i*2+1) (.pointer (some ⟨tg,0,none⟩))).1;rw[gc_set2 HX2.out (f:=pf) (by rw[HXL.out,HNN.out];omega)]at hst;refine⟨i+1,j+1,_,by go_num,by go_num,by omega,HK.out.keep HP.out HD.out,hst,?_⟩;exact ((HT.out.trans (Tch.of_below HB3.out fun _=>False) fun _ _ h=>h.elim).put (p:=⟨g,i*2,none⟩) _ rfl).put (p:=⟨g,i*2+1,none⟩) _ rfl
   ·obtain rfl:j=n:=by omega
    have hlc:=own_cap ho;have hlc2:¬ lc=i:=by omega
    have hzv:∀w,(zeroValue 88).run Tryz.prog w = .ok (.agg #[.slice none 0 0,.pointer none]) w:=fun w=>by kernel_rfl
    have X2:∀p∈X,∃a b,p.1 = .agg #[a,b]:=fun p hp=>H2.out p (hK.out.sub p hp)
    obtain⟨vs,hcl⟩:=clear_two wr 83 88 0 (.slice none 0 0) (.pointer none) Tryz.underlying83 hzv rfl rfl g (i*2) (j-i) (lc-i) (by omega) (fun q hq=>by
     rw[ho.cellAt (i*2+q) (by omega),List.getElem?_eq_getElem (by rw[gc_len X2,hXl,HNN.out];omega)];rfl) (fun q _=>ho.frozenAt _)
    obtain⟨ys,hys,hyt0,hyT⟩:=own_setCells vs (i*2) ho;have hyt:=own_trunc hys (m:=i) (by omega);rw[hyt0]at hyt
    have HA:Hid (keepN V=X.take i):=by
     have:=hK.out.ahead;rw[List.take_of_length_le (l:=V) (by rw[HNN.out];exact Nat.le_refl _)]at this;exact this.symm
    have i2:(0:Int)≤(i:Int):=Int.natCast_nonneg _;have i3:(i:Int)<(j:Int):=by omega
    have i4:(i:Int)≤(lc:Int):=by omega
    have HYT:Hid ((wr.setCells g (i*2) vs).ownsRow B' 88 2 (.slice (some ⟨g,0,none⟩) (keepN V).length lc) (keepN V).length (gcells (keepN V))∧(keepN V).length=i∧Tch w (wr.setCells g (i*2) vs) (fun q=>q=g)):=by
     have hl:(X.take i).length=i:=by rw[List.length_take,hXl,HNN.out];omega
     rw[Hid,HA.out,hl,← gc_take X2];exact⟨hyt,rfl,hT.trans hyT fun _ _ h=>h⟩
    clear hys hyT hyt hyt0 ho hT hK X2 hXl;go_wp2_with fail;go_ret;obtain⟨y1,y2,y3⟩:=HYT.out;exact⟨by rw[y2];rfl,y1,y3.mono fun q _ e=>by subst e;rfl⟩
end Go.Proofs.YtjpkkkphhaajgaaGreatDoor.wcp
namespace Go.Proofs.YtjpkkkphhaajgaaGreatDoor.wcp
open Go RowKit Shelf ChangeShapes WideShapes ChangeAt Maps words scn
theorem isnanI_any (a:Int)(w:World):Calls Tryz.prog 112 #[.int .i64 a] w fun e w'=>e = .returned (.bool false)∧w=w':=by
 go_enter Tryz.func112,Tryz.ntmps112
 go_wp2
 go_ret;exact⟨rfl,rfl⟩
theorem cmpI_any (a b:Int)(w:World):Calls Tryz.prog 47 #[.int .i64 a,.int .i64 b] w fun e w'=>e = .returned (.int .i64 (cmp1 a b))∧w=w':=by
 have h1:=isnanI_any a w;have h2:=isnanI_any b w;unfold cmp1;by_cases hab:a<b
 ·rw[if_pos hab]
  have hI:decide (a<b)=true:=decide_eq_true hab
  go_enter Tryz.func47,Tryz.ntmps47
  go_wp2_with fail;refine h1.mono ?_;rintro e w1 ⟨rfl,rfl⟩;go_wp2_with fail;refine h2.mono ?_;rintro e w1 ⟨rfl,rfl⟩;go_wp2_with fail;go_ret;exact⟨rfl,rfl⟩
 ·rw[if_neg hab]
  have hI:decide (a<b)=false:=decide_eq_false hab;by_cases hba:b<a
  ·rw[if_pos hba]
   have hI2:decide (b<a)=true:=decide_eq_true hba
   go_enter Tryz.func47,Tryz.ntmps47
   go_wp2_with fail;refine h1.mono ?_;rintro e w1 ⟨rfl,rfl⟩;go_wp2_with fail;refine h2.mono ?_;rintro e w1 ⟨rfl,rfl⟩;go_wp2_with fail;go_ret;exact⟨rfl,rfl⟩
  ·rw[if_neg hba]
   have hI2:decide (b<a)=false:=decide_eq_false hba
   go_enter Tryz.func47,Tryz.ntmps47
   go_wp2_with fail;refine h1.mono ?_;rintro e w1 ⟨rfl,rfl⟩;go_wp2_with fail;refine h2.mono ?_;rintro e w1 ⟨rfl,rfl⟩;go_wp2_with fail;go_ret;exact⟨rfl,rfl⟩
set_option maxRecDepth 100000 in
set_option maxHeartbeats 4000000 in
theorem compareI_any (A C:Option Addr)(n m c1 c2:Nat)(xs ys:List Int)(w:World)(hn:n≤1000000)(hm:m≤1000000)(hrx:Reads w w.heap.size 1 A n (nums xs))(hry:Reads w w.heap.size 1 C m (nums ys)) :
 Calls Tryz.prog 16 #[.slice A n c1,.slice C m c2] w fun e w'=>e = .returned (.int .i64 (cmpL xs ys))∧w=w':=by
 have hx:=nums_len hrx;have hy:=nums_len hry;have HX:=Hd hx;have HY:=Hd hy;clear hx hy
 go_enter Tryz.func16,Tryz.ntmps16
 go_wp2_with fail
 go_loopw [5,6,7,8,11] (fun _ _ _ _ jv wr => ∃j:Nat,jv = .int .i64 j∧j≤n∧j≤m∧Hid (cmpL (xs.drop j) (ys.drop j)=cmpL xs ys)∧w=wr) (fun _ _ _ _ jv _=>n-(intOf jv).toNat)
 case atStart=>exact⟨0,rfl,Nat.zero_le _,Nat.zero_le _,by unfold Hid;simp,rfl⟩
 case round =>
  obtain⟨j,rfl,hjn,hjm,hc,rfl⟩:=hrel;by_cases hlt:j<n
  ·have hltI:decide ((j:Int)<(n:Int))=true:=decide_eq_true (by omega)
   obtain⟨ad,x,rfl,_,hx,hcx⟩:=hrx.num hlt;have i0:(0:Int)≤(j:Int):=by omega
   have i1:(j:Int)<(n:Int):=by omega
   by_cases hltm:j<m
   ·have hgeI:decide ((m:Int)≤(j:Int))=false:=decide_eq_false (by omega)
    obtain⟨ad2,y,rfl,_,hy,hcy⟩:=hry.num hltm;have i2:(j:Int)<(m:Int):=by omega
    have hst:=cmpL_step hx hy;have hcm:=cmpI_any x y w;have HC:=Hd hc;have HST:=Hd hst;clear hx hy hc hst hrx hry;by_cases hxy:x<y
    ·rw[show cmp1 x y = -1 from if_pos hxy]at hcm
     have hres:cmpL xs ys = -1:=by rw[← HC.out,HST.out,if_pos hxy]
     have HRES:=Hd hres;clear hres hxy;go_wp2_with fail;refine hcm.mono ?_;rintro e w1 ⟨rfl,rfl⟩;go_wp2_with fail;go_ret;exact⟨by rw[HRES.out];rfl,rfl⟩
    ·by_cases hyx:y<x
     ·rw[show cmp1 x y=1 by unfold cmp1;rw[if_neg hxy,if_pos hyx]]at hcm
      have hres:cmpL xs ys=1:=by rw[← HC.out,HST.out,if_neg hxy,if_pos hyx]
      have HRES:=Hd hres;clear hres hxy hyx;go_wp2_with fail;refine hcm.mono ?_;rintro e w1 ⟨rfl,rfl⟩;go_wp2_with fail;go_ret;exact⟨by rw[HRES.out];rfl,rfl⟩
     ·rw[show cmp1 x y=0 by unfold cmp1;rw[if_neg hxy,if_neg hyx]]at hcm
      have HN:Hid (cmpL (xs.drop (j+1)) (ys.drop (j+1))=cmpL xs ys):=by unfold Hid;rw[← HC.out,HST.out,if_neg hxy,if_neg hyx]
      clear hxy hyx;go_wp2_with fail;refine hcm.mono ?_;rintro e w1 ⟨rfl,rfl⟩;go_wp2_with fail;go_roundw
      case rel=>exact⟨j+1,by go_num,hlt,hltm,HN,by first | rfl | trivial⟩
      case measure=>simp[intOf];omega
   ·obtain rfl:j=m:=by omega
    have hgeI:decide ((j:Int)≤(j:Int))=true:=decide_eq_true (by omega)
    have hres:cmpL xs ys=1:=by
     rw[← hc.out,show ys.drop j = [] from List.drop_eq_nil_iff.2 (by rw[HY.out];exact Nat.le_refl _)];obtain⟨h1,rfl⟩:=List.getElem?_eq_some_iff.1 hx;rw[List.drop_eq_getElem_cons h1];rfl
    have HRES:=Hd hres;clear hres hx hc hrx hry;go_wp2_with fail;go_ret;exact⟨by rw[HRES.out];rfl,rfl⟩
  ·obtain rfl:j=n:=by omega
   have hltI:decide ((j:Int)<(j:Int))=false:=decide_eq_false (by omega);have hxn:xs.drop j = []:=List.drop_eq_nil_iff.2 (by rw[HX.out];exact Nat.le_refl _);by_cases hm2:j<m
   ·have hmI:decide ((j:Int)<(m:Int))=true:=decide_eq_true (by omega)
    have hres:cmpL xs ys = -1:=by
     rw[← hc.out,hxn];obtain⟨y,hy⟩:∃y,ys[j]?=some y:=⟨_,List.getElem?_eq_getElem (by have:=HY.out;omega)⟩;obtain⟨h1,rfl⟩:=List.getElem?_eq_some_iff.1 hy;rw[List.drop_eq_getElem_cons h1];rfl
    have HRES:=Hd hres;clear hres hc hxn hrx hry;go_wp2_with fail;go_ret;exact⟨by rw[HRES.out];rfl,rfl⟩
   ·obtain rfl:j=m:=by omega
    have hres:cmpL xs ys=0:=by
     rw[← hc.out,hxn,show ys.drop j = [] from List.drop_eq_nil_iff.2 (by rw[HY.out];exact Nat.le_refl _)];rfl
    have HRES:=Hd hres;clear hres hc hxn hrx hry;go_wp2_with fail;go_ret;exact⟨by rw[HRES.out];rfl,rfl⟩
def orI (x y:Int):Int:=if x=0 then y else x
set_option maxHeartbeats 4000000 in
theorem orI_any (b:Nat)(x y:Int)(w:World)(h0:w.cell? ⟨b,0,none⟩=some (.int .i64 x))(h1:w.cell? ⟨b,1,none⟩=some (.int .i64 y)) :
 Calls Tryz.prog 46 #[.slice (some ⟨b,0,none⟩) 2 2] w fun e w'=>e = .returned (.int .i64 (orI x y))∧w=w':=by
 go_enter Tryz.func46,Tryz.ntmps46
 go_wp2_with fail
 go_loopw [5,8] (fun _ jv wr => ∃j:Nat,jv = .int .i64 j∧j≤2∧Hid ((0<j→x=0)∧(1<j→y=0))∧w=wr) (fun _ jv _=>2-(intOf jv).toNat)
 case atStart=>exact⟨0,rfl,Nat.zero_le _,⟨fun h=>absurd h (Nat.lt_irrefl _),fun h=>absurd h (by decide)⟩,rfl⟩
 case round =>
  obtain⟨j,rfl,hj,hc,rfl⟩:=hrel;have hj3:j=0∨j=1∨j=2:=by omega
  rcases hj3 with rfl | rfl | rfl
  ·by_cases hx:x=0
   ·have hxb:(x != 0)=false:=by simp[hx]
    have HX:=Hd hx;clear hx hc;go_wp2_with fail;go_roundw
    case rel=>exact⟨1,by go_num,by decide,⟨fun _=>HX.out,fun h=>absurd h (by decide)⟩,by first | rfl | trivial⟩
    case measure=>simp[intOf]
   ·have hxb:(x != 0)=true:=by simp[hx]
    have HX:=Hd (show orI x y=x from if_neg hx);clear hx hc;go_wp2_with fail;go_ret;exact⟨by rw[HX.out];rfl,rfl⟩
  ·have hx:=hc.out.1 (by decide)
   have HX:=Hd (show orI x y=y from if_pos hx);clear hx hc;by_cases hy:y=0
   ·have hyb:(y != 0)=false:=by simp[hy]
    have HY:=Hd hy;clear hy;go_wp2_with fail;go_roundw
    case rel=>exact⟨2,by go_num,by decide,⟨fun _=>(by have:=HX.out;unfold orI at this;split at this<;>first | assumption | (rw[this];exact HY.out)),fun _=>HY.out⟩,by first | rfl | trivial⟩
    case measure=>simp[intOf]
   ·have hyb:(y != 0)=true:=by simp[hy]
    clear hy;go_wp2_with fail;go_ret;exact⟨by rw[HX.out];rfl,rfl⟩
  ·have hx:=hc.out.1 (by decide)
   have hy:=hc.out.2 (by decide);have HX:Hid (orI x y=0):=by unfold Hid orI;rw[if_pos hx];exact hy
   clear hx hy hc;go_wp2_with fail;go_ret;exact⟨by rw[HX.out];rfl,rfl⟩
theorem cmpC_or (n m:Nat)(xs ys:List Int)(hn:xs.length=n)(hm:ys.length=m):orI (cmp1 n m) (cmpL xs ys)=if xs.length<ys.length then -1 else if ys.length<xs.length then 1 else cmpL xs ys:=by
 subst hn;subst hm;unfold orI cmp1;by_cases h1:xs.length<ys.length
 ·rw[if_pos (show (xs.length:Int)<ys.length by omega),if_pos h1];rfl
 ·by_cases h2:ys.length<xs.length
  ·rw[if_neg (show ¬ (xs.length:Int)<ys.length by omega),if_pos (show (ys.length:Int)<xs.length by omega),if_neg h1,if_pos h2];rfl
  ·rw[if_neg (show ¬ (xs.length:Int)<ys.length by omega),if_neg (show ¬ (ys.length:Int)<xs.length by omega),if_neg h1,if_neg h2];rfl
set_option maxRecDepth 100000 in
set_option maxHeartbeats 4000000 in
theorem canon3_any (A C:Option Addr)(n m a c:Nat)(u v:Value)(xs ys:List Int)(w:World)(hn:n≤1000000)(hm:m≤1000000)(hrx:Reads w w.heap.size 1 A n (nums xs))(hry:Reads w w.heap.size 1 C m (nums ys)) :
 Calls Tryz.prog 45 #[.agg #[.slice A n a,u],.agg #[.slice C m c,v]] w fun e w'=>e = .returned (.int .i64 (if xs.length<ys.length then -1 else if ys.length<xs.length then 1 else cmpL xs ys))∧∃q os,w'=Sort.grow (w.drewN q) os:=by
 have hlx:=nums_len hrx;have hly:=nums_len hry;rw[← cmpC_or n m xs ys hlx hly];obtain⟨w1,hw1⟩:∃w1,(w.alloc (.cells #[.slice A n a,u] 88)).alloc (.cells #[.slice C m c,v] 88)=w1:=⟨_,rfl⟩;have hB1:Below w.heap.size w w1:=by rw[← hw1];exact bnew (bone w _) _
 have hx:Blk w1 w.heap.size 88 #[.slice A n a,u]:=by rw[← hw1];exact (Blk.new w _ _).alloc _
 have hy:Blk w1 (w.heap.size+1) 88 #[.slice C m c,v]:=by
  rw[← hw1];have:=Blk.new (w.alloc (.cells #[.slice A n a,u] 88)) 88 #[.slice C m c,v]
  rwa [show (w.alloc (.cells #[.slice A n a,u] 88)).heap.size=w.heap.size+1 by simp]at this
 obtain⟨d0,-⟩:=hx.two;obtain⟨e0,-⟩:=hy.two;have h1:=cmpI_any n m w1.drew;have h2:=compareI_any A C n m a c xs ys w1.drew hn hm ((hrx.below hB1.drew).more hB1.drew.size) ((hry.below hB1.drew).more hB1.drew.size);obtain⟨x,hxx⟩:∃x,cmp1 (n:Int) (m:Int)=x:=⟨_,rfl⟩;obtain⟨y,hyy⟩:∃y,cmpL xs ys=y:=⟨_,rfl⟩;rw[hxx]at h1 ⊢;rw[hyy]at h2 ⊢;have h3:=orI_any w1.heap.size x y (w1.drew.alloc (.cells #[.int .i64 x,.int .i64 y] 3)) (World.cell?_alloc_new w1.drew _ _ _) (World.cell?_alloc_new w1.drew _ _ _)
 have HW:Hid (w1.drew.alloc (.cells #[.int .i64 x,.int .i64 y] 3)=Sort.grow (w.drewN 1) #[.cells #[.slice A n a,u] 88,.cells #[.slice C m c,v] 88,.cells #[.int .i64 x,.int .i64 y] 3]):=by
  rw[Hid,← hw1];simp only[Sort.alloc_eq_grow,Sort.grow_grow];rfl
 have dA:(w1.drew.alloc (.cells #[.int .i64 x,.int .i64 y] 3)).cell? ⟨w.heap.size,0,none⟩=some (.slice A n a):=Lib.cell?_alloc_some _ d0;have eA:(w1.drew.alloc (.cells #[.int .i64 x,.int .i64 y] 3)).cell? ⟨w.heap.size+1,0,none⟩=some (.slice C m c):=Lib.cell?_alloc_some _ e0;clear hrx hry hx hy hlx hly hB1 hxx hyy
 go_enter Tryz.func45,Tryz.ntmps45
 go_wp2_with fail
 try rw[hw1]
 clear hw1
 go_region_held3 (fun W=>W.cell? ⟨w.heap.size,0,none⟩=some (.slice A n a)∧W.cell? ⟨w.heap.size+1,0,none⟩=some (.slice C m c)) (first | exact⟨d0,e0⟩ | exact⟨dA,eA⟩) (first
  |(go_at_call 47;refine h1.mono ?_;rintro e w2 ⟨rfl,rfl⟩)
  |(go_at_call 16;refine h2.mono ?_;rintro e w2 ⟨rfl,rfl⟩)
  |(go_at_call 46;refine h3.mono ?_;rintro e w2 ⟨rfl,rfl⟩))
 all_goals
  go_wp2_with fail;go_ret;exact⟨rfl,1,_,HW.out⟩
end Go.Proofs.YtjpkkkphhaajgaaGreatDoor.wcp
namespace Go.Proofs.YtjpkkkphhaajgaaGreatDoor.wcp
open Go words scn
open shp (Szs prodI InT idxI tupI allI)
theorem cap_is:∀ (l:List Int) (n:Int),1≤n→n≤4097→(∀k∈l,1≤k∧k≤32)→l.foldl (fun n k=>min (n*min k 4097) 4097) n=min (n*prodI l) 4097:=by
 intro l
 induction l with
 |nil=>intro n h1 h2 _;simp[prodI];omega
 | cons k l ih =>
   intro n h1 h2 hk;have hk0:=hk k (by simp);have hP:=(shp.prod_bd l fun x hx=>hk x (by simp[hx])).1;rw[List.foldl_cons,shp.prodI_cons,show min k 4097=k by omega];obtain⟨q,hq⟩:∃q,n*k=q:=⟨_,rfl⟩
   have hq1:1≤q:=by
    rw[← hq];have:=Int.mul_le_mul h1 hk0.1 (by omega) (by omega);omega
   rw[hq,ih (min q 4097) (by omega) (by omega) fun x hx=>hk x (by simp[hx]),← Int.mul_assoc,hq];by_cases h:q≤4097
   ·rw[show min q 4097=q by omega]
   ·have e1:=Int.mul_le_mul (show (4097:Int)≤min q 4097 by omega) hP (by omega) (by omega)
    have e2:=Int.mul_le_mul (show (4097:Int)≤q by omega) hP (by omega) (by omega);omega
theorem great_prod {l:List Int}(h:∀k∈l,1≤k∧k≤32):great l=decide (4096<prodI l):=by
 unfold great;rw[cap_is l 1 (by omega) (by omega) h,Int.one_mul];rw[decide_eq_decide];omega
theorem prod_perm {l m:List Int}(h:l.Perm m):prodI l=prodI m:=by
 induction h with
 |nil=>rfl
 |cons a _ ih=>rw[shp.prodI_cons,shp.prodI_cons,ih]
 |swap a b l=>rw[shp.prodI_cons,shp.prodI_cons,shp.prodI_cons,shp.prodI_cons,Int.mul_left_comm]
 |trans _ _ ih1 ih2=>exact ih1.trans ih2
theorem ok_val {x:Raw}{K:Int}(h:okF x K):okV (tpOf x K x.lines):=by
 refine⟨h.tp _,?_⟩;rw[(tpOf_same x K x.lines).1,(tpOf_same x K x.lines).2.1];have hk:=h.2.2.1;have hk2:=h.2.2.2.1
 have:∀ (ls:List (List Int × Int)),(∀l∈ls,InS x.sizes l.1∧0≤l.2)→∀T:TpH,(∀u c,T.f u=some c→InS x.sizes u∧inB c K=true)→∀u c,(ls.foldl (fun T l=>putF T l.1 (min l.2 K)) T).f u=some c→InS x.sizes u∧inB c K=true:=by
  intro ls
  induction ls with
  |nil=>exact fun _ T hT u c h=>hT u c h
  | cons l ls ih =>
    intro hls T hT;refine ih (fun l' hl'=>hls l' (by simp[hl'])) _ fun u c hc=>?_
    obtain⟨h0,h1⟩:=hls l (by simp);unfold putF at hc;dsimp only at hc;split at hc
    ·dsimp only at hc
     split at hc
     ·cases hc
     ·exact hT u c hc
    ·dsimp only at hc
     split at hc
     ·rename_i hu
      injection hc with hc
      rw[hu];exact⟨h0,by unfold inB;rw[decide_eq_true_eq];omega⟩
     ·exact hT u c hc
 exact this x.lines h.2.2.2.2.2.1 (tp0 x K) fun u c h=>by cases h
theorem get_inB {x:Raw}{K:Int}(h:okF x K)(t:List Int):inB ((tpOf x K x.lines).get t) K=true:=by
 have:=get_in h t;have hk:=h.2.2.1;have hk2:=h.2.2.2.1;unfold inB;rw[decide_eq_true_eq];omega
theorem fit_sz {zs:List Int}{x:Raw}(h:FitF zs x):x.sizes=szOf zs x.scope:=h.2.2
theorem rise_sz {zs:List Int}(sc:List Int):(szOf zs (rise sc)).Perm (szOf zs sc):=by
 unfold szOf;exact (rise_perm sc).map _
theorem szOf_len (zs sc:List Int):(szOf zs sc).length=sc.length:=by unfold szOf;rw[List.length_map]
theorem turn_good {zs:List Int}{K:Int}{x:Raw}(h1:okF x K)(h2:FitF zs x)(h3:great x.sizes=false):GoodC zs K (turnF zs K x):=by
 have hz:Szs x.sizes:=⟨h1.1,h1.2.1⟩;have hsz:=fit_sz h2
 have hp:prodI x.sizes≤4096:=by
  rw[great_prod hz.2,decide_eq_false_iff_not]at h3;omega
 refine⟨rise_lt h2.2.1,fun v hv=>h2.1 v (rise_mem.1 hv),rfl,⟨?_,fun k hk=>?_⟩,?_,fun t=>(tpOf x K x.lines).get (ownT x.scope (rise x.scope) t),rfl,fun t _=>get_inB h1 _⟩
 ·show (szOf zs (rise x.scope)).length≤6
  rw[szOf_len,rise_len];exact h1.2.2.2.2.2.2.2
 ·have hk':k∈szOf zs (rise x.scope):=hk
  rw[(rise_sz x.scope).mem_iff,← hsz]at hk';exact hz.2 k hk'
 ·show prodI (szOf zs (rise x.scope))≤4096
  rw[prod_perm (rise_sz x.scope),← hsz];exact hp
theorem addC_len (k:Int)(l:List CF)(g:CF):(addC k l g).length≤l.length+1:=by
 induction l with
 |nil=>simp[addC]
 | cons a l ih =>
   unfold addC;split
   ·simp
   ·simp only[List.length_cons];omega
theorem joined_snoc (zs:List Int)(k:Int)(fs:List Raw)(x:Raw):joined zs k (fs ++ [x])=addC k (joined zs k fs) (turnF zs k x):=by unfold joined;rw[List.foldl_append];rfl
theorem joined_take {zs:List Int}{k:Int}{fs:List Raw}{j:Nat}{x:Raw}(h:fs[j]?=some x):joined zs k (fs.take (j+1))=addC k (joined zs k (fs.take j)) (turnF zs k x):=by
 rw[List.take_add_one,h];exact joined_snoc _ _ _ _
def GoodFs (zs:List Int)(K:Int)(fs:List Raw):Prop := ∀x∈fs,okF x K∧FitF zs x∧great x.sizes=false
theorem joined_good {zs:List Int}{K:Int}{fs:List Raw}(h:GoodFs zs K fs):∀g∈joined zs K fs,GoodC zs K g:=by
 have:∀ (l:List CF),(∀g∈l,GoodC zs K g)→∀g∈fs.foldl (fun l x=>addC K l (turnF zs K x)) l,GoodC zs K g:=by
  induction fs with
  |nil=>exact fun l hl=>hl
  | cons x fs ih =>
    intro l hl;obtain⟨h1,h2,h3⟩:=h x (by simp);exact ih (fun y hy=>h y (by simp[hy])) _ (addC_good hl (turn_good h1 h2 h3))
 exact this [] fun g hg=>by cases hg
theorem joined_len (zs:List Int)(K:Int)(fs:List Raw):(joined zs K fs).length≤fs.length:=by
 have:∀ (l:List CF),(fs.foldl (fun l x=>addC K l (turnF zs K x)) l).length≤l.length+fs.length:=by
  induction fs with
  |nil=>intro l;simp
  | cons x fs ih =>
    intro l;have:=ih (addC K l (turnF zs K x));have:=addC_len K l (turnF zs K x);simp only[List.foldl_cons,List.length_cons];omega
 have:=this [];unfold joined
 simpa using this
def OnceC (l:List CF):Prop:=l.Pairwise fun a b=>a.scope≠b.scope
theorem addC_mem {k:Int}{l:List CF}{g x:CF}(h:x∈addC k l g):(∃y∈l,y.scope=x.scope)∨x.scope=g.scope:=by
 induction l with
 |nil=>unfold addC at h;rw[List.mem_singleton.1 h];exact .inr rfl
 | cons a l ih =>
   unfold addC at h;by_cases e:a.scope=g.scope
   ·rw[if_pos e]at h
    rcases List.mem_cons.1 h with rfl | h
    ·exact .inl ⟨a,by simp,rfl⟩
    ·exact .inl ⟨x,by simp[h],rfl⟩
   ·rw[if_neg e]at h
    rcases List.mem_cons.1 h with rfl | h
    ·exact .inl ⟨x,by simp,rfl⟩
    ·rcases ih h with⟨y,hy,e⟩ | e
     ·exact .inl ⟨y,by simp[hy],e⟩
     ·exact .inr e
theorem addC_once {k:Int}{l:List CF}{g:CF}(h:OnceC l):OnceC (addC k l g):=by
 induction l with
 |nil=>unfold addC OnceC;exact List.pairwise_singleton _ _
 | cons a l ih =>
   obtain⟨h1,h2⟩:=List.pairwise_cons.1 h;unfold addC;by_cases e:a.scope=g.scope
   ·rw[if_pos e]
    exact List.pairwise_cons.2 ⟨h1,h2⟩
   ·rw[if_neg e]
    refine List.pairwise_cons.2 ⟨fun x hx he=>?_,ih h2⟩;rcases addC_mem hx with⟨y,hy,e2⟩ | e2
    ·exact h1 y hy (he.trans e2.symm)
    ·exact e (he.trans e2)
theorem joined_once (zs:List Int)(K:Int)(fs:List Raw):OnceC (joined zs K fs):=by
 have:∀ (l:List CF),OnceC l→OnceC (fs.foldl (fun l x=>addC K l (turnF zs K x)) l):=by
  induction fs with
  |nil=>exact fun l hl=>hl
  |cons x fs ih=>exact fun l hl=>ih _ (addC_once hl)
 exact this [] List.Pairwise.nil
structure CanonP (zs:List Int) (K:Int) (l:List CF):Prop where
 good:∀g∈l,GoodC zs K g
 some:∀g∈l,isNothing g=false
 ord:l.Pairwise fun a b=>cmpC a b<0
theorem canonL_perm (zs:List Int)(k:Int)(fs:List Raw):(canonL zs k fs).Perm ((joined zs k fs).filter fun g => !isNothing g):=List.mergeSort_perm _ _
theorem canonL_p {zs:List Int}{K:Int}{fs:List Raw}(h:GoodFs zs K fs):CanonP zs K (canonL zs K fs):=by
 have hp:=canonL_perm zs K fs
 have hm:∀g∈canonL zs K fs,g∈joined zs K fs∧isNothing g=false:=fun g hg=>by
  have:=List.mem_filter.1 (hp.mem_iff.1 hg);exact⟨this.1,by simpa using this.2⟩
 refine⟨fun g hg=>joined_good h g (hm g hg).1,fun g hg=>(hm g hg).2,?_⟩;have h1:(canonL zs K fs).Pairwise fun a b=>leC a b=true:=List.pairwise_mergeSort leC_trans leC_total _
 have h2:(canonL zs K fs).Pairwise fun a b=>a.scope≠b.scope :=
  (hp.pairwise_iff fun h=>Ne.symm h).2 ((joined_once zs K fs).filter _)
 refine (h1.and h2).imp fun {a b} h=>?_
 obtain⟨h1,h2⟩:=h;unfold leC at h1;rw[decide_eq_true_eq]at h1;have:cmpC a b≠0:=fun e=>h2 (cmpC_eq e)
 omega
theorem canonL_len (zs:List Int)(K:Int)(fs:List Raw):(canonL zs K fs).length≤fs.length:=by
 rw[(canonL_perm zs K fs).length_eq];exact Nat.le_trans (List.length_filter_le _ _) (joined_len zs K fs)
end Go.Proofs.YtjpkkkphhaajgaaGreatDoor.wcp
namespace Go.Proofs
open Shelf
def Tryz.sortFun_ren:Go.Shelf.Ren:=⟨fun | 6=>44 | 15=>111 | 14=>110 | 28=>160 | 29=>161 | 20=>152 | 21=>153 | 22=>154 | 23=>155 | 24=>156 | 25=>157 | 26=>158 | 27=>159 | 46=>178 | 47=>179 | 48=>180 | 49=>181 | 50=>182 | 57=>199 | n=>n,fun | 22=>83 | 24=>88 | 25=>98 | 3=>3 | 39=>203 | 0=>0 | 53=>257 | 55=>135 | 4=>4 | 46=>250 | 45=>249 | 50=>254 | 5=>5 | 9=>9 | 66=>274 | 70=>278 | 76=>293 | 77=>294 | n=>n,fun | n=>n⟩
theorem Tryz.sortFun:Go.Proofs.SlLaysF0.n6 Tryz.prog Tryz.sortFun_ren:={
 mixed:=by kernel_rfl
 f6:=⟨Tryz.f44.name,by decide,Tryz.func44.trans (congrArg some (by kernel_rfl))⟩
 f14:=⟨Tryz.f110.name,by decide,Tryz.func110.trans (congrArg some (by kernel_rfl))⟩
 f15:=Tryz.func111.trans (congrArg some (by kernel_rfl))
 f20:=⟨Tryz.f152.name,by decide,Tryz.func152.trans (congrArg some (by kernel_rfl))⟩
 f21:=⟨Tryz.f153.name,by decide,Tryz.func153.trans (congrArg some (by kernel_rfl))⟩
 f22:=⟨Tryz.f154.name,by decide,Tryz.func154.trans (congrArg some (by kernel_rfl))⟩
 f23:=⟨Tryz.f155.name,by decide,Tryz.func155.trans (congrArg some (by kernel_rfl))⟩
 f24:=⟨Tryz.f156.name,by decide,Tryz.func156.trans (congrArg some (by kernel_rfl))⟩
 f25:=⟨Tryz.f157.name,by decide,Tryz.func157.trans (congrArg some (by kernel_rfl))⟩
 f26:=⟨Tryz.f158.name,by decide,Tryz.func158.trans (congrArg some (by kernel_rfl))⟩
 f27:=⟨Tryz.f159.name,by decide,Tryz.func159.trans (congrArg some (by kernel_rfl))⟩
 f28:=Tryz.func160.trans (congrArg some (by kernel_rfl))
 f29:=Tryz.func161.trans (congrArg some (by kernel_rfl))
 f46:=⟨Tryz.f178.name,by decide,Tryz.func178.trans (congrArg some (by kernel_rfl))⟩
 f47:=Tryz.func179.trans (congrArg some (by kernel_rfl))
 f48:=Tryz.func180.trans (congrArg some (by kernel_rfl))
 f49:=⟨Tryz.f181.name,by decide,Tryz.func181.trans (congrArg some (by kernel_rfl))⟩
 f50:=⟨Tryz.f182.name,by decide,Tryz.func182.trans (congrArg some (by kernel_rfl))⟩
 f57:=⟨Tryz.f199.name,by decide,Tryz.func199.trans (congrArg some (by kernel_rfl))⟩
 t0:=Tryz.underlying0
 a0:=Tryz.isAgg0
 z0:=Tryz.sizeOf0
 v0:=Tryz.zeroValue0
 t3:=Tryz.underlying3
 a3:=Tryz.isAgg3
 z3:=Tryz.sizeOf3
 v3:=Tryz.zeroValue3
 t4:=Tryz.underlying4
 a4:=Tryz.isAgg4
 z4:=Tryz.sizeOf4
 v4:=Tryz.zeroValue4
 t5:=Tryz.underlying5
 a5:=Tryz.isAgg5
 z5:=Tryz.sizeOf5
 v5:=Tryz.zeroValue5
 t9:=Tryz.underlying9
 a9:=Tryz.isAgg9
 z9:=Tryz.sizeOf9
 v9:=Tryz.zeroValue9
 t22:=Tryz.underlying83
 a22:=Tryz.isAgg83
 z22:=Tryz.sizeOf83
 v22:=Tryz.zeroValue83
 t25:=Tryz.underlying98
 a25:=Tryz.isAgg98
 z25:=Tryz.sizeOf98
 v25:=Tryz.zeroValue98
 t39:=Tryz.underlying203
 a39:=Tryz.isAgg203
 z39:=Tryz.sizeOf203
 v39:=Tryz.zeroValue203
 t45:=Tryz.underlying249
 a45:=Tryz.isAgg249
 z45:=Tryz.sizeOf249
 v45:=Tryz.zeroValue249
 t46:=Tryz.underlying250
 a46:=Tryz.isAgg250
 z46:=Tryz.sizeOf250
 v46:=Tryz.zeroValue250
 t50:=Tryz.underlying254
 a50:=Tryz.isAgg254
 z50:=Tryz.sizeOf254
 v50:=Tryz.zeroValue254
 t53:=Tryz.underlying257
 a53:=Tryz.isAgg257
 z53:=Tryz.sizeOf257
 v53:=Tryz.zeroValue257
 t55:=Tryz.underlying135
 a55:=Tryz.isAgg135
 z55:=Tryz.sizeOf135
 v55:=Tryz.zeroValue135
 t66:=Tryz.underlying274
 a66:=Tryz.isAgg274
 z66:=Tryz.sizeOf274
 v66:=Tryz.zeroValue274
 t70:=Tryz.underlying278
 a70:=Tryz.isAgg278
 z70:=Tryz.sizeOf278
 v70:=Tryz.zeroValue278
 t76:=Tryz.underlying293
 a76:=Tryz.isAgg293
 z76:=Tryz.sizeOf293
 v76:=Tryz.zeroValue293
 t77:=Tryz.underlying294
 a77:=Tryz.isAgg294
 z77:=Tryz.sizeOf294
 v77:=Tryz.zeroValue294 }
end Go.Proofs
namespace Go.Proofs.YtjpkkkphhaajgaaGreatDoor.wcp
open Go RowKit Shelf ChangeShapes WideShapes ChangeAt Maps words scn
abbrev InV (V:List GT):={p:GT // p∈V}
def encG {V:List GT}(x:InV V):List Value:=match x.1.1 with | .agg cs=>cs.toList | _ => []
def cfG {V:List GT}(x y:InV V):Int:=cmpC x.1.2 y.1.2
theorem flat_enc {V:List GT}(l:List (InV V)):l.flatMap encG=gcells (l.map (·.1)):=by
 unfold gcells;rw[List.flatMap_map];rfl
theorem cmpC_strict {a b c:CF}(h1:cmpC a b<0)(h2:cmpC b c<0):cmpC a c<0:=by
 by_cases h:cmpC a c<0
 ·exact h
 ·have h3:leC c a=true:=by unfold leC;rw[decide_eq_true_eq,cmpC_neg a c];omega
  have h4:=leC_trans c a b h3 (by unfold leC;rw[decide_eq_true_eq];omega);unfold leC at h4;rw[decide_eq_true_eq,cmpC_neg b c]at h4;omega
theorem swoG (V:List GT):Sort.SWO (ltOf (cfG (V:=V))) where
 irrefl x:=by unfold ltOf cfG;rw[cmpC_of_eq rfl];rfl
 trans x y z h1 h2:=by unfold ltOf cfG at *;rw[decide_eq_true_eq]at *;exact cmpC_strict h1 h2
 ntrans x y z h1 h2:=by
  unfold ltOf cfG at *;rw[decide_eq_false_iff_not]at *;have h3:leC y.1.2 x.1.2=true:=by unfold leC;rw[decide_eq_true_eq,cmpC_neg x.1.2 y.1.2];omega
  have h4:leC z.1.2 y.1.2=true:=by unfold leC;rw[decide_eq_true_eq,cmpC_neg y.1.2 z.1.2];omega
  have h5:=leC_trans _ _ _ h4 h3;unfold leC at h5;rw[decide_eq_true_eq,cmpC_neg x.1.2 z.1.2]at h5;omega
theorem once_eq {l:List CF}(h:OnceC l){a b:CF}(ha:a∈l)(hb:b∈l)(e:a.scope=b.scope):a=b:=by
 induction l with
 |nil=>cases ha
 | cons x l ih =>
   obtain⟨h1,h2⟩:=List.pairwise_cons.1 h;rcases List.mem_cons.1 ha with rfl | ha'<;>rcases List.mem_cons.1 hb with rfl | hb'
   ·rfl
   ·exact absurd e (h1 b hb')
   ·exact absurd e.symm (h1 a ha')
   ·exact ih h2 ha' hb'
theorem sort_uniq {l m:List CF}(h:OnceC l)(hp:m.Perm l)(hs:m.Pairwise fun a b=>leC a b=true):m=l.mergeSort leC :=
 (hp.trans (List.mergeSort_perm l leC).symm).eq_of_pairwise (le:=fun a b=>leC a b=true) (fun a b ha hb h1 h2=>once_eq h (hp.mem_iff.1 ha) ((List.mergeSort_perm l leC).mem_iff.1 hb) (leC_anti h1 h2)) hs (List.pairwise_mergeSort leC_trans leC_total l)
set_option maxRecDepth 100000 in
theorem sortC_any {w:World}{B B':Nat}{K:Int}{V:List GT}{L:Option Addr}{lc:Nat}(h:w.ownsRow B' 88 2 (.slice L V.length lc) V.length (gcells V))(hv:∀p∈V,GV w B K p∧p.2.scope.length≤64)(hV:V.length≤256)(hon:OnceC (V.map (·.2))) :
 Calls Tryz.prog 44 #[.slice L V.length lc,.func (.func 45) #[] #[]] w fun e w'=>e = .returned (.tuple #[])∧∃V':List GT,V'.length=V.length∧(∀p∈V',p∈V)∧V'.map (·.2)=(V.map (·.2)).mergeSort leC∧w'.ownsRow B' 88 2 (.slice L V.length lc) V.length (gcells V')∧Tch w w' (OnlyOwn (.slice L V.length lc)):=by
 by_cases hn0:V = []
 ·subst hn0
  refine (AnyF.slices_SortFunc_none Tryz.sortFun L lc _ w).mono ?_;rintro e w' ⟨rfl,rfl⟩;exact⟨rfl,[],rfl,fun p hp=>hp,by simp,h,Tch.refl _ _⟩
 ·obtain⟨p0,V0,hV0⟩:=List.exists_cons_of_ne_nil hn0
  have hpos:0<V.length:=by rw[hV0];simp
  haveI:Inhabited (InV V):=⟨⟨p0,by rw[hV0];simp⟩⟩
  obtain⟨g,rfl,hgb,hgl⟩:=own_some h hpos
  have hk:∀x:InV V,(encG x).length=2:=fun x=>by
   obtain⟨a,b,e⟩:=(hv x.1 x.2).1.two;unfold encG;rw[e];rfl
  have hfl:V.attach.flatMap encG=gcells V:=by rw[flat_enc,List.attach_map_subtype_val]
  have h0:=h;rw[← hfl]at h;have hH:=holdsK_own hk (by omega) h (by simp);have hs:V.attach.toArray.size=V.length:=by simp
  have hone:∀x:InV V,∀v∈encG x,v.oneCell'=true:=fun x v hv'=>by
   obtain⟨A,c,t,e,-⟩:=(hv x.1 x.2).1;unfold encG at hv';rw[e]at hv';simp only[List.mem_cons,List.not_mem_nil,or_false]at hv';rcases hv' with rfl | rfl<;>rfl
  have hcmp:CmpLays Tryz.prog 45 #[] (encG (V:=V)) 2 cfG g 0 V.attach.toArray.size w:=fun m os dk hdk x y=>by
   have hT:=(own_sortK (m:=m) (os:=os) (l':=dk.toList) hk (by omega) h (by simpa using hdk)).2;rw[show dk.toList.toArray=dk by simp]at hT
   have hno:NoFn w (fun q=>q=g):=fun q e=>by
    obtain⟨cs,hc⟩:=own_is h0 (q:=g) rfl;rw[e];exact⟨_,cs,hc,by decide,by decide,by decide⟩
   obtain⟨A1,c1,t1,e1,r1,-⟩:=((hv x.1 x.2).1).off hT hno;obtain⟨A2,c2,t2,e2,r2,-⟩:=((hv y.1 y.2).1).off hT hno;have:=canon3_any A1 A2 x.1.2.scope.length y.1.2.scope.length c1 c2 (.pointer (some ⟨t1,0,none⟩)) (.pointer (some ⟨t2,0,none⟩)) x.1.2.scope y.1.2.scope (sortWorldK encG 2 w g 0 m dk os) (by have:=(hv x.1 x.2).2;omega) (by have:=(hv y.1 y.2).2;omega) (Reads.of_own r1) (Reads.of_own r2);unfold encG;rw[e1,e2];exact this
  have hq:=AnyQ.slices_SortFunc Tryz.sortFun 2 Tryz.isAgg88 Tryz.sizeOf88 encG hk hone cfG (swoG V) 45 #[] g 0 lc V.attach.toArray w (enters_of Tryz.func45 (by kernel_rfl) rfl) hcmp hH hgl (by omega);rw[hs]at hq;refine hq.mono ?_;rintro e w' ⟨rfl,d',k,os,hp,hso,rfl⟩
  have hpl:d'.toList.Perm V.attach:=by
   have:=hp.2.2;have hd:=hp.1;simp at this;simp at hd
   rwa [List.take_of_length_le (by simp;omega),List.take_of_length_le (by simp)]at this
  have hdl:d'.toList.length=V.length:=by rw[hpl.length_eq];simp
  obtain⟨h1,h2⟩:=own_sortK (m:=k) (os:=os) (l':=d'.toList) hk (by omega) h hdl;rw[show d'.toList.toArray=d' by simp]at h1 h2;refine⟨rfl,d'.toList.map (·.1),by rw[List.length_map,hdl],fun p hp=>?_,?_,by rw[← flat_enc];exact h1,h2.mono fun i _ e=>by subst e;rfl⟩
  ·obtain⟨x,-,rfl⟩:=List.mem_map.1 hp
   exact x.2
  ·refine sort_uniq hon ?_ ?_
   ·have:=(hpl.map (·.1)).map (·.2)
    rwa [List.attach_map_subtype_val]at this
   ·rw[List.pairwise_map,List.pairwise_map,List.pairwise_iff_getElem]
    intro i j hi hj hij;have:=hso i j (Nat.zero_le _) hij (by omega);rw[getElem!_pos _ i (by simpa using hi),getElem!_pos _ j (by simpa using hj)]at this;unfold ltOf cfG at this;rw[decide_eq_false_iff_not]at this;unfold leC;rw[decide_eq_true_eq,cmpC_neg (d'.toList[j]).1.2 (d'.toList[i]).1.2];simp only[Array.getElem_toList]at this ⊢;omega
end Go.Proofs.YtjpkkkphhaajgaaGreatDoor.wcp
namespace Go.Proofs.YtjpkkkphhaajgaaGreatDoor.wcp
open Go words scn
open shp (Szs prodI InT idxI tupI allI)
def putP (T:TpH)(p:List Int × Int):TpH:=putF T p.1 p.2
theorem putP_same (ps:List (List Int × Int)):∀ (T:TpH),(ps.foldl putP T).sizes=T.sizes∧(ps.foldl putP T).k=T.k∧(ps.foldl putP T).other=T.other:=by
 induction ps with
 |nil=>exact fun T=>⟨rfl,rfl,rfl⟩
 |cons p ps ih=>exact fun T=>ih (putP T p)
theorem put_other {T:TpH}{t:List Int}{c:Int}(h:T.f t=none)(hc:c=T.other):putF T t c=T:=by
 unfold putF;rw[if_pos hc]
 have:(fun u=>if u=t then none else T.f u)=T.f:=by
  funext u
  by_cases e:u=t
  ·rw[if_pos e,e,h]
  ·rw[if_neg e]
 rw[this]
theorem fold_put:∀ (ps:List (List Int × Int)) (T:TpH) (o:Int),T.other=o→(ps.map (·.1)).Nodup→(∀p∈ps,T.f p.1=none)→ps.foldl putP T=(ps.filter fun p=>decide (p.2≠o)).foldl putP T:=by
 intro ps
 induction ps with
 |nil=>intro T o _ _ _;rfl
 | cons p ps ih =>
   intro T o ho hn hf;obtain⟨h1,h2⟩:=List.nodup_cons.1 (by simpa using hn:(p.1::ps.map (·.1)).Nodup);have h0:=hf p (by simp);rw[List.foldl_cons];by_cases hc:p.2=o
   ·rw[List.filter_cons_of_neg (by simp[hc]),show putP T p=T from put_other h0 (by rw[ho];exact hc)]
    exact ih T o ho h2 fun q hq=>hf q (by simp[hq])
   ·rw[List.filter_cons_of_pos (by simp[hc]),List.foldl_cons]
    refine ih (putP T p) o ho h2 fun q hq=>?_
    have hne:q.1≠p.1:=fun e=>h1 (e ▸ List.mem_map_of_mem hq)
    unfold putP putF;rw[if_neg (by rw[ho];exact hc)];show (if q.1=p.1 then some p.2 else T.f q.1)=none;rw[if_neg hne];exact hf q (by simp[hq])
theorem tab_ne {g:CF}{zs:List Int}{K:Int}(h:GoodC zs K g):g.C ≠ []:=by
 obtain⟨f,e,-⟩:=h.tab;intro e2;have:=tabF_len h.szs f;rw[← e,e2]at this;have:=shp.szs_prod h.szs;simp at *;omega
theorem tab_in {g:CF}{zs:List Int}{K:Int}(h:GoodC zs K g):∀c∈g.C,inB c K=true:=by
 obtain⟨f,e,hf⟩:=h.tab;intro c hc;rw[e]at hc;obtain⟨t,ht,rfl⟩:=List.mem_map.1 hc;exact hf t ((mem_all fun z hz=>(h.szs.2 z hz).1).1 ht)
theorem most_in {g:CF}{zs:List Int}{K:Int}(h:GoodC zs K g):inB (mostL g.C) K=true:=tab_in h _ (mostL_best (tab_ne h)).1
theorem zip_all {g:CF}{zs:List Int}{K:Int}(h:GoodC zs K g):((allI g.sizes).zip g.C).map (·.1)=allI g.sizes:=by
 obtain⟨f,e,-⟩:=h.tab;refine List.map_fst_zip ?_;rw[e];unfold tabF;rw[List.length_map];exact Nat.le_refl _
theorem of_tp {g:CF}{zs:List Int}{K:Int}(h:GoodC zs K g):((allI g.sizes).zip g.C).foldl putP ⟨g.sizes,K,mostL g.C,fun _=>none⟩=tpOf (rawC g) K (linesC g):=by
 rw[fold_put _ _ (mostL g.C) rfl (by rw[zip_all h];exact all_nodup h.szs) (fun _ _=>rfl)];have hm:=most_in h;unfold inB at hm;rw[decide_eq_true_eq]at hm
 have h0:tp0 (rawC g) K=⟨g.sizes,K,mostL g.C,fun _=>none⟩:=by
  unfold tp0 rawC;dsimp only;rw[show min (mostL g.C) K=mostL g.C by omega]
 have hin:∀p∈linesC g,min p.2 K=p.2:=fun p hp=>by
  have:=(lines_mem.1 hp).1;have:=tab_in h p.2 (List.of_mem_zip this).2;unfold inB at this;rw[decide_eq_true_eq]at this;omega
 unfold tpOf;rw[h0];show (linesC g).foldl putP _=_;generalize (⟨g.sizes,K,mostL g.C,fun _=>none⟩:TpH)=T
 revert hin
 generalize linesC g=ls;intro hin
 induction ls generalizing T with
 |nil=>rfl
 | cons p ls ih =>
   rw[List.foldl_cons,List.foldl_cons,hin p (by simp)];exact ih _ fun q hq=>hin q (by simp[hq])
def lineN (g:CF)(j:Nat):Nat:=((((allI g.sizes).zip g.C).take j).filter fun p=>decide (p.2≠mostL g.C)).length
theorem lineN_step {g:CF}{j:Nat}{p:List Int × Int}(h:((allI g.sizes).zip g.C)[j]?=some p):lineN g (j+1)=if p.2=mostL g.C then lineN g j else lineN g j+1:=by
 unfold lineN;rw[List.take_add_one,h,Option.toList_some,List.filter_append,List.length_append];by_cases e:p.2=mostL g.C
 ·rw[if_pos e,List.filter_cons_of_neg (by simp[e])];simp
 ·rw[if_neg e,List.filter_cons_of_pos (by simp[e])];simp
theorem lineN_all (g:CF){j:Nat}(h:((allI g.sizes).zip g.C).length≤j):lineN g j=(linesC g).length:=by
 unfold lineN;rw[List.take_of_length_le h];rfl
theorem lineN_le (g:CF)(j:Nat):lineN g j≤j:=by
 unfold lineN;exact Nat.le_trans (List.length_filter_le _ _) (by rw[List.length_take];omega)
theorem putP_step {T:TpH}{ps:List (List Int × Int)}{j:Nat}{p:List Int × Int}(h:ps[j]?=some p):(ps.take (j+1)).foldl putP T=putF ((ps.take j).foldl putP T) p.1 p.2:=by
 rw[List.take_add_one,h,List.foldl_append];rfl
theorem zip_at {zs:List Int}{f:List Int→Int}{j:Nat}{t:List Int}(h:(allI zs)[j]?=some t):((allI zs).zip (tabF zs f))[j]?=some (t,f t):=by
 refine List.getElem?_zip_eq_some.2 ⟨h,?_⟩;unfold tabF;rw[List.getElem?_map,h];rfl
end Go.Proofs.YtjpkkkphhaajgaaGreatDoor.wcp
