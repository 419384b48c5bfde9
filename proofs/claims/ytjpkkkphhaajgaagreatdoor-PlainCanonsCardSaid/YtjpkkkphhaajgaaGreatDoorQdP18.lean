/- a part -/
import Derived.Test.YtjpkkkphhaajgaaGreatDoorQdP16
set_option linter.all false
namespace Go.Proofs.YtjpkkkphhaajgaaGreatDoor.wcp
open Go scn
variable {en ee:Int}
theorem pword_cons (w:Wd)(l:List Wd)(b:Option Int)(t:Int)(sh:List (List Int × List (List Int × Int))):pword en ee ⟨w::l,b,t,sh⟩ = .ok w ⟨l,b,t,sh⟩:=rfl
theorem pnum_cons {v:List UInt8}{p:Nat}{n lo hi:Int}(l:List Wd)(b:Option Int)(t:Int)(sh:List (List Int × List (List Int × Int)))(hr:readW v=(n,0))(h0:lo≤n)(h1:n≤hi) :
 pnum en ee lo hi ⟨(v,p)::l,b,t,sh⟩ = .ok (n,(p:Int)) ⟨l,b,t,sh⟩:=by
 unfold pnum;rw[pword_cons,Res.bind_ok];dsimp only;rw[hr];dsimp only;rw[if_neg (by omega)]
def LargeT (bs:List UInt8)(x:Int):Prop:=bs.length≤20000∧∃l f s,Mid bs l∧(∀en ee,pbody en ee ⟨l,none,0,[]⟩ = .ok f s)∧s.l = []∧s.big=some x
theorem LargeT.said {bs:List UInt8}{x:Int}(h:LargeT bs x):∃l,scn.Told bs l (-1)∧pread (enOf bs (-1)) (eeOf (-1)) l = .err 5 x:=by
 obtain⟨_,l,f,⟨sl,sb,st,ss⟩,hm,hp,h1,h2⟩:=h;refine⟨l,hm.told,?_⟩;dsimp only at h1 h2;subst h1 h2;exact ((pread_end (hp _ _)).2 rfl).2 rfl |>.1 x rfl
theorem LargeT.wrong {bs:List UInt8}{x:Int}(h:LargeT bs x):∃l,scn.Told (bs ++ [32,120]) l (-1)∧pread (enOf (bs ++ [32,120]) (-1)) (eeOf (-1)) l = .err 4 (bs.length+1:Nat):=by
 obtain⟨_,l,f,⟨sl,sb,st,ss⟩,hm,hp,h1,h2⟩:=h;have hm2:=hm.snoc (v := [120]) (by simp) (by decide);refine⟨_,hm2.told,?_⟩;dsimp only at h1 h2;subst h1 h2;have hq:=pbody_more (en:=enOf (bs ++ [32,120]) (-1)) (ee:=4) (en2:=enOf (bs ++ [32,120]) (-1)) (ee2:=4) (l2 := [([120],bs.length+1)]) ⟨l,none,0,[]⟩;rw[hp]at hq;have e0:(Ps.more ⟨l,none,0,[]⟩ [([120],bs.length+1)])=⟨l ++ [([120],bs.length+1)],none,0,[]⟩:=rfl;rw[e0]at hq;rcases hq with⟨f',s',h3,h4⟩ | ⟨_,_,h3,_⟩ | h3
 ·injection h3 with h5 h6
  subst h5 h6;exact (pread_end h4).1 _ _ rfl
 ·cases h3
 ·cases h3
end Go.Proofs.YtjpkkkphhaajgaaGreatDoor.wcp
namespace Go.Proofs.YtjpkkkphhaajgaaGreatDoor.wcp
open Go scn
variable {en ee:Int}
def numT (vs:List Int):List UInt8:=vs.flatMap fun v=>32::Lib.itoa v
theorem numT_cons (v:Int)(vs:List Int):numT (v::vs)=32::Lib.itoa v++numT vs:=rfl
def WN (l:List Wd)(vs:List Int):Prop:=l.map Prod.fst=vs.map Lib.itoa
theorem Mid.nums:∀ (vs:List Int) {bs:List UInt8} {l:List Wd},scn.Mid bs l→∃lw,scn.Mid (bs++numT vs) (l++lw)∧WN lw vs:=by
 intro vs
 induction vs with
 |nil=>intro bs l h;exact⟨[],by simpa [numT] using h,rfl⟩
 | cons v vs ih =>
   intro bs l h;obtain⟨i1,i2⟩:=itoa_in v;obtain⟨lw,h2,h3⟩:=ih (h.snoc i1 i2);refine⟨(Lib.itoa v,bs.length+1)::lw,?_,?_⟩
   ·rw[numT_cons]
    simpa [List.append_assoc] using h2
   ·unfold WN at h3 ⊢
    rw[List.map_cons,List.map_cons,h3]
theorem WN.cons {l:List Wd}{v:Int}{vs:List Int}(h:WN l (v::vs)):∃p l',l=(Lib.itoa v,p)::l'∧WN l' vs:=by
 cases l with
 |nil=>cases h
 | cons w l =>
   unfold WN at h;rw[List.map_cons,List.map_cons]at h;injection h with h1 h2
   exact⟨w.2,l,by rw[← h1],h2⟩
theorem WN.nil {l:List Wd}(h:WN l []):l = []:=by
 cases l with
 |nil=>rfl
 |cons w l=>cases h
def Sm (v:Int):Prop := -4611686018427387904≤v∧v≤4611686018427387904
theorem pn {lw:List Wd}{v lo hi:Int}{vs:List Int}(b:Option Int)(t:Int)(sh:List (List Int × List (List Int × Int)))(h:WN lw (v::vs))(hs:Sm v)(h0:lo≤v)(h1:v≤hi) :
 ∃ (p:Int) (l':List Wd),pnum en ee lo hi ⟨lw,b,t,sh⟩ = .ok (v,p) ⟨l',b,t,sh⟩∧WN l' vs:=by
 obtain⟨p,l',rfl,h2⟩:=h.cons;exact⟨_,l',pnum_cons l' b t sh (readW_small hs.1 hs.2) h0 h1,h2⟩
end Go.Proofs.YtjpkkkphhaajgaaGreatDoor.wcp
namespace Go.Proofs.YtjpkkkphhaajgaaGreatDoor.wcp
open Go words scn
open shp (Szs prodI InT idxI tupI allI)
theorem WN.append {l m:List Wd}{vs us:List Int}(h:WN l vs)(k:WN m us):WN (l++m) (vs++us):=by
 unfold WN at *;rw[List.map_append,List.map_append,h,k]
end Go.Proofs.YtjpkkkphhaajgaaGreatDoor.wcp
namespace Go.Proofs.YtjpkkkphhaajgaaGreatDoor.wcp
open Go RowKit ChangeShapes WideShapes ChangeAt Maps words scn
def lastC (o:Int)(ls:List (List Int × Int))(t:List Int):Int:=ls.foldl (fun c l=>if l.1=t then l.2 else c) o
theorem lastC_snoc (o:Int)(ls:List (List Int × Int))(l:List Int × Int)(t:List Int):lastC o (ls ++ [l]) t=if l.1=t then l.2 else lastC o ls t:=by unfold lastC;rw[List.foldl_append];rfl
theorem putF_get (T:TpH)(t u:List Int)(c:Int):(putF T t c).get u=if t=u then c else T.get u:=by
 unfold TpH.get putF;dsimp only;by_cases hc:c=T.other
 ·rw[if_pos hc]
  by_cases h:t=u
  ·subst h;simp[hc]
  ·rw[if_neg (fun e=>h e.symm),if_neg h]
 ·rw[if_neg hc]
  by_cases h:t=u
  ·subst h;simp
  ·rw[if_neg (fun e=>h e.symm),if_neg h]
theorem get_last (f:Raw)(K:Int)(u:List Int):∀ls:List (List Int × Int),(tpOf f K ls).get u=min (lastC f.other ls u) K:=by
 intro ls;generalize hn:ls.length=n
 induction n generalizing ls with
 | zero =>
   obtain rfl:=List.eq_nil_of_length_eq_zero hn;unfold lastC tpOf TpH.get
   rfl
 | succ n ih =>
   obtain⟨l0,l,rfl⟩:∃l0 l,ls=l0 ++ [l]:=⟨ls.dropLast,ls.getLast (by intro h;rw[h]at hn;cases hn),(List.dropLast_concat_getLast _).symm⟩;rw[tpOf_snoc,putF_get,lastC_snoc,ih l0 (by simpa using hn)];split<;>rfl
theorem less_any (a b:Int)(w:World):Calls Tryz.prog 73 #[.int .i64 a,.int .i64 b] w fun e w'=>e = .returned (.int .i64 (min a b))∧w=w':=by
 by_cases h:a<b
 ·have hI:decide (a<b)=true:=decide_eq_true h
  have hm:min a b=a:=by omega
  rw[hm];clear h hm
  go_enter Tryz.func73,Tryz.ntmps73
  go_wp2
  go_ret;exact⟨rfl,rfl⟩
 ·have hI:decide (a<b)=false:=decide_eq_false h
  have hm:min a b=b:=by omega
  rw[hm];clear h hm
  go_enter Tryz.func73,Tryz.ntmps73
  go_wp2
  go_ret;exact⟨rfl,rfl⟩
theorem radd_any (a b k:Int)(ha : -4611686018427387904≤a∧a≤4611686018427387903)(hb : -4611686018427387904≤b∧b≤4611686018427387903)(w:World):Calls Tryz.prog 52 #[.int .i64 a,.int .i64 b,.int .i64 k] w fun e w'=>e = .returned (.int .i64 (min (a+b) k))∧w=w':=by
 by_cases h:k<a+b
 ·have hI:decide (k<a+b)=true:=decide_eq_true h
  have hm:min (a+b) k=k:=by omega
  rw[hm];clear h hm
  go_enter Tryz.func52,Tryz.ntmps52
  go_wp2
  go_ret;exact⟨rfl,rfl⟩
 ·have hI:decide (k<a+b)=false:=decide_eq_false h
  have hm:min (a+b) k=a+b:=by omega
  rw[hm];clear h hm
  go_enter Tryz.func52,Tryz.ntmps52
  go_wp2
  go_ret;exact⟨rfl,rfl⟩
set_option maxRecDepth 100000 in
set_option maxHeartbeats 8000000 in
theorem qcost_any {w:World}{v1 v2 v4:Value}{o:Int}{f:Raw}(h:QFn w v1 v2 o v4 f)(A:Option Addr)(n cap:Nat)(t:List Int)(hr:Reads w w.heap.size 1 A n (nums t))(hn:n≤1000000)(k:Int) :
 Calls Tryz.prog 30 #[.agg #[v1,v2,.int .i64 o,v4],.slice A n cap,.int .i64 k] w fun e w'=>e = .returned (.int .i64 (min (lastC f.other f.lines t) k))∧Below w.heap.size w w':=by
 obtain⟨rfl,⟨⟨A1,c1,rfl⟩,-⟩,⟨⟨A2,c2,rfl⟩,-⟩,L,hL,⟨A4,c4,rfl⟩,hown,hrows⟩:=h;have hb1:=bone w (.cells #[.slice A1 f.scope.length c1,.slice A2 f.sizes.length c2,.int .i64 f.other,.slice A4 L.length c4] 70);obtain⟨x0,x1,x2,x3,-⟩:=Blk.four (t:=70) (Blk.new w 70 #[.slice A1 f.scope.length c1,.slice A2 f.sizes.length c2,.int .i64 f.other,.slice A4 L.length c4]);have hlm:=own_max hown;obtain⟨w1,hw1⟩:∃w1,w.alloc (.cells #[.slice A1 f.scope.length c1,.slice A2 f.sizes.length c2,.int .i64 f.other,.slice A4 L.length c4] 70)=w1:=⟨_,rfl⟩;rw[hw1]at hb1 x0 x1 x2 x3;have HB1:=Hd hb1;have HO:=Hd (own_under hown hb1);have HR:=Hd (hr.below hb1 |>.more hb1.size);have HRO:=Hd (fun p hp=>(hrows p hp).tch (Tch.of_below hb1 (fun _=>False)) (fun _ h=>h.elim));have HL:=Hd hL;have htl:=nums_len hr;have HTL:=Hd htl;clear hown hrows hr hb1 hL htl
 go_enter Tryz.func30,Tryz.ntmps30
 go_wp2_with fail;clear x0 x1 x2 x3 hw1
 go_loopw [7,15] (fun cv jv wr => ∃j:Nat,jv = .int .i64 j∧j≤L.length∧cv = .int .i64 (lastC f.other (f.lines.take j) t)∧Hid (Below w1.heap.size w1 wr)) (fun _ jv _=>L.length-(intOf jv).toNat)
 case atStart=>exact⟨0,rfl,Nat.zero_le _,rfl,Below.refl _ _⟩
 case round =>
  obtain⟨j,rfl,hj,rfl,hb⟩:=hrel;by_cases hjl:j<L.length
  ·obtain⟨p,hp⟩:∃p,L[j]?=some p:=⟨_,List.getElem?_eq_getElem hjl⟩
   have ho:=own_under HO.out hb.out;obtain⟨q4,rfl,-,-⟩:=own_some ho (by omega);obtain⟨⟨tA,tC,htv⟩,hro⟩:=HRO.out p (List.mem_of_getElem? hp);obtain⟨tv,tu,tk⟩:=p;dsimp only at htv hro;subst htv;have hfl:f.lines[j]?=some (tu,tk):=by rw[← HL.out,List.getElem?_map,hp];rfl
   obtain⟨e1,e2⟩:=qlc_at hp;have c40:=(ho.cellAt (j*2) (by omega)).trans e1;have c41:=(ho.cellAt (j*2+1) (by omega)).trans e2;have jI:decide ((j:Int)<(L.length:Int))=true:=decide_eq_true (by omega);have i0:(0:Int)≤(j:Int):=Int.natCast_nonneg _;have i1:(j:Int)<(L.length:Int):=by omega
   have hby:=bone wr (.cells #[.slice tA tu.length tC,.int .i64 tk] 137);obtain⟨z0,z1⟩:=Blk.two (Blk.new wr 137 #[.slice tA tu.length tC,.int .i64 tk]);obtain⟨wy,hwy⟩:∃wy,wr.alloc (.cells #[.slice tA tu.length tC,.int .i64 tk] 137)=wy:=⟨_,rfl⟩;rw[hwy]at hby z0 z1;have hbb:Below w1.heap.size w1 wy:=hb.out.trans (hby.mono hb.out.size);have hsm:=same_ref tA A tu.length n tC cap tu t wy (own_max hro) (by omega) (Reads.of_own (own_under hro hbb)) ((HR.out.below hbb).more hbb.size);have hst:lastC f.other (f.lines.take (j+1)) t=if tu=t then tk else lastC f.other (f.lines.take j) t:=by rw[List.take_add_one,hfl];exact lastC_snoc _ _ _ _
   have HST:=Hd hst;have HBB:=Hd hbb;have hlt2:wr.heap.size<wy.heap.size:=by rw[← hwy];simp
   clear hp ho hro hfl e1 e2 hby hbb hst;go_wp2_with fail;refine hsm.mono ?_;rintro e w7 ⟨rfl,hb7⟩;have HB7:=Hd (HBB.out.trans (hb7.mono HBB.out.size));have z1':=((bcell hb7).1 wr.heap.size 1 hlt2).trans z1;clear hsm hb7 z0 z1 c40 c41 hwy hlt2;by_cases hE:tu=t
   ·have hEb:eqB tu t=true:=decide_eq_true hE
    have HE:=Hd hE;clear hE;go_wp2_with fail;go_roundw
    case measure=>simp[intOf];omega
    case rel=>exact⟨j+1,by go_num,hjl,by rw[HST.out,if_pos HE.out],HB7⟩
   ·have hEb:eqB tu t=false:=decide_eq_false hE
    have HE:=Hd hE;clear hE z1';go_wp2_with fail;go_roundw
    case measure=>simp[intOf];omega
    case rel=>exact⟨j+1,by go_num,hjl,by rw[HST.out,if_neg HE.out],HB7⟩
  ·obtain rfl:j=L.length:=by omega
   have jI:decide ((L.length:Int)<(L.length:Int))=false:=decide_eq_false (by omega);have hll:L.length=f.lines.length:=by rw[← HL.out];simp
   have hls:=less_any (lastC f.other (f.lines.take L.length) t) k wr;rw[List.take_of_length_le (by omega)]at hls ⊢;clear hll;go_wp2_with fail;refine hls.mono ?_;rintro e w8 ⟨rfl,rfl⟩;go_wp2_with fail;go_ret;exact⟨rfl,HB1.out.trans (hb.out.mono HB1.out.size)⟩
theorem QFn.below {w w':World}{v1 v2 v4:Value}{o:Int}{f:Raw}(h:QFn w v1 v2 o v4 f)(hb:Below w.heap.size w w'):QFn w' v1 v2 o v4 f:=h.tch (Tch.of_below hb (fun _=>False)) (fun _ h=>h.elim) (fun _ h=>h.elim)
theorem QFileV.below {w w':World}{B g:Nat}{f:Fil}(h:QFileV w B g f)(hb:Below w.heap.size w w'):QFileV w' B g f:=by
 obtain⟨vz,vf,V,h1,h2,h3,h4,h5,h6⟩:=h;exact⟨vz,vf,V,h1,h2.under hb,h3.tch (Tch.of_below hb (fun _=>False)) (fun _ h=>h.elim),h4,own_under h5 hb,fun p hp=>(h6 p hp).below hb⟩
def reps (l:List Int)(v:Int):List Int:=(l.filter fun x=>decide (x=v)).map fun _=>v
def riseU (l:List Int)(v:Nat):List Int:=(List.range v).flatMap fun (u:Nat)=>reps l u
theorem riseU_succ (l:List Int)(v:Nat):riseU l (v+1)=riseU l v++reps l v:=by
 unfold riseU;rw[List.range_succ,List.flatMap_append];simp
theorem reps_take {l:List Int}{v x:Int}{j:Nat}(h:l[j]?=some x):reps (l.take (j+1)) v=if x=v then reps (l.take j) v ++ [v] else reps (l.take j) v:=by
 unfold reps;rw[List.take_add_one,h,Option.toList_some,List.filter_append,List.map_append];by_cases e:x=v
 ·rw[if_pos e,List.filter_cons_of_pos (by simp[e])];rfl
 ·rw[if_neg e,List.filter_cons_of_neg (by simp[e])];simp
theorem reps_len (l:List Int)(v:Int):(reps l v).length≤l.length:=by
 unfold reps;rw[List.length_map];exact List.length_filter_le _ _
theorem riseU_len (l:List Int):∀v:Nat,(riseU l v).length≤v*l.length
 |0=>by simp[riseU]
 | v+1=>by
   have h:=riseU_len l v;have h2:=reps_len l v;rw[riseU_succ,List.length_append,Nat.add_mul];omega
theorem reps_one {l:List Int}(hn:l.Nodup){v:Int}:reps l v=if v∈l then [v] else []:=by
 induction l with
 |nil=>rfl
 | cons a l ih =>
   obtain⟨h1,h2⟩:=List.nodup_cons.1 hn;have:=ih h2;unfold reps at this ⊢;by_cases e:a=v
   ·subst e
    rw[List.filter_cons_of_pos (by simp),List.map_cons,this,if_neg h1,if_pos (by simp)]
   ·rw[List.filter_cons_of_neg (by simp[e]),this]
    by_cases hm:v∈l
    ·rw[if_pos hm,if_pos (by simp[hm])]
    ·rw[if_neg hm,if_neg (by simp[hm];exact fun e2=>e e2.symm)]
theorem riseU_rise {l:List Int}(hn:l.Nodup)(hb:∀v∈l,0≤v∧v<64):riseU l 64=rise l:=by
 have e:∀v:Nat,reps l v=if (v:Int)∈l then [(v:Int)] else []:=fun v=>reps_one hn
 have hp:(riseU l 64).Pairwise (fun a b=>a<b):=by
  unfold riseU;rw[List.pairwise_flatMap];refine⟨fun v _=>?_,?_⟩
  ·rw[e];split<;>simp
  ·refine List.pairwise_lt_range.imp fun {u v} huv a ha b hb=>?_
   rw[e]at ha hb;split at ha
   ·split at hb
    ·simp at ha hb;omega
    ·cases hb
   ·cases ha
 have hm:∀v,v∈riseU l 64↔v∈l:=fun v=>by
  unfold riseU;rw[List.mem_flatMap];constructor
  ·rintro ⟨u,-,hu⟩
   rw[e]at hu;split at hu
   ·simp at hu;rw[hu];assumption
   ·cases hu
  ·intro hv
   obtain⟨h0,h1⟩:=hb v hv;refine⟨v.toNat,List.mem_range.2 (by omega),?_⟩;rw[e,Int.toNat_of_nonneg h0,if_pos hv];simp
 have hnd:(riseU l 64).Nodup:=hp.imp fun h=>by omega
 exact rising_uniq hp (rise_lt hn) (((List.perm_ext_iff_of_nodup hnd hn).2 hm).trans (rise_perm l).symm)
theorem infoInt8:(Tryz.prog.info? 3).map (fun i=>(i.zero,i.size,i.bytes))=some (some (.int .i64 0),1,8):=by kernel_rfl
def RisingR (xs:List Int)(w:World)(e:Ending)(w':World):Prop := ∃A c,e = .returned (.slice A (riseU xs 64).length c)∧w'.ownsRow w.heap.size 3 1 (.slice A (riseU xs 64).length c) (riseU xs 64).length (nums (riseU xs 64))∧Below w.heap.size w w'
set_option maxRecDepth 100000 in
set_option maxHeartbeats 4000000 in
theorem rising_any (A0:Option Addr)(n c0:Nat)(xs:List Int)(w:World)(hn:n≤1000)(hr:Reads w w.heap.size 1 A0 n (nums xs)) :
 Calls Tryz.prog 117 #[.slice A0 n c0] w fun e w'=>RisingR xs w e w':=by
 obtain⟨i0,hi0,hz0,hz1,hz2⟩:=info_parts infoInt8;have HL:=Hd (nums_len hr);have HR:=Hd hr;clear hr
 go_enter Tryz.func117,Tryz.ntmps117
 go_wp2_with fail
 go_loopw [3,4] (fun ov iv wr => ∃ (v m c:Nat) (A:Option Addr) (L:List Int),iv = .int .i64 v∧v≤64∧ov = .slice A m c∧Hid (L=riseU xs v)∧Hid (wr.ownsRow w.heap.size 3 1 (.slice A m c) m (nums L))∧Hid (Below w.heap.size w wr)) (fun _ iv _=>64-(intOf iv).toNat)
 case atStart=>exact⟨0,0,0,none,[],rfl,Nat.zero_le _,rfl,rfl,World.ownsRow_nil _ _ _ _,Below.refl _ _⟩
 case round =>
  obtain⟨v,m,c,A,L,rfl,hv,rfl,HLL,HO,HB⟩:=hrel;by_cases hlt:v<64
  ·have v0:(0:Int)≤(v:Int):=Int.natCast_nonneg _
   have v1:(v:Int)<64:=by omega
   go_wp2_with fail
   go_loopw [3,13] (fun ov iv wr => ∃ (j m c:Nat) (A:Option Addr) (L:List Int),iv = .int .i64 j∧j≤n∧ov = .slice A m c∧Hid (L=riseU xs v++reps (xs.take j) v)∧Hid (wr.ownsRow w.heap.size 3 1 (.slice A m c) m (nums L))∧Hid (Below w.heap.size w wr)) (fun _ iv _=>n-(intOf iv).toNat)
   case atStart=>exact⟨0,m,c,A,L,rfl,Nat.zero_le _,rfl,by rw[Hid,HLL.out];simp[reps],HO,HB⟩
   case round =>
    obtain⟨j,m2,c2,A2,L2,rfl,hj,rfl,HL2,HO2,HB2⟩:=hrel;by_cases hlj:j<n
    ·obtain⟨ad,x,rfl,hab,hx,hc⟩:=HR.out.num hlj
     have hc2:=(HB2.out.cell (p:=ad.add j) (by rw[block_of_add];exact hab)).trans hc;have HTK:=Hd (reps_take (v:=(v:Int)) hx);have j0:(0:Int)≤(j:Int):=Int.natCast_nonneg _;have j1:(j:Int)<(n:Int):=by omega
     clear hab hx hc;by_cases hxv:x=(v:Int)
     ·subst hxv
      have HTK2:Hid (reps (xs.take (j+1)) v=reps (xs.take j) v ++ [(v:Int)]):=by rw[Hid,HTK.out,if_pos rfl]
      have hm2:m2≤66000:=by
       have h1:=nums_own_len HO2.out;have h2:=congrArg List.length HL2.out;have h3:=riseU_len xs v;have h4:=reps_len (xs.take j) v;have h5:=HL.out;rw[List.length_append]at h2;rw[List.length_take]at h4;have h6:v*xs.length≤64*1000:=Nat.mul_le_mul (by omega) (by omega);omega
      have HB3:=Hd (bnew HB2.out (.cells #[.int .i64 v] 3));have ho3:=own_under HO2.out (bone wr (.cells #[.int .i64 v] 3));have hr1:Reads (wr.alloc (.cells #[.int .i64 v] 3)) (wr.alloc (.cells #[.int .i64 v] 3)).heap.size 1 (some ⟨wr.heap.size,0,none⟩) 1 (nums [(v:Int)]):=reads_block (t:=3) (heap_alloc_new _ _) rfl;have hsz:w.heap.size≤(wr.alloc (.cells #[.int .i64 v] 3)).heap.size:=HB3.out.size;clear HTK HB2 HO2
      go_wp2_with (first
       |(at_builtin;refine wpList_append_any _ rfl (.tmp 20) (.tmp 22) _ rfl w.heap.size 3 i0 _ 1 8 Tryz.underlying31 hi0 hz0 hz1 hz2 rfl (by omega) (.slice A2 m2 c2) m2 _ rfl ho3 _ _ 1 1 (nums [(v:Int)]) rfl hr1 nums_one (by simp only[maxLen];omega) (by omega) hsz ?_;intro v6 w6 hown6 hg6 hat6;clear hat6;obtain⟨A6,c6,rfl⟩:=own_shape hown6;have HO6:=Hd hown6;have HG6:=Hd (HB3.out.grown hg6 hsz (fun g hg=>(own_in ho3 hg).1));clear hown6 hg6 ho3 hr1)
       |fail)
      all_goals
       go_roundw
       case measure=>simp[intOf];omega
       case rel=>exact⟨j+1,m2+1,c6,A6,L2 ++ [(v:Int)],by go_num,by omega,rfl,by rw[Hid,HTK2.out,HL2.out];simp,by rw[Hid];unfold nums at *;rw[List.map_append];exact HO6.out,HG6⟩
     ·have hne:(x==(v:Int))=false:=by simpa using hxv
      have HTK2:Hid (reps (xs.take (j+1)) v=reps (xs.take j) v):=by rw[Hid,HTK.out,if_neg hxv]
      clear HTK hxv;go_wp2_with fail;go_roundw
      case measure=>simp[intOf];omega
      case rel=>exact⟨j+1,m2,c2,A2,L2,by go_num,by omega,rfl,by rw[Hid,HTK2.out,HL2.out],HO2,HB2⟩
    ·obtain rfl:j=n:=by omega
     go_wp2_with fail;go_roundw
     case measure=>simp[intOf];omega
     case rel=>exact⟨v+1,m2,c2,A2,L2,by go_num,by omega,rfl,by rw[Hid,riseU_succ,HL2.out,← HL.out,List.take_length],HO2,HB2⟩
  ·obtain rfl:v=64:=by omega
   have hml:L.length=m:=nums_own_len HO.out;have HML:=Hd hml;clear hml;go_wp2_with fail;go_ret;obtain rfl:=HML.out;obtain rfl:=HLL.out;exact⟨A,c,rfl,HO.out,HB.out⟩
end Go.Proofs.YtjpkkkphhaajgaaGreatDoor.wcp
