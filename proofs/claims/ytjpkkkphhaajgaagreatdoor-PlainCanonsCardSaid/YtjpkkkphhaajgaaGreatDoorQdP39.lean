/- a part -/
import Derived.Test.YtjpkkkphhaajgaaGreatDoorQdP18
import Derived.Test.YtjpkkkphhaajgaaGreatDoorQdP28
import Derived.Test.YtjpkkkphhaajgaaGreatDoorQdP38
set_option linter.all false
namespace Go.Proofs.YtjpkkkphhaajgaaGreatDoor.wcp
open Go words scn
open shp (Szs prodI InT idxI tupI allI)
theorem told_mem {r:Raw}{K:Int}:∀ (n:Nat) (ls:List (List Int × Int)),ls.length=n→∀t,((tpOf r K ls).f t).isSome=true→t∈ls.map (·.1):=by
 intro n
 induction n with
 | zero =>
   intro ls hl t ht;obtain rfl:=List.length_eq_zero_iff.1 hl
   cases ht
 | succ n ih =>
   intro ls hl t ht;obtain⟨ms,l,rfl⟩:∃ms l,ls=ms ++ [l]:=⟨ls.dropLast,ls.getLast (by rintro rfl;cases hl),(List.dropLast_concat_getLast _).symm⟩;have hml:ms.length=n:=by simp at hl;exact hl
   rw[tpOf_snoc]at ht;rw[List.map_append,List.mem_append];by_cases e:t=l.1
   ·exact .inr (by simp[e])
   ·refine .inl (ih ms hml t ?_)
    unfold putF at ht;dsimp only at ht;split at ht
    ·dsimp only at ht;rw[if_neg e]at ht;exact ht
    ·dsimp only at ht;rw[if_neg e]at ht;exact ht
def lenW (ws:List (List UInt8)):Nat:=ws.foldr (fun w n=>w.length+1+n) 0
theorem lenW_cons (w:List UInt8)(ws:List (List UInt8)):lenW (w::ws)=w.length+1+lenW ws:=rfl
theorem flat_len (ws:List (List UInt8)):(ws.flatMap fun v=>(32:UInt8)::v).length=lenW ws:=by
 induction ws with
 |nil=>rfl
 |cons w ws ih=>rw[List.flatMap_cons,List.length_append,ih,lenW_cons];simp
def wtR (x:Raw):Nat:=37+11*(x.lines.length*(x.sizes.length+1))
def wtF (fs:List Raw):Nat:=fs.foldr (fun x n=>wtR x+n) 0
theorem wtF_cons (x:Raw)(fs:List Raw):wtF (x::fs)=wtR x+wtF fs:=rfl
variable {en ee:Int}
theorem plines_words {sizes:List Int}:∀ (k:Nat) {s s':Ps} {out:List (List Int × Int)},plines en ee sizes k [] s = .ok out s'→s'.l.length+k*(sizes.length+1)≤s.l.length:=by
 intro k
 induction k with
 |zero=>intro s s' out h;injection h with h1 h2;subst h1 h2;simp
 | succ k ih =>
   intro s s' out h;rw[plines_snoc]at h;obtain⟨o,s1,e1,h⟩:=bind_inv h;unfold pline at h;obtain⟨t,s2,e2,h⟩:=bind_inv h;obtain⟨c,s3,e3,h⟩:=bind_inv h;have a1:=ih e1;have a2:=(ptup_ok _ e2).2.2.2.2;have a3:=(pnum_ok e3).2.2.2.2.2
   have h4:s'.l=s3.l:=by
    split at h
    ·cases h
    ·injection h with _ h;rw[h]
   rw[h4,Nat.add_mul];omega
def WLe (M:Nat)(n:Nat)(ls:List (List Int × Int)):Prop:=ls.length*(n+1)≤M
theorem pall_words {sizes:List Int}{s s':Ps}{out:List (List Int × Int)}{M:Nat}(h:pall en ee sizes s = .ok out s')(h0:0≤s.told)(hM:∀p∈s.sh,WLe M p.1.length p.2) :
 ∃M',M≤M'∧WLe M' sizes.length out∧s'.l.length+1+(M' - M)≤s.l.length∧s'.sh=s.sh:=by
 have hq:=pall_ok h h0;unfold pall at h;obtain⟨n,s1,e1,h⟩:=bind_inv h;have b1:=pnum_ok e1;split at h
 ·next hn =>
  cases hx:s1.sh[(-n.1-1).toNat]? with
  |none=>rw[hx]at h;cases h
  | some x =>
    rw[hx]at h;dsimp only at h;split at h
    ·next he =>
     injection h with h1 h2
     subst h1 h2;have:=hM x (by rw[← b1.2.2.1];exact List.mem_of_getElem? hx);rw[he]at this;exact⟨M,Nat.le_refl _,this,by have:=b1.2.2.2.2.2;omega,b1.2.2.1⟩
    ·cases h
 ·have c1:=plines_words _ h
  have c2:=(plines_ok _ h).1;have c3:=plarge_l (decide (min (s1.told+n.1) far>16384)) n.2 { s1 with told:=min (s1.told+n.1) far };rw[c3.1]at c1;refine⟨M+out.length*(sizes.length+1),Nat.le_add_right _ _,?_,?_,hq.1⟩
  ·unfold WLe;omega
  ·rw[c2]
   have:=b1.2.2.2.2.2;have c4:({ s1 with told:=min (s1.told+n.1) far }:Ps).l=s1.l:=rfl;rw[c4]at c1;omega
theorem pfun_words {all:List Int}{s s':Ps}{f:Raw}{M:Nat}(h:pfun en ee all s = .ok f s')(h0:0≤s.told)(hM:∀p∈s.sh,WLe M p.1.length p.2) :
 ∃M',M≤M'∧WLe M' f.sizes.length f.lines∧s'.l.length+3+(M' - M)≤s.l.length∧∀p∈s'.sh,WLe M' p.1.length p.2:=by
 unfold pfun at h;obtain⟨a,s1,e1,h⟩:=bind_inv h;obtain⟨sc,s2,e2,h⟩:=bind_inv h;obtain⟨o,s3,e3,h⟩:=bind_inv h;obtain⟨ls,s4,e4,h⟩:=bind_inv h;injection h with hf h
 have q1:=pnum_ok e1;have q2:=pscope_ok _ _ e2;have q3:=pnum_ok e3;have ql:=plarge_l (decide ((a.1.natAbs:Int)>6) || great (sc.map fun v=>all.getD v.toNat 0)) a.2 s2;have h30:s3.sh=s.sh:=by rw[q3.2.2.1,ql.2.1,q2.2.1,q1.2.2.1]
 obtain⟨M',m1,m2,m3,m4⟩:=pall_words (M:=M) e4 (by rw[q3.2.2.2.1,ql.2.2,q2.2.2.1,q1.2.2.2.1];exact h0) (by rw[h30];exact hM);have h5:s'.l=s4.l:=by rw[← h];split<;>rfl
 have b1:=q1.2.2.2.2.2;have b2:=q2.2.2.2.2.1;have b3:=q3.2.2.2.2.2;rw[ql.1]at b3;have hmono:∀p∈s.sh,WLe M' p.1.length p.2:=fun p hp=>Nat.le_trans (hM p hp) m1
 refine⟨M',m1,by rw[← hf];exact m2,by rw[h5];omega,fun p hp=>?_⟩;rw[← h]at hp;split at hp
 ·have hp':p∈s4.sh ++ [(sc.map fun v=>all.getD v.toNat 0,ls)]:=hp
  rcases List.mem_append.1 hp' with hp | hp
  ·exact hmono p (by rw[← h30,← m4];exact hp)
  ·rw[List.mem_singleton.1 hp];exact m2
 ·exact hmono p (by rw[← h30,← m4];exact hp)
theorem pfuns_words {all:List Int}:∀ (k:Nat) {s s':Ps} {out:List Raw},pfuns en ee all k [] s = .ok out s'→0≤s.told→s.sh = [] →
 0≤s'.told∧out.length=k∧∃M,(∀x∈out,WLe M x.sizes.length x.lines)∧(∀p∈s'.sh,WLe M p.1.length p.2)∧s'.l.length+3*k+M≤s.l.length:=by
 intro k
 induction k with
 |zero=>intro s s' out h h0 hs;injection h with h1 h2;subst h1 h2;exact⟨h0,rfl,0,(fun x hx=>by cases hx),(fun p hp=>by rw[hs]at hp;cases hp),by omega⟩
 | succ k ih =>
   intro s s' out h h0 hs;rw[pfuns_snoc]at h;obtain⟨o1,s1,e1,h⟩:=bind_inv h;obtain⟨f,s2,e2,h⟩:=bind_inv h;injection h with h1 h2
   subst h1 h2;obtain⟨a1,a2,M,a3,a4,a5⟩:=ih e1 h0 hs;obtain⟨M',m1,m2,m3,m4⟩:=pfun_words e2 a1 a4;have b2:=pfun_ok e2 a1;refine⟨b2.2.1,by simp[a2],M',fun x hx=>?_,m4,by omega⟩;rcases List.mem_append.1 hx with hx | hx
   ·exact Nat.le_trans (a3 x hx) m1
   ·rw[List.mem_singleton.1 hx];exact m2
theorem wtF_le {M:Nat}:∀ (fs:List Raw),(∀x∈fs,WLe M x.sizes.length x.lines)→wtF fs≤fs.length*(37+11*M)
 | [],_=>by simp[wtF]
 | x::fs,h=>by
   have h1:=wtF_le fs fun y hy=>h y (by simp[hy])
   have h2:x.lines.length*(x.sizes.length+1)≤M:=h x (by simp);rw[wtF_cons,List.length_cons,Nat.add_mul];unfold wtR;omega
theorem wt_num:∀n,n<67→n*(37+11*(200-3*n))≤65000:=by decide
theorem wt_short {bs:List UInt8}{l:List Wd}{f:Fil}(hT:scn.Told bs l (-1))(h:pread en 4 l = .file f)(hb:bs.length≤400):wtF f.funs≤65000:=by
 have h1:=told_two hT;obtain⟨s',hb,hbig⟩:=pread_inv h;unfold pbody at hb;obtain⟨w,s1,e1,hb⟩:=bind_inv hb;obtain⟨n,s2,e2,hb⟩:=bind_inv hb;obtain⟨most,s3,e3,hb⟩:=bind_inv hb;obtain⟨count,s4,e4,hb⟩:=bind_inv hb;obtain⟨k,s5,e5,hb⟩:=bind_inv hb;obtain⟨sizes,s6,e6,hb⟩:=bind_inv hb;obtain⟨fs,s7,e7,hb⟩:=bind_inv hb;injection hb with hb _
 subst hb
 have q1:s1.told=0∧s1.sh = []∧s1.l.length≤l.length:=by
  unfold pword at e1
  cases l with
  |nil=>cases e1
  |cons a l=>injection e1 with _ e1;rw[← e1];exact⟨rfl,rfl,by simp⟩
 have q2:=pnum_ok e2;have q3:=pnum_ok e3;have q4:=pnum_ok e4;have q5:=pnum_ok e5;have q6:=psizes_ok _ e6;have l2:=plarge_l (decide (w.1.length>64)) w.2 s1;have l3:=plarge_l (decide (n.1>64)) n.2 s2;have l5:=plarge_l (decide (count.1>256)) count.2 s4;have l6:=plarge_l (decide (k.1>2147483648)) k.2 s5;have ht:s6.told=0:=by rw[q6.2.2.2.1,l6.2.2,q5.2.2.2.1,l5.2.2,q4.2.2.2.1,q3.2.2.2.1,l3.2.2,q2.2.2.2.1,l2.2.2,q1.1]
 have hsh:s6.sh = []:=by rw[q6.2.2.1,l6.2.1,q5.2.2.1,l5.2.1,q4.2.2.1,q3.2.2.1,l3.2.1,q2.2.2.1,l2.2.1,q1.2.1]
 obtain⟨-,a2,M,a3,-,a5⟩:=pfuns_words _ e7 (by rw[ht];exact Int.le_refl _) hsh;have b2:=q2.2.2.2.2.2;have b3:=q3.2.2.2.2.2;have b4:=q4.2.2.2.2.2;have b5:=q5.2.2.2.2.2;have b6:=q6.2.2.2.2;rw[l2.1]at b2;rw[l3.1]at b3;rw[l5.1]at b5;rw[l6.1]at b6;have c1:=wtF_le fs a3;dsimp only;rw[a2]at c1;have c2:=wt_num count.1.toNat (by omega);have c3:=Nat.mul_le_mul_left count.1.toNat (show 37+11*M≤37+11*(200-3*count.1.toNat) by omega);omega
end Go.Proofs.YtjpkkkphhaajgaaGreatDoor.wcp
namespace Go.Proofs.YtjpkkkphhaajgaaGreatDoor.wcp
open Go RowKit ChangeShapes WideShapes ChangeAt Maps words scn
def Read8W (w:World)(e:Ending)(w':World):Prop :=
 Below w.heap.size w w'∧(e = .returned (.tuple #[.pointer none,.pointer none]) ∨
  ∃gf gx B f SA sc FA fc V,e = .returned (.tuple #[.pointer (some ⟨gf,0,none⟩),.pointer (some ⟨gx,0,none⟩)])∧OkFile f∧linesOf f.funs≤16384∧wtF f.funs≤65000∧FilW w' gf f SA sc FA fc V∧w.heap.size≤gf∧w.heap.size≤B∧B≤gx∧QFileV w' B gx f)
set_option maxRecDepth 100000 in
set_option maxHeartbeats 4000000 in
theorem read8_w (A:Option Addr)(n cap:Nat)(xs:List UInt8)(w:World)(hn:n≤9223372036854775807)(hnc:n≤cap)(hr:Reads w w.heap.size 1 A n (bv xs))(ht:Tab w) :
 Calls Tryz.prog 9 #[.slice A n cap] w fun e w'=>Read8W w e w':=by
 obtain⟨k,hk1,k1,k2,hkm⟩:=min_nat n 400;have hkI:min (n:Int) 400=(k:Int):=by omega
 have hk1':(if (400:Int)<(n:Int) then (400:Int) else (n:Int))=(k:Int):=hk1;have kI:(0:Int)≤(k:Int):=Int.natCast_nonneg _;have kc:(k:Int)≤(cap:Int):=by omega
 have hxl:xs.length=n:=by have:=hr.1;rw[bv_len]at this;omega
 obtain⟨bs,hbs⟩:∃bs,xs.take k=bs:=⟨_,rfl⟩;have hbl:bs.length=k:=by rw[← hbs,List.length_take];omega
 have hrk:Reads w w.heap.size 1 A k (bv bs):=by
  have:=hr.take_ (m:=k) (by omega);rw[← hbs];unfold bv at this ⊢;rw[List.map_take];exact this
 have HT:=Hd ht;have hcl:=cloneB_any A k cap bs w (by omega) hrk;have hbl4:bs.length≤400:=by omega
 have HBL:=Hd hbl;obtain⟨l,wb,htl⟩:=told_total bs;have HTL:=Hd htl;clear hr ht hxl hbs hbl hrk hkm hk1 htl
 go_enter Tryz.func9,Tryz.ntmps9
 go_wp2_with fail;refine hcl.mono ?_;rintro e w2 ⟨P,pc,rfl,hop,hb2⟩;have HB2:=Hd hb2;have HOP:=Hd (own_base hop (Nat.zero_le _));have hrd:=read_any P bs.length pc bs wb l w2 rfl (Reads.of_own hop) (by omega) HTL.out (HT.out.below hb2);clear hcl hb2 hop;go_wp2_with fail;refine hrd.mono ?_;rintro e w3 ⟨hb3,hm3⟩;have HB3:=Hd (bto HB2.out hb3);have hqr:=qread_any P pc 0 bs wb l w3 (by omega) (own_under HOP.out hb3) HTL.out;clear hrd
 cases hp:pread (enOf bs wb) (eeOf wb) l with
 | err er x =>
   rw[hp]at hm3;obtain rfl:=hm3;have HP:=Hd hp;clear hp hb3;by_cases h0:er=0
   ·subst h0
    go_wp2_with fail;refine hqr.mono ?_;rintro e w4 ⟨hb4,hm4⟩;rw[HP.out]at hm4;obtain rfl:=hm4;have HB4:=Hd (bto HB3.out hb4);clear hqr hb4;go_wp2_with fail;go_ret2;exact⟨HB4.out,.inl rfl⟩
   ·have h0b:(er != 0)=true:=by simp[h0]
    clear h0;go_wp2_with fail;refine hqr.mono ?_;rintro e w4 ⟨hb4,hm4⟩;rw[HP.out]at hm4;obtain rfl:=hm4;have HB4:=Hd (bto HB3.out hb4);clear hqr hb4;go_wp2_with fail;go_ret2
    exact⟨HB4.out,.inl rfl⟩
 | file f =>
   rw[hp]at hm3;obtain⟨gf,rfl,hfv⟩:=hm3;obtain⟨hgf,SA,sc,FA,fc,V,hfw⟩:=hfv.filw;obtain rfl:=file_wb hp;have HOK:=Hd (okFile_of HTL.out hp (by have:=Told.len HTL.out;omega));have HLI:=Hd (lines_short HTL.out hp hbl4);have HWT:=Hd (wt_short HTL.out hp hbl4);have HP:=Hd hp;have HF3:=Hd hfw;have HGF:Hid (w.heap.size≤gf):=Nat.le_trans HB2.out.size hgf;clear hp hfv hfw hb3;go_wp2_with fail;refine hqr.mono ?_;rintro e w4 ⟨hb4,hm4⟩;rw[HP.out]at hm4;obtain⟨gx,rfl,hgx,hqv⟩:=hm4;have HQV:=Hd hqv;have HGX:=Hd hgx;have HF4:=Hd (HF3.out.below hb4);have HB4:=Hd (bto HB3.out hb4);clear hqr hb4 hqv hgx;go_wp2_with fail;go_ret2;exact⟨HB4.out,.inr ⟨gf,gx,w3.heap.size,f,SA,sc,FA,fc,V,rfl,HOK.out,HLI.out,HWT.out,HF4.out,HGF.out,HB3.out.size,HGX.out,HQV.out⟩⟩
end Go.Proofs.YtjpkkkphhaajgaaGreatDoor.wcp
