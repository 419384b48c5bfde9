/- a part -/
import Derived.Test.YtjpkkkphhaajgaaGreatDoorQdScWords
import Derived.Lib.SlBytesConst
set_option linter.all false
namespace Go.Proofs.YtjpkkkphhaajgaaGreatDoor.scn
open Go RowKit ChangeShapes WideShapes ChangeAt words
theorem bytes_of {xs:List Int}(h:∀x∈xs,(Lit.int .u8 x).wf=true):∃bs:List UInt8,xs.map (Value.int .u8)=bv bs:=by
 refine⟨xs.map fun x=>UInt8.ofNat x.toNat,?_⟩;unfold bv;rw[List.map_map];refine List.map_congr_left fun x hx=>?_
 obtain⟨y,rfl,hy⟩:=wf_u8 (h x hx);have:(UInt8.ofNat y).toNat=y:=by rw[UInt8.toNat_ofNat'];omega
 simp[this]
def Lft (bs:List UInt8)(a:Nat)(r:List Wd)(bad:Int):Prop:=a≤bs.length∧∃z,Chain bs a r z∧((bad = -1∧Next bs z .none)∨∃b:Nat,bad=b∧Next bs z (.bad b))
theorem Told.left {bs:List UInt8}{l:List Wd}{bad:Int}(h:Told bs l bad):Lft bs 0 l bad:=⟨Nat.zero_le _,h⟩
theorem Lft.step {bs:List UInt8}{a s:Nat}{v:List UInt8}{r:List Wd}{bad:Int}(h:Lft bs a ((v,s)::r) bad) :
 ∃j,Next bs a (.word s j)∧v=sub bs s j∧Lft bs j r bad∧s<j∧j≤bs.length∧v.length=j-s:=by
 obtain⟨h0,z,hc,h2⟩:=h
 cases hc with
 | cons h1 hk =>
   rename_i j
   have hw:=h1.word_at;exact⟨j,h1,rfl,⟨hw.2.1.len,z,hk,h2⟩,hw.2.2.2,hw.2.1.len,sub_len hw.2.1.len⟩
theorem Lft.last {bs:List UInt8}{a:Nat}{bad:Int}(h:Lft bs a [] bad):(bad = -1∧Next bs a .none)∨∃b:Nat,bad=b∧Next bs a (.bad b):=by
 obtain⟨h0,z,hc,h2⟩:=h
 cases hc
 exact h2
theorem Chain.len {bs:List UInt8}{a z:Nat}{l:List Wd}(h:Chain bs a l z):a≤bs.length→a+l.length≤z∧z≤bs.length:=by
 induction h with
 |nil a=>exact fun h=>⟨Nat.le_refl _,h⟩
 | cons h1 _ ih =>
   intro h0;have hw:=h1.word_at;have:=ih hw.2.1.len;have:=hw.1.le;have:=hw.2.2.2;simp only[List.length_cons];omega
theorem Told.len {bs:List UInt8}{l:List Wd}{bad:Int}(h:Told bs l bad):l.length≤bs.length:=by
 obtain⟨z,hc,_⟩:=h;have:=hc.len (Nat.zero_le _);omega
theorem Skip.more {bs:List UInt8}{a i s j:Nat}(h:Skip bs a i)(hn:Next bs a (.word s j)):decide (i<bs.length)=true:=by
 have hw:=hn.word_at;rw[h.uniq hw.1];have:=hw.2.1.len;exact decide_eq_true (by omega)
theorem Skip.wrong {bs:List UInt8}{a i b:Nat}(h:Skip bs a i)(hn:Next bs a (.bad b)):decide (i<bs.length)=true:=by
 obtain⟨j,h1,h2,h3⟩:=hn.bad_at;rw[h.uniq h1];have:=h3.1;have:=h2.le;exact decide_eq_true (by omega)
theorem Skip.over {bs:List UInt8}{a i:Nat}(h:Skip bs a i)(hn:Next bs a .none):decide (i<bs.length)=false:=by
 rw[h.uniq hn.none_at];simp
section
variable {w w' w0:World} {g:Nat} {bs:List UInt8} {a:Nat} {bad:Int} {l:List Wd} {A:Option Addr} {c:Nat}
theorem Row.at_ (h:Row w0 l A c w){i s:Nat}{v:List UInt8}(hi:l[i]?=some (v,s)):∃q,A=some ⟨q,0,none⟩∧w.cell? ⟨q,i*2,none⟩=some (strV v)∧w.cell? ⟨q,i*2+1,none⟩=some (.int .i64 s):=by
 have hlt:i<l.length:=(List.getElem?_eq_some_iff.1 hi).1;unfold Row at h;obtain⟨q,rfl,_,_⟩:=own_some h (by omega);have g0:=flat_get wv 2 (fun _=>rfl) l i 0 _ hi (by omega);have g1:=flat_get wv 2 (fun _=>rfl) l i 1 _ hi (by omega);exact⟨q,rfl,(h.cellAt (i*2) (by omega)).trans g0,(h.cellAt (i*2+1) (by omega)).trans g1⟩
theorem Row.below (h:Row w0 l A c w)(hb:Below w.heap.size w w'):Row w0 l A c w':=own_under h hb
theorem Row.scn (h:Row w0 l A c w){bs:List UInt8}{a:Nat}{bad:Int}(hs:Scn w g bs a bad)(ht:Tch w w' fun k=>k=g):Row w0 l A c w':=by
 obtain⟨_,_,hb,_⟩:=hs;exact ht.own h fun q hq e=>own_blk_ne h hb (by decide) (by rw[hq,e])
theorem scn_bel {B:Nat}(hb:Below B w w'){w'':World}(hg:B≤g)(hB:B≤w.heap.size)(ht:Tch w' w'' fun k=>k=g):Below B w w'':=hb.trans (ht.below (Nat.le_trans hB hb.size) fun i hi e=>by omega)
end
theorem words_nil (c:Nat)(w:World):Calls Tryz.prog 86 #[.slice none 0 c] w fun e w'=>WordsOf [] w e w':=by
 go_enter Tryz.func86,Tryz.ntmps86
 go_wp2_with fail
 go_loopw [4,5,10] (fun lv ov jv wr=>jv = .int .i64 0∧lv = .slice none 0 0∧w=wr) (fun _ _ jv _=>0)
 case atStart=>exact⟨rfl,rfl,rfl⟩
 case round =>
  obtain⟨rfl,rfl,rfl⟩:=hrel;go_wp2_with fail;go_ret2;exact⟨[],-1,none,0,rfl,(far_zero []).ends,World.ownsRow_nil _ _ _ _,Below.refl _ _⟩
theorem words_all (A:Option Addr)(n cap B:Nat)(bs:List UInt8)(w:World)(hl:bs.length=n)(hn:n≤1000)(ho:w.ownsRow B 5 1 (.slice A n cap) n (bv bs)) :
 Calls Tryz.prog 86 #[.slice A n cap] w fun e w'=>WordsOf bs w e w':=by
 rcases ho.2 with⟨h0,h1⟩ | ⟨q,cap',cur,hv,_⟩
 ·subst h1
  obtain rfl:bs = []:=List.eq_nil_of_length_eq_zero hl;injection h0 with h2 h3 h4
  subst h2;subst h4;exact words_nil _ w
 ·injection hv with h2 h3 h4
  subst h2;exact words_any q n cap B bs w hl hn ho
end Go.Proofs.YtjpkkkphhaajgaaGreatDoor.scn
namespace Go.Proofs.YtjpkkkphhaajgaaGreatDoor.scn
open Go RowKit ChangeShapes WideShapes ChangeAt words
def CountOf (n:Nat)(m:Nat)(bad:Int)(w:World)(e:Ending)(w':World):Prop :=
 ∃en er:Int,e = .returned (.tuple #[.int .i64 m,.int .i64 en,.int .i64 er])∧((bad = -1∧en=n∧er=0)∨(0≤bad∧en=bad∧er=11))∧Below w.heap.size w w'
theorem count_any (A:Option Addr)(n cap:Nat)(bs:List UInt8)(l:List Wd)(bad:Int)(w:World)(hn:n≤1000000)(hl:bs.length=n)(hr:Reads w w.heap.size 1 A n (bv bs))(hT:Told bs l bad) :
 Calls Tryz.prog 140 #[.slice A n cap] w fun e w'=>CountOf n l.length bad w e w':=by
 have hnw:=new_any A n cap bs w hn hr;have hm63:l.length≤1000000:=by have:=hT.len;omega
 obtain⟨m,hm⟩:∃m,l.length=m:=⟨_,rfl⟩;have HM:=Hd hm;have HL:=Hd hl;have HT:=Hd hT;rw[hm]at hm63 ⊢;clear hr hl hm hT
 go_enter Tryz.func140,Tryz.ntmps140
 go_wp2_with fail
 go_step3
 go_wp2_with fail;refine hnw.mono ?_;rintro e w1 ⟨g,rfl,hs1,hg,hb1⟩;clear hnw;go_wp2_with fail
 go_step3
 go_wp2_with fail
 go_loopw [6] (fun kv wr => ∃ (k a:Nat) (r:List Wd),kv = .int .i64 k∧k+r.length=m∧Lft bs a r bad∧Scn wr g bs a (-1)∧Below w.heap.size w wr) (fun kv _=>m-(intOf kv).toNat)
 case atStart=>exact⟨0,0,l,rfl,by rw[HM.out];omega,HT.out.left,hs1,hb1⟩
 case round =>
  obtain⟨k,a,r,rfl,hk,hleft,hs,hB⟩:=hrel;have hwd:=word_any hs hleft.1 (by rw[HL.out];exact hn);have HLF:=Hd hleft;have HK:=Hd hk;have hkm:k≤m:=by omega
  have hBs:=hB.size;clear hs hleft hk;go_wp2_with fail;refine hwd.mono ?_;rintro e w2 (⟨i,k1,rfl,hs2,ht⟩ | ⟨k1,rfl,hs2,ht⟩ | ⟨i,j,k1,rfl,hs2,ht⟩)
  ·have hB2:=Hd (scn_bel hB hg (Nat.le_refl _) ht)
   have hbad:Hid (r = []∧bad=(i:Int)):=by
    cases r with
    | nil =>
      rcases HLF.out.last with⟨_,h2⟩ | ⟨b,rfl,h2⟩
      ·cases k1.uniq h2
      ·cases k1.uniq h2;exact⟨rfl,rfl⟩
    | cons x r =>
      obtain⟨v,s⟩:=x;obtain⟨j,h2,_⟩:=HLF.out.step
      cases k1.uniq h2
   clear hwd k1 ht hs2;go_wp2_with fail
   try rw[Exit.noGoto_ret]
   go_ret3
   refine⟨i,11,?_,.inr ⟨by rw[hbad.out.2];omega,hbad.out.2.symm,rfl⟩,hB2.out⟩;have:=HK.out;rw[hbad.out.1]at this;simp at this;rw[this]
   try rfl
  ·have hB2:=Hd (scn_bel hB hg (Nat.le_refl _) ht)
   have hbad:Hid (r = []∧bad = -1):=by
    cases r with
    | nil =>
      rcases HLF.out.last with⟨h1,h2⟩ | ⟨b,rfl,h2⟩
      ·exact⟨rfl,h1⟩
      ·cases k1.uniq h2
    | cons x r =>
      obtain⟨v,s⟩:=x;obtain⟨j,h2,_⟩:=HLF.out.step
      cases k1.uniq h2
   clear hwd k1 ht hs2;rw[HL.out];go_wp2_with fail
   try rw[Exit.noGoto_ret]
   go_ret3
   refine⟨n,0,?_,.inl ⟨hbad.out.2,rfl,rfl⟩,hB2.out⟩;have:=HK.out;rw[hbad.out.1]at this;simp at this;rw[this]
   try rfl
  ·have hB2:=Hd (scn_bel hB hg (Nat.le_refl _) ht)
   obtain⟨v,s,r',rfl⟩:∃v s r',r=(v,s)::r':=by
    cases r with
    | nil =>
      rcases HLF.out.last with⟨_,h2⟩ | ⟨b,_,h2⟩
      ·cases k1.uniq h2
      ·cases k1.uniq h2
    |cons x r=>exact⟨x.1,x.2,r,rfl⟩
   obtain⟨j2,h2,_,hl2,_⟩:=HLF.out.step
   cases k1.uniq h2
   have HL2:=Hd hl2;have hlt:k<m:=by have:=HK.out;simp at this;omega
   have kI:(k:Int)+1≤(m:Int):=by omega
   have HS:=Hd hs2;clear hwd k1 ht h2 hl2 hs2;go_wp2_with fail;go_roundw
   case rel=>exact⟨k+1,j,r',by go_num,by have:=HK.out;simp at this;omega,HL2.out,HS.out,hB2.out⟩
   case measure=>simp[intOf];omega
def Scf (B:Nat)(w:World)(g:Nat)(bs:List UInt8)(a:Nat)(bad:Int):Prop :=
 ∃A c,Blk w g 228 #[.slice A bs.length c,.int .i64 a,.int .i64 bad]∧w.ownsRow B 5 1 (.slice A bs.length c) bs.length (bv bs)
theorem Scf.scn {B:Nat}{w:World}{g:Nat}{bs:List UInt8}{a:Nat}{bad:Int}(h:Scf B w g bs a bad):Scn w g bs a bad:=by
 obtain⟨A,c,h1,h2⟩:=h;exact⟨A,c,h1,own_base h2 (Nat.zero_le _)⟩
theorem Scf.tch {B:Nat}{w w':World}{g:Nat}{bs:List UInt8}{a:Nat}{bad:Int}{S:Nat→Prop}(h:Scf B w g bs a bad)(ht:Tch w w' S)(hg:¬ S g)(hs:∀k,S k→k<B):Scf B w' g bs a bad:=by
 obtain⟨A,c,h1,h2⟩:=h;exact⟨A,c,ht.blk h1 hg,ht.own h2 fun k hk hS=>by have:=(own_in h2 hk).1;have:=hs k hS;omega⟩
end Go.Proofs.YtjpkkkphhaajgaaGreatDoor.scn
namespace Go.Proofs.YtjpkkkphhaajgaaGreatDoor.scn
open Go RowKit words
def Bld (bs:List UInt8)(l:List Wd):Prop := ∀ext,Far (bs++ext) bs.length l false
theorem bld_nil:Bld [] []:=fun ext=>far_zero _
theorem Bld.told {bs:List UInt8}{l:List Wd}(h:Bld bs l):Told bs l (-1):=by
 have:=h [];rw[List.append_nil]at this;exact this.ends
theorem getD_mid (a b c:List UInt8){k:Nat}(hk:k<b.length):(a++(b++c)).getD (a.length+k) 0=b.getD k 0:=by
 rw[List.getD_eq_getElem?_getD,List.getD_eq_getElem?_getD,List.getElem?_append_right (by omega),Nat.add_sub_cancel_left,List.getElem?_append_left hk]
theorem Bld.blank {bs:List UInt8}{l:List Wd}(h:Bld bs l){b:UInt8}(hb:isB b.toNat=true):Bld (bs ++ [b]) l:=by
 intro ext;have h1:=h ([b]++ext)
 have:=h1.between (by simp) (by
  unfold at_;have:=getD_mid bs [b] ext (k:=0) (by simp);rw[Nat.add_zero]at this
  rw[this];exact hb)
 rw[List.append_assoc,List.length_append];exact this
theorem Bld.word {bs:List UInt8}{l:List Wd}(h:Bld bs l){v:List UInt8}(hv:v ≠ [])(hall:v.all (fun b=>isIn b.toNat)=true){b:UInt8}(hb:isB b.toNat=true):Bld (bs++v ++ [b]) (l ++ [(v,bs.length)]):=by
 intro ext
 obtain⟨c,cs,rfl⟩:∃c cs,v=c::cs:=by cases v with
  |nil=>exact absurd rfl hv
  |cons c cs=>exact⟨c,cs,rfl⟩
 have hat:∀k,k<(c::cs).length→isIn (at_ (bs++((c::cs)++([b]++ext))) (bs.length+k))=true:=fun k hk=>by
  unfold at_;rw[getD_mid _ _ _ hk];rw[List.all_eq_true]at hall;refine hall _ ?_;rw[List.getD_eq_getElem?_getD,List.getElem?_eq_getElem hk];exact List.getElem_mem hk
 have h0:=h ((c::cs)++([b]++ext))
 have key:∀k,k<(c::cs).length→Far (bs++((c::cs)++([b]++ext))) (bs.length+k+1) (l ++ [((c::cs).take (k+1),bs.length)]) true:=by
  intro k
  induction k with
  | zero =>
    intro hk;have h1:=h0.begins (by simp) (hat 0 hk)
    rw[show (bs++((c::cs)++([b]++ext))).getD bs.length 0=c by
     have:=getD_mid bs (c::cs) ([b]++ext) (k:=0) hk;rw[Nat.add_zero]at this
     rw[this];rfl]at h1
    exact h1
  | succ k ih =>
    intro hk;obtain⟨l0,w,s,he,_,h2⟩:=(ih (by omega)).goes (by simp at hk ⊢;omega) (hat (k+1) hk);obtain⟨rfl,h3⟩:=List.append_inj' he rfl;injection h3 with h3
    injection h3 with h4 h5
    subst h4;subst h5;have h6:=getD_mid bs (c::cs) ([b]++ext) (k:=k+1) hk;rw[show bs.length+k+1=bs.length+(k+1) by omega,h6]at h2
    have h7:(c::cs).take (k+1) ++ [(c::cs).getD (k+1) 0]=(c::cs).take (k+1+1):=by
     rw[List.take_add_one (i:=k+1),List.getD_eq_getElem?_getD,List.getElem?_eq_getElem hk];rfl
    rw[h7]at h2;exact h2
 have h1:=key cs.length (by simp);rw[show (c::cs).take (cs.length+1)=c::cs from List.take_of_length_le (by simp)]at h1
 have h2:=h1.between (by simp;omega) (by
  unfold at_;have e:bs.length+cs.length+1=(bs++(c::cs)).length+0:=by simp;omega
  rw[← List.append_assoc bs,e,getD_mid _ [b] ext (by simp)]
  exact hb)
 have e1:bs++(c::cs) ++ [b]++ext=bs++((c::cs)++([b]++ext)):=by simp
 have e2:(bs++(c::cs) ++ [b]).length=bs.length+cs.length+1+1:=by simp;omega
 rw[e1,e2];exact h2
theorem own_keep {w w':World}{base base':Nat}{e e':TypeId}{s s' n n':Nat}{v v':Value}{xs ys:List Value}(ho:w.ownsRow base e s v n xs)(ho':w.ownsRow base' e' s' v' n' ys)(he:e≠e')(hg:w.grownBy w' v'.ownBlock):w'.ownsRow base e s v n xs:=by
 refine ho.kept hg ?_;rcases ho.2 with⟨rfl,_⟩ | ⟨g,cap,cur,rfl,_,hh,_⟩
 ·exact .inl rfl
 ·rcases ho'.2 with⟨rfl,_⟩ | ⟨g',cap',cur',rfl,_,hh',_⟩
  ·exact .inr (by simp[Value.ownBlock])
  ·refine .inr fun hc=>?_
   simp only[Value.ownBlock,Option.some.injEq]at hc;subst hc;rw[hh]at hh';injection hh' with h1
   injection h1 with _ h2 _
   exact he h2
end Go.Proofs.YtjpkkkphhaajgaaGreatDoor.scn
namespace Go.Proofs.YtjpkkkphhaajgaaGreatDoor.scn
open Go RowKit ChangeShapes WideShapes ChangeAt words
def lenSum (l:List Wd):Nat:=l.foldr (fun w n=>w.1.length+n) 0
theorem lenSum_cons (w:Wd)(l:List Wd):lenSum (w::l)=w.1.length+lenSum l:=rfl
theorem sub_in {bs:List UInt8}{i j:Nat}(h:Ins bs i j):(sub bs i j).all (fun b=>isIn b.toNat)=true:=by
 rw[List.all_eq_true];intro b hb;obtain⟨q,hq⟩:=List.mem_iff_getElem?.1 hb;have hl:=(List.getElem?_eq_some_iff.1 hq).1;have hj:=h.len;have hs:=sub_len (bs:=bs) (i:=i) hj;have h1:=h.all (i+q) (by omega) (by omega);unfold sub at hq;rw[List.getElem?_drop,List.getElem?_take_of_lt (by omega)]at hq;unfold at_ at h1;rw[List.getD_eq_getElem?_getD,hq]at h1;exact h1
theorem chain_words {bs:List UInt8}{a z:Nat}{l:List Wd}(h:Chain bs a l z):a≤bs.length→(∀w∈l,w.1 ≠ []∧w.1.all (fun b=>isIn b.toNat)=true)∧a+lenSum l≤z∧z≤bs.length∧l.length≤lenSum l:=by
 induction h with
 |nil a=>intro ha;exact⟨fun w hw=>(by cases hw),Nat.le_refl _,ha,Nat.le_refl _⟩
 | cons h1 k ih =>
   rename_i a i j z l
   intro ha;obtain⟨g1,g2,g3,g4⟩:=h1.word_at;have gl:=g2.len;have gi:=g1.le;obtain⟨i1,i2,i3,i4⟩:=ih gl;have hs:=sub_len (bs:=bs) (i:=i) gl;refine⟨fun w hw=>?_,?_,i3,?_⟩
   ·rcases List.mem_cons.1 hw with rfl | hw
    ·refine⟨fun e=>?_,sub_in g2⟩
     dsimp only at e;rw[e]at hs;simp at hs;omega
    ·exact i1 w hw
   ·rw[lenSum_cons];dsimp only;omega
   ·rw[lenSum_cons,List.length_cons];dsimp only;omega
theorem told_words {bs:List UInt8}{l:List Wd}{bad:Int}(h:Told bs l bad):(∀w∈l,w.1 ≠ []∧w.1.all (fun b=>isIn b.toNat)=true)∧lenSum l≤bs.length∧l.length≤lenSum l:=by
 obtain⟨z,hc,_⟩:=h;obtain⟨h1,h2,h3,h4⟩:=chain_words hc (Nat.zero_le _);exact⟨h1,by omega,h4⟩
end Go.Proofs.YtjpkkkphhaajgaaGreatDoor.scn
