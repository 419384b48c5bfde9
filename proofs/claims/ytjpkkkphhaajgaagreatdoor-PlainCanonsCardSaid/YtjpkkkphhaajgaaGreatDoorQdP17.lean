/- a part -/
import Derived.Test.YtjpkkkphhaajgaaGreatDoorQdP45
set_option linter.all false
namespace Go.Proofs.YtjpkkkphhaajgaaGreatDoor.wcp
open Go RowKit ChangeShapes WideShapes ChangeAt Maps words scn
theorem told_words {bs:List UInt8}{l:List Wd}{bad:Int}(h:scn.Told bs l bad):∀x∈l,x.1.length≤bs.length:=by
 obtain⟨z,hc,hz⟩:=h;clear hz;generalize 0=a at hc
 induction hc with
 |nil a=>exact fun x hx=>by cases hx
 | cons h1 hk ih =>
   intro x hx;rcases List.mem_cons.1 hx with rfl | hx
   ·have:=h1.word_at.2.1.len
    dsimp only;rw[sub_len h1.word_at.2.1.len];omega
   ·exact ih x hx
variable {w wq w':World} {gf gr:Nat} {en ee:Int} {sv:Value} {α β:Type} {r:Res α} {r':Res β}
theorem QSh.keep {w w':World}{S:Nat→Prop}{sv:Value}{sh:List (List Int × List (List Int × Int))}(h:QSh w sv sh)(ht:Tch w w' S)(h1:Off w 0 S 2)(h2:Off w 0 S 137)(h3:∀q,sv.ownBlock=some q→¬ S q):QSh w' sv sh:=by
 obtain⟨fs,hL,L,hM,hs,ho,hp⟩:=h;exact⟨fs,hL,L,hM,hs,ht.own ho h3,fun p hm=>(hp p hm).tch ht h1 h2⟩
theorem QSh.empty (w:World):QSh w (.slice none 0 0) []:=⟨[],rfl,[],rfl,⟨none,0,rfl⟩,World.ownsRow_nil _ _ _ _,fun p hp=>by cases hp⟩
theorem QSh.own {w:World}{sv:Value}{sh:List (List Int × List (List Int × Int))}(h:QSh w sv sh):∃n xs,w.ownsRow 0 70 4 sv n xs:=by
 obtain⟨fs,hL,L,hM,hs,ho,hp⟩:=h;exact⟨_,_,ho⟩
structure QF (w wq:World) (gf gr:Nat) (en ee:Int) (sv:Value) (name:List UInt8) (kk:Int) (vz:Value) (zs:List Int) (vf:Value) (V:List QT) (r:Res α):Prop where
 fb:Blk wq gf 49 #[strV name,.int .i64 kk,vz,vf]
 sz:Row64 wq w.heap.size vz zs
 fs:∃A c,vf = .slice A V.length c
 fo:wq.ownsRow w.heap.size 70 4 vf V.length (qcells V)
 fv:∀p∈V,QFn wq p.1.1 p.1.2.1 p.1.2.2.1 p.1.2.2.2 p.2
 bw:Below w.heap.size w wq
 qs:QS wq gr en ee sv r
 hf:w.heap.size≤gf
 hg:w.heap.size≤gr
 sb:∀q,sv.ownBlock=some q→w.heap.size≤q
 ne:∀q,vf.ownBlock=some q→sv.ownBlock=some q→False
variable {name:List UInt8} {kk:Int} {vz vf:Value} {zs:List Int} {V:List QT}
theorem QF.re (h:QF w wq gf gr en ee sv name kk vz zs vf V r)(hq:QS wq gr en ee sv r'):QF w wq gf gr en ee sv name kk vz zs vf V r':=⟨h.fb,h.sz,h.fs,h.fo,h.fv,h.bw,hq,h.hf,h.hg,h.sb,h.ne⟩
theorem QF.nef (h:QF w wq gf gr en ee sv name kk vz zs vf V r):gf≠gr:=by
 obtain⟨_,_,_,_,_,_,hr,_⟩:=h.qs.blk;exact Blk.ne_ h.fb hr (by decide)
theorem QF.tch (h:QF w wq gf gr en ee sv name kk vz zs vf V r)(ht:Tch wq w' (fun k=>k=gr))(hq:QS w' gr en ee sv r'):QF w w' gf gr en ee sv name kk vz zs vf V r' :=
 ⟨ht.blk h.fb h.nef,h.sz.tch ht (h.qs.off (by decide)),h.fs,own_off h.fo ht (h.qs.off (by decide)),fun p hp=>(h.fv p hp).tch ht (h.qs.off (by decide)) (h.qs.off (by decide)),h.bw.trans (ht.below h.bw.size fun i hi=>by have:=h.hg;omega),hq,h.hf,h.hg,h.sb,h.ne⟩
theorem QF.drew {n:Nat}(h:QF w wq gf gr en ee sv name kk vz zs vf V r):QF w (wq.drewN n) gf gr en ee sv name kk vz zs vf V r :=
 h.tch ((Tch.of_below (below_drewN (Below.refl _ _) n) _)) (h.qs.below (below_drewN (Below.refl _ _) n))
theorem QF.fun_ {sv':Value}(h:QF w wq gf gr en ee sv name kk vz zs vf V r){n:Nat}{xs:List Value}(hso:wq.ownsRow 0 70 4 sv n xs)(ht:Tch wq w' (fun k=>k=gr∨some k=sv.ownBlock))(hsv:∀k,sv'.ownBlock=some k→sv.ownBlock=some k∨wq.heap.size≤k)(hq:QS w' gr en ee sv' r') :
 QF w w' gf gr en ee sv' name kk vz zs vf V r':=by
 obtain⟨_,_,_,_,_,_,hr,_⟩:=h.qs.blk
 have hty:∀ (B:Nat) (ty:TypeId),173≠ty→70≠ty→Off wq B (fun k=>k=gr∨some k=sv.ownBlock) ty:=fun B ty h1 h2 k hk => .inr fun cs hb=>by
  rcases hk with hk | hk
  ·exact Blk.ne_ hr hb h1 hk.symm
  ·exact own_blk_ne hso hb h2 hk.symm
 refine⟨ht.blk h.fb ?_,h.sz.tch ht (hty _ _ (by decide) (by decide)),h.fs,ht.own h.fo fun g hg hk=>?_,fun p hp=>(h.fv p hp).tch ht (hty _ _ (by decide) (by decide)) (hty _ _ (by decide) (by decide)),h.bw.trans (ht.below h.bw.size fun i hi hk=>?_),hq,h.hf,h.hg,fun q hq=>?_,fun q h1 h2=>?_⟩
 ·rintro (hk | hk)
  ·exact h.nef hk
  ·exact own_blk_ne hso h.fb (by decide) hk.symm
 ·rcases hk with hk | hk
  ·exact own_blk_ne h.fo hr (by decide) (by rw[hg,hk])
  ·exact h.ne g hg hk.symm
 ·rcases hk with hk | hk
  ·have:=h.hg;omega
  ·have:=h.sb i hk.symm;omega
 ·rcases hsv q hq with h1 | h1
  ·exact h.sb q h1
  ·have:=h.bw.size;omega
 ·rcases hsv q h2 with h3 | h3
  ·exact h.ne q h1 h3
  ·have:=(own_in h.fo h1).2;omega
theorem QF.up {S:Nat→Prop}(h:QF w wq gf gr en ee sv name kk vz zs vf V r)(ht:Tch wq w' S)(hS:∀k,S k→w.heap.size≤k∧k≠gr∧∀cs,¬ Blk wq k 175 cs):Below w.heap.size w w'∧QS w' gr en ee sv r :=
 ⟨h.bw.trans (ht.below h.bw.size fun i hi hk=>by have:=(hS i hk).1;omega),h.qs.tch ht (fun hk=>(hS _ hk).2.1 rfl) fun k hk=>(hS k hk).2.2⟩
theorem QF.name_ (h:QF w wq gf gr en ee sv name kk vz zs vf V r)(u:List UInt8):QF w (wq.setCell ⟨gf,0,none⟩ (strV u)) gf gr en ee sv u kk vz zs vf V r:=by
 have T:Tch wq (wq.setCell ⟨gf,0,none⟩ (strV u)) (fun k=>k=gf):=Tch.put (S:=fun k=>k=gf) (Tch.refl wq _) (p:=⟨gf,0,none⟩) _ rfl;have hty:∀ (B:Nat) (ty:TypeId),49≠ty→Off wq B (fun k=>k=gf) ty:=fun B ty h1 k hk => .inr fun cs hb=>Blk.ne_ h.fb hb h1 hk.symm
 obtain⟨hB,hQ⟩:=h.up T fun k hk=>⟨by have:=h.hf;omega,by rw[hk];exact h.nef,fun cs hb=>Blk.ne_ h.fb hb (by decide) hk.symm⟩
 exact⟨h.fb.set_ 0 _,h.sz.tch T (hty _ _ (by decide)),h.fs,own_off h.fo T (hty _ _ (by decide)),fun p hp=>(h.fv p hp).tch T (hty _ _ (by decide)) (hty _ _ (by decide)),hB,hQ,h.hf,h.hg,h.sb,h.ne⟩
theorem QF.bound (h:QF w wq gf gr en ee sv name kk vz zs vf V r)(u:Int):QF w (wq.setCell ⟨gf,1,none⟩ (.int .i64 u)) gf gr en ee sv name u vz zs vf V r:=by
 have T:Tch wq (wq.setCell ⟨gf,1,none⟩ (.int .i64 u)) (fun k=>k=gf):=Tch.put (S:=fun k=>k=gf) (Tch.refl wq _) (p:=⟨gf,1,none⟩) _ rfl;have hty:∀ (B:Nat) (ty:TypeId),49≠ty→Off wq B (fun k=>k=gf) ty:=fun B ty h1 k hk => .inr fun cs hb=>Blk.ne_ h.fb hb h1 hk.symm
 obtain⟨hB,hQ⟩:=h.up T fun k hk=>⟨by have:=h.hf;omega,by rw[hk];exact h.nef,fun cs hb=>Blk.ne_ h.fb hb (by decide) hk.symm⟩
 exact⟨h.fb.set_ 1 _,h.sz.tch T (hty _ _ (by decide)),h.fs,own_off h.fo T (hty _ _ (by decide)),fun p hp=>(h.fv p hp).tch T (hty _ _ (by decide)) (hty _ _ (by decide)),hB,hQ,h.hf,h.hg,h.sb,h.ne⟩
theorem QF.mid {wb w6:World}{row:Option Nat}(h:QF w wq gf gr en ee sv name kk vz zs vf V r)(hb:Below wq.heap.size wq wb)(hg:wb.grownBy w6 row)(hr:row≠some gf):Blk w6 gf 49 #[strV name,.int .i64 kk,vz,vf] :=
 (h.fb.under hb).grown hg fun e=>hr e.symm
theorem QF.size_ {wb w6:World}{A6:Option Addr}{c6:Nat}{v:Int}(h:QF w wq gf gr en ee sv name kk vz zs (.slice none 0 0) [] r)(hb:Below wq.heap.size wq wb)
 (hown:w6.ownsRow w.heap.size 2 1 (.slice A6 (zs.length+1) c6) (zs.length+1) (nums zs++nums [v])) (hg:wb.grownBy w6 vz.ownBlock) :
 QF w (w6.setCell ⟨gf,2,none⟩ (.slice A6 (zs.length+1) c6)) gf gr en ee sv name kk (.slice A6 (zs.length+1) c6) (zs ++ [v]) (.slice none 0 0) [] r:=by
 have hng:vz.ownBlock≠some gf:=own_blk_ne h.sz.2 h.fb (by decide);have hm:=h.mid hb hg hng;have T1:Tch wq w6 (fun k=>some k=vz.ownBlock):=((Tch.of_below hb (fun k=>some k=vz.ownBlock)).trans (Tch.of_grown hg (S:=fun k=>some k=vz.ownBlock) fun q _ hq=>hq) fun _ _ h=>h);have T2:Tch w6 (w6.setCell ⟨gf,2,none⟩ (.slice A6 (zs.length+1) c6)) (fun k=>k=gf):=Tch.put (S:=fun k=>k=gf) (Tch.refl w6 _) (p:=⟨gf,2,none⟩) _ rfl;have T:Tch wq (w6.setCell ⟨gf,2,none⟩ (.slice A6 (zs.length+1) c6)) (fun k=>some k=vz.ownBlock∨k=gf):=(T1.mono (S':=fun k=>some k=vz.ownBlock∨k=gf) fun k _ h=>Or.inl h).trans T2 fun k _ h=>Or.inr h
 obtain⟨_,_,_,_,_,_,hr,_⟩:=h.qs.blk
 obtain⟨hB,hQ⟩:=h.up T fun k hk=>by
  rcases hk with hk | hk
  ·exact⟨(own_in h.sz.2 hk.symm).1,fun e=>own_blk_ne h.sz.2 hr (by decide) (by rw[← hk,e]),fun cs hb=>own_blk_ne h.sz.2 hb (by decide) hk.symm⟩
  ·exact⟨by have:=h.hf;omega,by rw[hk];exact h.nef,fun cs hb=>Blk.ne_ h.fb hb (by decide) hk.symm⟩
 have hl:(zs ++ [v]).length=zs.length+1:=by simp
 refine⟨hm.set_ 2 _,⟨⟨A6,c6,by rw[hl]⟩,?_⟩,⟨none,0,rfl⟩,World.ownsRow_nil _ _ _ _,(fun p hp=>by cases hp),hB,hQ,h.hf,h.hg,h.sb,h.ne⟩;rw[hl,show nums (zs ++ [v])=nums zs++nums [v] by simp[nums]];exact own_off hown T2 fun k hk => .inr fun cs hb=>by subst hk;exact Blk.ne_ hm hb (by decide) rfl
theorem QF.add {wb w6:World}{A6:Option Addr}{c6:Nat}{v1 v2 v4:Value}{o:Int}{f:Raw}(h:QF w wq gf gr en ee sv name kk vz zs vf V r)(hfn:QFn wq v1 v2 o v4 f)(hb:Below wq.heap.size wq wb)
 (hown:w6.ownsRow w.heap.size 70 4 (.slice A6 (V.length+1) c6) (V.length+1) (qcells V ++ [v1,v2,.int .i64 o,v4])) (hg:wb.grownBy w6 vf.ownBlock) (hat:(Value.slice A6 (V.length+1) c6).ownBlock=vf.ownBlock∨(Value.slice A6 (V.length+1) c6).ownBlock=some wb.heap.size)
 (hsz:∀q,sv.ownBlock=some q→q<wq.heap.size) :
 QF w (w6.setCell ⟨gf,3,none⟩ (.slice A6 (V.length+1) c6)) gf gr en ee sv name kk vz zs (.slice A6 (V.length+1) c6) (V ++ [((v1,v2,o,v4),f)]) r ∧
  (∀sh,QSh wq sv sh→QSh (w6.setCell ⟨gf,3,none⟩ (.slice A6 (V.length+1) c6)) sv sh):=by
 have hng:vf.ownBlock≠some gf:=own_blk_ne h.fo h.fb (by decide);have hm:=h.mid hb hg hng;have T1:Tch wq w6 (fun k=>some k=vf.ownBlock):=((Tch.of_below hb (fun k=>some k=vf.ownBlock)).trans (Tch.of_grown hg (S:=fun k=>some k=vf.ownBlock) fun q _ hq=>hq) fun _ _ h=>h);have T2:Tch w6 (w6.setCell ⟨gf,3,none⟩ (.slice A6 (V.length+1) c6)) (fun k=>k=gf):=Tch.put (S:=fun k=>k=gf) (Tch.refl w6 _) (p:=⟨gf,3,none⟩) _ rfl;have T:Tch wq (w6.setCell ⟨gf,3,none⟩ (.slice A6 (V.length+1) c6)) (fun k=>some k=vf.ownBlock∨k=gf):=(T1.mono (S':=fun k=>some k=vf.ownBlock∨k=gf) fun k _ h=>Or.inl h).trans T2 fun k _ h=>Or.inr h
 obtain⟨_,_,_,_,_,_,hr,_⟩:=h.qs.blk
 obtain⟨hB,hQ⟩:=h.up T fun k hk=>by
  rcases hk with hk | hk
  ·exact⟨(own_in h.fo hk.symm).1,fun e=>own_blk_ne h.fo hr (by decide) (by rw[← hk,e]),fun cs hb=>own_blk_ne h.fo hb (by decide) hk.symm⟩
  ·exact⟨by have:=h.hf;omega,by rw[hk];exact h.nef,fun cs hb=>Blk.ne_ h.fb hb (by decide) hk.symm⟩
 have hty:∀ (B:Nat) (ty:TypeId),70≠ty→49≠ty→Off wq B (fun k=>some k=vf.ownBlock∨k=gf) ty:=fun B ty h1 h2 k hk => .inr fun cs hb=>by
  rcases hk with hk | hk
  ·exact own_blk_ne h.fo hb h1 hk.symm
  ·exact Blk.ne_ h.fb hb h2 hk.symm
 have hl:(V ++ [(((v1,v2,o,v4),f):QT)]).length=V.length+1:=by simp
 refine⟨⟨hm.set_ 3 _,h.sz.tch T (hty _ _ (by decide) (by decide)),⟨A6,c6,by rw[hl]⟩,?_,fun p hp=>?_,hB,hQ,h.hf,h.hg,h.sb,fun q h1 h2=>?_⟩,fun sh hs=>hs.keep T (hty _ _ (by decide) (by decide)) (hty _ _ (by decide) (by decide)) fun q hq hk=>?_⟩
 ·rw[hl,qc_snoc]
  exact own_off hown T2 fun k hk => .inr fun cs hb=>by subst hk;exact Blk.ne_ hm hb (by decide) rfl
 ·rcases List.mem_append.1 hp with hp | hp
  ·exact (h.fv p hp).tch T (hty _ _ (by decide) (by decide)) (hty _ _ (by decide) (by decide))
  ·rw[List.mem_singleton.1 hp];exact hfn.tch T (hty _ _ (by decide) (by decide)) (hty _ _ (by decide) (by decide))
 ·rcases hat with e | e
  ·rw[e]at h1;exact h.ne q h1 h2
  ·rw[e]at h1
   injection h1 with h1
   have:=hsz q h2;have:=hb.size;omega
 ·rcases hk with hk | hk
  ·exact h.ne q hk.symm hq
  ·obtain⟨n,xs,ho⟩:=hs.own
   exact own_blk_ne ho h.fb (by decide) (by rw[hq,hk])
theorem QF.add0 {wb w6:World}{u:Value}(h:QF w wq gf gr en ee sv name kk vz zs vf V r)(hb:Below wq.heap.size wq wb)(hg:wb.grownBy w6 vf.ownBlock) :
 Below w.heap.size w (w6.setCell ⟨gf,3,none⟩ u)∧QS (w6.setCell ⟨gf,3,none⟩ u) gr en ee sv r:=by
 have hng:vf.ownBlock≠some gf:=own_blk_ne h.fo h.fb (by decide);have T1:Tch wq w6 (fun k=>some k=vf.ownBlock):=((Tch.of_below hb (fun k=>some k=vf.ownBlock)).trans (Tch.of_grown hg (S:=fun k=>some k=vf.ownBlock) fun q _ hq=>hq) fun _ _ h=>h);have T2:Tch w6 (w6.setCell ⟨gf,3,none⟩ u) (fun k=>k=gf):=Tch.put (S:=fun k=>k=gf) (Tch.refl w6 _) (p:=⟨gf,3,none⟩) _ rfl;have T:Tch wq (w6.setCell ⟨gf,3,none⟩ u) (fun k=>some k=vf.ownBlock∨k=gf):=(T1.mono (S':=fun k=>some k=vf.ownBlock∨k=gf) fun k _ h=>Or.inl h).trans T2 fun k _ h=>Or.inr h
 obtain⟨_,_,_,_,_,_,hr,_⟩:=h.qs.blk
 exact h.up T fun k hk=>by
  rcases hk with hk | hk
  ·exact⟨(own_in h.fo hk.symm).1,fun e=>own_blk_ne h.fo hr (by decide) (by rw[← hk,e]),fun cs hb=>own_blk_ne h.fo hb (by decide) hk.symm⟩
  ·exact⟨by have:=h.hf;omega,by rw[hk];exact h.nef,fun cs hb=>Blk.ne_ h.fb hb (by decide) hk.symm⟩
def rfs (en ee:Int)(R1:Res (List Int))(j:Nat):Res (List Raw):=R1.bind fun zs s=>pfuns en ee zs j [] s
theorem rfs_snoc {R1:Res (List Int)}{j:Nat}{out:List Raw}{s:Ps}{zs:List Int}(h1:∀o s,R1 = .ok o s→o=zs)(h:rfs en ee R1 j = .ok out s):rfs en ee R1 (j+1)=(pfun en ee zs s).bind fun f s => .ok (out ++ [f]) s:=by
 unfold rfs at h ⊢
 cases R1 with
 |bad e x=>cases h
 | ok o s0 =>
   obtain rfl:=h1 o s0 rfl;rw[Res.bind_ok]at h ⊢;rw[pfuns_snoc,h];rfl
theorem rfs_bad {R1:Res (List Int)}{j:Nat}{e x:Int}(h:rfs en ee R1 j = .bad e x):∀n,j≤n→rfs en ee R1 n = .bad e x:=by
 intro n hn;unfold rfs at h ⊢
 cases R1 with
 |bad e' x'=>exact h
 | ok o s0 =>
   rw[Res.bind_ok]at h ⊢;exact pfuns_bad h n hn
theorem rfs_body {R1:Res (List Int)}{cn:Nat}{name:List UInt8}{kk:Int}{zs:List Int}{P:Res Fil}(hP:P=R1.bind fun sizes s=>(pfuns en ee sizes cn [] s).bind fun fs s => .ok ⟨name,kk,sizes,fs⟩ s)(h1:∀o s,R1 = .ok o s→o=zs) :
 (∀e x,rfs en ee R1 cn = .bad e x→P = .bad e x)∧(∀out s,rfs en ee R1 cn = .ok out s→P = .ok ⟨name,kk,zs,out⟩ s):=by
 subst hP;unfold rfs
 cases R1 with
 | bad e' x' =>
   refine⟨fun e x h=>?_,fun out s h=>(by cases h)⟩;have h:(Res.bad e' x':Res (List Raw)) = .bad e x:=h;injection h with h2 h3
   rw[h2,h3];rfl
 | ok o s0 =>
   obtain rfl:=h1 o s0 rfl;rw[Res.bind_ok,Res.bind_ok];exact⟨fun e x h=>by rw[h];rfl,fun out s h=>by rw[h];rfl⟩
end Go.Proofs.YtjpkkkphhaajgaaGreatDoor.wcp
namespace Go.Proofs.YtjpkkkphhaajgaaGreatDoor.wcp
open Go RowKit ChangeShapes WideShapes ChangeAt Maps words scn
variable {w wq:World} {gf gr:Nat} {sv:Value}
noncomputable def rbody:Code:=Tryz.f34.body.getD .skip
def QFileV (w:World)(B:Nat)(g:Nat)(f:Fil):Prop :=
 ∃ (vz vf:Value) (V:List QT),V.map (·.2)=f.funs∧Blk w g 49 #[strV f.name,.int .i64 f.k,vz,vf]∧Row64 w B vz f.sizes∧(∃A c,vf = .slice A V.length c)∧w.ownsRow B 70 4 vf V.length (qcells V)∧∀p∈V,QFn w p.1.1 p.1.2.1 p.1.2.2.1 p.1.2.2.2 p.2
def QReadR (w:World)(bs:List UInt8)(wb:Int)(l:List Wd)(e:Ending)(w':World):Prop :=
 Below w.heap.size w w' ∧
 match pread (enOf bs wb) (eeOf wb) l with
 | .err er x=>e = .returned (.tuple #[.pointer none,.int .i64 x,.int .i64 er])
 | .file f => ∃g,e = .returned (.tuple #[.pointer (some ⟨g,0,none⟩),.int .i64 bs.length,.int .i64 0])∧w.heap.size≤g∧QFileV w' w.heap.size g f
set_option maxRecDepth 1000000 in
set_option maxHeartbeats 8000000 in
theorem qread_bad {er x:Int}{bs:List UInt8}{wb:Int}{l:List Wd}{A:Option Addr}{cap:Nat}(h:Qbad wq gr (enOf bs wb) (eeOf wb) er x sv)(hb:Below w.heap.size w wq)(herr:pread (enOf bs wb) (eeOf wb) l = .err er x)
 {k1 k2 k3 k4 k5 k9 k10 k11 k12 k13 k14 k15 k16 k17 k18 k19 k20 k21 k22 k23 k24 k25 k26 k27 k28 k29 k30 k31 k32 k33 k34 k35 k36 k37 k38 k39 k40 k41 k42 k43 k44 k45 k46 k47 k48 k49 k50 k51 k52 k53 k54 k55 k56 k57 k58 k59 k60 k61 k62 k63 k64 k65 k66 k67 k68 k69 k70 k71 k72 k73 k74 k75 k76 k77 k78 k79 k80 k81 k82 k83 k84 k85 k86 k87 k88 k89 k90 k91 k92 k93 k94 k95 k96 k97 k98 k99 k100 k101 k102 k103 k104 k105 k106 k107 k108 k109 k110 k111 k112 k113 k114 k115 k116 k117 k118 k119 k120 k121 k122 k123 k124 k125 k126 k127 k128 k129 k130 k131 k132 k133 k134 k135 k136 k137 k138 k139 k140 k141 k142 k143 k144 k145 k146 k147 k148 k149 k150 k151 k152 k153 k154 k155 k156 k157 k158 k159 k160 k161 k162 k163 k164 k165 k166 k167 k168 k169 k170 k171 k172 k173 k174 k175 k176 k177 k178 k179 k180 k181 k182 k183 k184 k185 k186 k187 k188 k189 k190 k191 k192 k193 k194 k195 k196 k197 k198 k199 k200 k201 k202 k203 k204 k205 k206 k207 k208 k209 k210 k211 k212 k213 k214 k215 k216 k217 k218 k219 k220:Value} :
 Code.wp Tryz.prog (sfx 19 rbody) (bodyPost Tryz.prog Tryz.f34 fun e w'=>QReadR w bs wb l e w') ⟨#[.slice A bs.length cap,k1,k2,k3,k4,k5,.int .i64 wb,.pointer (some ⟨gr,0,none⟩),.pointer (some ⟨gf,0,none⟩),k9,k10,k11,k12,k13,k14,k15,k16,k17,k18,k19,k20,k21,k22,k23,k24,k25,k26,k27,k28,k29,k30,k31,k32,k33,k34,k35,k36,k37,k38,k39,k40,k41,k42,k43,k44,k45,k46,k47,k48,k49,k50,k51,k52,k53,k54,k55,k56,k57,k58,k59,k60,k61,k62,k63,k64,k65,k66,k67,k68,k69,k70,k71,k72,k73,k74,k75,k76,k77,k78,k79,k80,k81,k82,k83,k84,k85,k86,k87,k88,k89,k90,k91,k92,k93,k94,k95,k96,k97,k98,k99,k100,k101,k102,k103,k104,k105,k106,k107,k108,k109,k110,k111,k112,k113,k114,k115,k116,k117,k118,k119,k120,k121,k122,k123,k124,k125,k126,k127,k128,k129,k130,k131,k132,k133,k134,k135,k136,k137,k138,k139,k140,k141,k142,k143,k144,k145,k146,k147,k148,k149,k150,k151,k152,k153,k154,k155,k156,k157,k158,k159,k160,k161,k162,k163,k164,k165,k166,k167,k168,k169,k170,k171,k172,k173,k174,k175,k176,k177,k178,k179,k180,k181,k182,k183,k184,k185,k186,k187,k188,k189,k190,k191,k192,k193,k194,k195,k196,k197,k198,k199,k200,k201,k202,k203,k204,k205,k206,k207,k208,k209,k210,k211,k212,k213,k214,k215,k216,k217,k218,k219,k220],[]⟩ wq:=by
 conv=>arg 2;whnf
 have HQ:=Hd h;have HB:=Hd hb;have HERR:=Hd herr;clear h hb herr;obtain⟨lv9,big9,bigAt9,told9,hrx,hex⟩:=HQ.out;obtain⟨y0,y1,y2,y3,y4,y5,y6,y7,y8,yf⟩:=QB.cells hrx;have hneb:(er != 0)=true:=by simp[hex]
 have heqb:(er==0)=false:=by simp[hex]
 clear hrx hex yf;go_wp2_with fail
 go_quiet (fail)
 go_wp2_with fail
 go_ret3
 refine⟨below_drewN HB.out _,?_⟩;rw[HERR.out]
 all_goals rfl
set_option maxRecDepth 1000000 in
set_option maxHeartbeats 8000000 in
theorem qread_end {γ:Type}{r:Res γ}{bs:List UInt8}{wb:Int}{l:List Wd}{A:Option Addr}{cap:Nat}{name:List UInt8}{kk:Int}{vz vf:Value}{zs:List Int}{V:List QT}(h:QF w wq gf gr (enOf bs wb) (eeOf wb) sv name kk vz zs vf V r)
 (hbad:∀e x,r = .bad e x→pread (enOf bs wb) (eeOf wb) l = .err e x) (hok:∀a s,r = .ok a s→pbody (enOf bs wb) (eeOf wb) ⟨l,none,0,[]⟩ = .ok ⟨name,kk,zs,V.map (·.2)⟩ s) (hwb:wb = -1∨0≤wb)
 {k1 k2 k3 k4 k5 k9 k10 k11 k12 k13 k14 k15 k16 k17 k18 k19 k20 k21 k22 k23 k24 k25 k26 k27 k28 k29 k30 k31 k32 k33 k34 k35 k36 k37 k38 k39 k40 k41 k42 k43 k44 k45 k46 k47 k48 k49 k50 k51 k52 k53 k54 k55 k56 k57 k58 k59 k60 k61 k62 k63 k64 k65 k66 k67 k68 k69 k70 k71 k72 k73 k74 k75 k76 k77 k78 k79 k80 k81 k82 k83 k84 k85 k86 k87 k88 k89 k90 k91 k92 k93 k94 k95 k96 k97 k98 k99 k100 k101 k102 k103 k104 k105 k106 k107 k108 k109 k110 k111 k112 k113 k114 k115 k116 k117 k118 k119 k120 k121 k122 k123 k124 k125 k126 k127 k128 k129 k130 k131 k132 k133 k134 k135 k136 k137 k138 k139 k140 k141 k142 k143 k144 k145 k146 k147 k148 k149 k150 k151 k152 k153 k154 k155 k156 k157 k158 k159 k160 k161 k162 k163 k164 k165 k166 k167 k168 k169 k170 k171 k172 k173 k174 k175 k176 k177 k178 k179 k180 k181 k182 k183 k184 k185 k186 k187 k188 k189 k190 k191 k192 k193 k194 k195 k196 k197 k198 k199 k200 k201 k202 k203 k204 k205 k206 k207 k208 k209 k210 k211 k212 k213 k214 k215 k216 k217 k218 k219 k220:Value} :
 Code.wp Tryz.prog (sfx 19 rbody) (bodyPost Tryz.prog Tryz.f34 fun e w'=>QReadR w bs wb l e w') ⟨#[.slice A bs.length cap,k1,k2,k3,k4,k5,.int .i64 wb,.pointer (some ⟨gr,0,none⟩),.pointer (some ⟨gf,0,none⟩),k9,k10,k11,k12,k13,k14,k15,k16,k17,k18,k19,k20,k21,k22,k23,k24,k25,k26,k27,k28,k29,k30,k31,k32,k33,k34,k35,k36,k37,k38,k39,k40,k41,k42,k43,k44,k45,k46,k47,k48,k49,k50,k51,k52,k53,k54,k55,k56,k57,k58,k59,k60,k61,k62,k63,k64,k65,k66,k67,k68,k69,k70,k71,k72,k73,k74,k75,k76,k77,k78,k79,k80,k81,k82,k83,k84,k85,k86,k87,k88,k89,k90,k91,k92,k93,k94,k95,k96,k97,k98,k99,k100,k101,k102,k103,k104,k105,k106,k107,k108,k109,k110,k111,k112,k113,k114,k115,k116,k117,k118,k119,k120,k121,k122,k123,k124,k125,k126,k127,k128,k129,k130,k131,k132,k133,k134,k135,k136,k137,k138,k139,k140,k141,k142,k143,k144,k145,k146,k147,k148,k149,k150,k151,k152,k153,k154,k155,k156,k157,k158,k159,k160,k161,k162,k163,k164,k165,k166,k167,k168,k169,k170,k171,k172,k173,k174,k175,k176,k177,k178,k179,k180,k181,k182,k183,k184,k185,k186,k187,k188,k189,k190,k191,k192,k193,k194,k195,k196,k197,k198,k199,k200,k201,k202,k203,k204,k205,k206,k207,k208,k209,k210,k211,k212,k213,k214,k215,k216,k217,k218,k219,k220],[]⟩ wq:=by
 conv=>arg 2;whnf
 have HQ:=Hd h;clear h
 cases r with
 | bad er x =>
   have HERR:=Hd (hbad er x rfl);clear hbad hok;obtain⟨lv9,big9,bigAt9,told9,hrx,hex⟩:=(show Qbad _ gr _ _ _ _ sv from HQ.out.qs);obtain⟨y0,y1,y2,y3,y4,y5,y6,y7,y8,yf⟩:=QB.cells hrx;have hneb:(er != 0)=true:=by simp[hex]
   have heqb:(er==0)=false:=by simp[hex]
   clear hrx hex yf;go_wp2_with fail
   go_quiet (fail)
   go_wp2_with fail
   go_ret3
   refine⟨below_drewN HQ.out.bw _,?_⟩;rw[HERR.out]
   all_goals rfl
 | ok u s =>
   have HPB:=Hd (hok u s rfl);clear hbad hok;obtain⟨lv,badAt,big,bigAt,hr,hw,hg⟩:=(show Qok wq gr _ _ s sv from HQ.out.qs);obtain⟨y0,y1,y2,y3,y4,y5,y6,y7,y8,yf⟩:=QB.cells hr;have HW:=hw;obtain⟨-,⟨hl0,A0,d0,rfl⟩ | ⟨full,p,q,c,hl1,hp,rfl,ho⟩⟩:=hw
   ·have hz0:decide ((0:Int)<((0:Nat):Int))=false:=rfl
    rcases hwb with rfl | hwb
    ·have hwi:decide ((0:Int) ≤ -1)=false:=rfl
     have hee:eeOf (-1)=4:=rfl;rcases hg with⟨hb0,rfl⟩ | ⟨x,hb1,rfl,rfl⟩
     ·have HFI:Hid (pread (enOf bs (-1)) (eeOf (-1)) l = .file ⟨name,kk,zs,V.map (·.2)⟩):=(((pread_end HPB.out).2 hl0).2 hee).2 hb0
      clear hr hl0 hb0 hee yf HW;go_wp2_with fail
      go_ret3
      refine⟨HQ.out.bw,?_⟩;rw[HFI.out];exact⟨gf,rfl,HQ.out.hf,vz,vf,V,rfl,HQ.out.fb,HQ.out.sz,HQ.out.fs,HQ.out.fo,HQ.out.fv⟩
     ·have HERR:Hid (pread (enOf bs (-1)) (eeOf (-1)) l = .err 5 bigAt):=(((pread_end HPB.out).2 hl0).2 hee).1 _ hb1
      clear hr hl0 hb1 hee yf HW;go_wp2_with fail
      go_quiet (fail)
      go_wp2_with fail
      go_ret3
      refine⟨below_drewN HQ.out.bw _,?_⟩;rw[HERR.out]
      all_goals rfl
    ·have hwi:decide ((0:Int)≤wb)=true:=decide_eq_true hwb
     have hwr:=qwrong_un (a:=()) (show Qok wq gr _ _ s sv from HQ.out.qs) 11 wb (by decide)
     have HERR:Hid (pread (enOf bs wb) (eeOf wb) l = .err 11 wb):=by
      have e1:=((pread_end HPB.out).2 hl0).1 (by unfold eeOf;rw[if_neg (by omega)]);rw[Hid,e1];unfold enOf;rw[if_neg (by omega)]
     clear hr hl0 yf HW hg;go_wp2_with fail;refine hwr.mono ?_;rintro e w8 ⟨⟨v,rfl⟩,hq8,t8⟩;have HQ:=Hd (HQ.out.tch t8 (show QS w8 gr _ _ sv (.bad 11 wb:Res Unit) from hq8));clear hwr hq8 t8 y0 y1 y2 y3 y4 y5 y6 y7 y8;obtain⟨lv9,big9,bigAt9,told9,hrx,hex⟩:=(show Qbad _ gr _ _ _ _ sv from HQ.out.qs);obtain⟨y0,y1,y2,y3,y4,y5,y6,y7,y8,yf⟩:=QB.cells hrx;have hneb:((11:Int) != 0)=true:=by simp[hex]
     have heqb:((11:Int)==0)=false:=by simp[hex]
     clear hrx hex yf;go_wp2_with fail
     go_quiet (fail)
     go_wp2_with fail
     go_ret3
     refine⟨below_drewN HQ.out.bw _,?_⟩;rw[HERR.out]
     all_goals rfl
   ·obtain⟨wd,hwd⟩:∃wd,full[p]?=some wd:=⟨full[p],List.getElem?_eq_getElem hp⟩
    have hdr:s.l=wd::full.drop (p+1):=by
     rw[hl1,List.drop_eq_getElem_cons hp];rw[List.getElem?_eq_getElem hp]at hwd;injection hwd with hwd
     rw[hwd]
    have HERR:Hid (pread (enOf bs wb) (eeOf wb) l = .err 4 wd.2):=(pread_end HPB.out).1 _ _ hdr;obtain⟨d0,d1⟩:=wrow_at (Reads.of_own ho) hwd;have hwr:=qwrong_un (a:=()) (show Qok wq gr _ _ s sv from HQ.out.qs) 4 wd.2 (by decide);have hz0:decide ((0:Int)<((full.length-p:Nat):Int))=true:=decide_eq_true (by omega);have i1:(0:Int)<((full.length-p:Nat):Int):=by omega
    clear hr yf HW hg hl1 hdr hwd ho;go_wp2_with fail;refine hwr.mono ?_;rintro e w8 ⟨⟨v,rfl⟩,hq8,t8⟩;have HQ:=Hd (HQ.out.tch t8 (show QS w8 gr _ _ sv (.bad 4 wd.2:Res Unit) from hq8));clear hwr hq8 t8 y0 y1 y2 y3 y4 y5 y6 y7 y8 d0 d1;obtain⟨lv9,big9,bigAt9,told9,hrx,hex⟩:=(show Qbad _ gr _ _ _ _ sv from HQ.out.qs);obtain⟨y0,y1,y2,y3,y4,y5,y6,y7,y8,yf⟩:=QB.cells hrx;have hneb:((4:Int) != 0)=true:=by simp[hex]
    have heqb:((4:Int)==0)=false:=by simp[hex]
    clear hrx hex yf;go_wp2_with fail
    go_quiet (fail)
    go_wp2_with fail
    go_ret3
    refine⟨below_drewN HQ.out.bw _,?_⟩;rw[HERR.out]
    all_goals rfl
end Go.Proofs.YtjpkkkphhaajgaaGreatDoor.wcp
namespace Go.Proofs.YtjpkkkphhaajgaaGreatDoor.wcp
open Go RowKit ChangeShapes WideShapes ChangeAt Maps words scn
variable {w w0:World} {gf gr:Nat} {sv0:Value}
set_option maxRecDepth 1000000 in
set_option maxHeartbeats 8000000 in
theorem qread_funs {R1:Res (List Int)}{en ee:Int}{bs:List UInt8}{wb:Int}{l:List Wd}{A:Option Addr}{cap cn:Nat}{name:List UInt8}{kk:Int}{vz:Value}{zs:List Int}(hen:en=enOf bs wb)(hE:ee=eeOf wb)(hee:ee≠0)
 (h:QF w w0 gf gr en ee sv0 name kk vz zs (.slice none 0 0) [] R1) (hR1:∀o s,R1 = .ok o s→o=zs∧(∀z∈zs,1≤z∧z≤4611686018427387904)∧zs.length≤1000∧Within 1000 s∧QSh w0 sv0 s.sh)
 (hP:pbody en ee ⟨l,none,0,[]⟩=R1.bind fun sizes s=>(pfuns en ee sizes cn [] s).bind fun fs s => .ok ⟨name,kk,sizes,fs⟩ s) (hwb:wb = -1∨0≤wb) (hcn:cn≤4611686018427387904)
 {k1 k2 k3 k4 k5 k9 k10 k11 k12 k13 k15 k16 k17 k18 k19 k20 k21 k22 k23 k24 k25 k26 k27 k28 k29 k30 k31 k32 k33 k34 k35 k36 k37 k38 k39 k40 k41 k42 k43 k44 k45 k46 k47 k48 k49 k50 k51 k52 k53 k54 k55 k56 k57 k58 k59 k60 k61 k62 k63 k64 k65 k66 k67 k68 k69 k70 k71 k72 k73 k74 k75 k76 k77 k78 k79 k80 k81 k82 k83 k84 k85 k86 k87 k88 k89 k90 k91 k92 k93 k94 k95 k96 k97 k98 k99 k100 k101 k102 k103 k104 k105 k106 k107 k108 k109 k110 k111 k112 k113 k114 k115 k116 k117 k118 k119 k120 k121 k122 k123 k124 k125 k126 k127 k128 k129 k130 k131 k132 k133 k134 k135 k136 k137 k138 k139 k140 k141 k142 k143 k144 k145 k146 k147 k148 k149 k150 k151 k152 k153 k154 k155 k156 k157 k158 k159 k160 k161 k162 k163 k164 k165 k166 k167 k168 k169 k170 k171 k172 k173 k174 k175 k176 k177 k178 k179 k180 k181 k182 k183 k184 k185 k186 k187 k188 k189 k190 k191 k192 k193 k194 k195 k196 k197 k198 k199 k200 k201 k202 k203 k204 k205 k206 k207 k208 k209 k210 k211 k212 k213 k214 k215 k216 k217 k218 k219 k220:Value} :
 Code.wp Tryz.prog (sfx 18 rbody) (bodyPost Tryz.prog Tryz.f34 fun e w'=>QReadR w bs wb l e w') ⟨#[.slice A bs.length cap,k1,k2,k3,k4,k5,.int .i64 wb,.pointer (some ⟨gr,0,none⟩),.pointer (some ⟨gf,0,none⟩),k9,k10,k11,k12,k13,.int .i64 (cn:Int),k15,k16,k17,k18,k19,k20,k21,k22,k23,k24,k25,k26,k27,k28,k29,k30,k31,k32,k33,k34,k35,k36,k37,k38,k39,k40,k41,k42,k43,k44,k45,k46,k47,k48,k49,k50,k51,k52,k53,k54,k55,k56,k57,k58,k59,k60,k61,k62,k63,k64,k65,k66,k67,k68,k69,k70,k71,k72,k73,k74,k75,k76,k77,k78,k79,k80,k81,k82,k83,k84,k85,k86,k87,k88,k89,k90,k91,k92,k93,k94,k95,k96,k97,k98,k99,k100,k101,k102,k103,k104,k105,k106,k107,k108,k109,k110,k111,k112,k113,k114,k115,k116,k117,k118,k119,k120,k121,k122,k123,k124,k125,k126,k127,k128,k129,k130,k131,k132,k133,k134,k135,k136,k137,k138,k139,k140,k141,k142,k143,k144,k145,k146,k147,k148,k149,k150,k151,k152,k153,k154,k155,k156,k157,k158,k159,k160,k161,k162,k163,k164,k165,k166,k167,k168,k169,k170,k171,k172,k173,k174,k175,k176,k177,k178,k179,k180,k181,k182,k183,k184,k185,k186,k187,k188,k189,k190,k191,k192,k193,k194,k195,k196,k197,k198,k199,k200,k201,k202,k203,k204,k205,k206,k207,k208,k209,k210,k211,k212,k213,k214,k215,k216,k217,k218,k219,k220],[]⟩ w0:=by
 conv=>arg 2;whnf
 obtain⟨iF,hF0,hF1,hF2,hF3⟩:=info_parts infoQF;obtain⟨hB1,hB2⟩:=rfs_body hP (fun o s h=>(hR1 o s h).1);have hst:Hid (QF w w0 gf gr en ee sv0 name kk vz zs (.slice none 0 0) [] (rfs en ee R1 0)):=h.re (h.qs.same (fun a s e=>⟨[],by rw[e];rfl⟩) fun e x e'=>by rw[e'];rfl)
 have hok0:Hid (∀out s,rfs en ee R1 0 = .ok out s→out=([]:List QT).map (·.2)∧QSh w0 sv0 s.sh∧Within 1000 s∧([]:List QT).length+s.l.length≤1000):=fun out s e=>by
  unfold rfs at e
  cases R1 with
  |bad e1 x1=>cases e
  | ok o s1 =>
    rw[Res.bind_ok]at e;injection e with e1 e2
    obtain⟨-,-,-,h4,h5⟩:=hR1 o s1 rfl;rw[← e2];exact⟨e1.symm,h5,h4,by have:=h4.2.1;have:=h4.1;simp;omega⟩
 have HR1:=Hd hR1;have HB1:=Hd hB1;have HB2:=Hd hB2;clear h hR1 hP hB1 hB2;go_wp2_with fail
 go_loopw [19] (fun iv wr => ∃ (j:Nat),iv = .int .i64 j∧j≤cn∧((∃ (V:List QT) (FA:Option Addr) (fc:Nat) (sv:Value),Hid (QF w wr gf gr en ee sv name kk vz zs (.slice FA V.length fc) V (rfs en ee R1 j))∧Hid (∀out s,rfs en ee R1 j = .ok out s→out=V.map (·.2)∧QSh wr sv s.sh∧Within 1000 s∧V.length+s.l.length≤1000)) ∨
  (∃e x sv,Hid (Qbad wr gr en ee e x sv∧Below w.heap.size w wr∧pread en ee l = .err e x)))) (fun iv _=>cn-(intOf iv).toNat)
 case atStart=>exact⟨0,rfl,Nat.zero_le _,.inl ⟨[],none,0,sv0,hst,hok0⟩⟩
 case round =>
  clear hst hok0;obtain⟨j,rfl,hj,⟨V,FA,fc,sv,hq,hok2⟩ | ⟨er,x,sv,hbd⟩⟩:=hrel
  ·by_cases hjc:j<cn
   ·have hjI:decide ((j:Int)<(cn:Int))=true:=decide_eq_true (by omega)
    by_cases hgd:(rfs en ee R1 j).good=true
    ·obtain⟨out,s,hR2⟩:=good_ok hgd
     obtain⟨rfl,hsh,hwt,hVj⟩:=hok2.out out s hR2
     obtain⟨o1,s1,hR1o⟩:∃o s,R1 = .ok o s:=by
      cases R1 with
      |bad e x=>unfold rfs at hR2;cases hR2
      |ok o s=>exact⟨o,s,rfl⟩
     obtain⟨rfl,hzb,hzl,-⟩:=HR1.out o1 s1 hR1o;have HR2:=Hd hR2;have HQr:=Hd (hq.out.re (qok_of (b:=()) hq.out.qs hR2));obtain⟨FZ,FY,rfl⟩:=HQr.out.sz.1;obtain⟨nS,xS,hso⟩:=hsh.own;obtain⟨lv,bad_,badAt,big,bigAt,told,hqb,hb0,-⟩:=HQr.out.qs.blk;obtain rfl:bad_=0:=by simpa [Res.good] using hb0
     have c3:=(QB.cells hqb).2.2.2.1;obtain⟨x0,x1,x2,x3,-⟩:=Blk.four (t:=49) HQr.out.fb;have hf:=qfun_any (w:=wr.drew) (show Qok wr gr en ee s sv from HQr.out.qs) hee FZ FY o1 (own_base HQr.out.sz.2 (Nat.zero_le _)) hzb (by omega) hwt.1 (by have:=hwt.2.1;omega) hsh (by have:=hwt.2.2;omega);have HSO:=Hd hso;have HWT:=Hd hwt;have HST:=Hd (rfs_snoc (fun o s h=>(HR1.out o s h).1) hR2);have hDR:=Hd (QF.drew (n:=1) HQr.out);have hVl:V.length≤1000:=by have:=hwt.2.1;omega
     clear hgd hR2 hqb hb0 hok2 hq hso hsh hwt hR1o hzb;go_upto_region 28 with fail
     go_region_law (first
      |(refine step_append_any _ rfl (.tmp 147) (.tmp 154) 47 rfl w.heap.size 70 iF _ 4 80 Tryz.underlying47 hF0 hF1 hF2 hF3 rfl (by omega) (.slice FA V.length fc) V.length _ rfl hA9 (w5.alloc (.cells #[.slice E1 n1 d1,.slice E2 n2 d2,.int .i64 o,.slice E4 n4 d4] 70)).heap.size (some ⟨w5.heap.size,0,none⟩) 1 1 [.slice E1 n1 d1,.slice E2 n2 d2,.int .i64 o,.slice E4 n4 d4] rfl hr9 HONE.out (by simp only[maxLen];omega) (by omega) (by have:=HX5.out.bw.size;simp;omega) ?_;intro v9 w9 hown9 hg9 hat9;obtain⟨A9,c9,rfl⟩:=own_shape hown9;have hm9:=HX5.out.mid (bone w5 (.cells #[.slice E1 n1 d1,.slice E2 n2 d2,.int .i64 o,.slice E4 n4 d4] 70)) hg9 (own_blk_ne HX5.out.fo HX5.out.fb (by decide));have d93:=(Blk.four (t:=49) hm9).2.2.2.1;have d9f:=hm9.frozen 3;have HO9:=Hd hown9;have HG9:=Hd hg9;have HA9:=Hd hat9;clear hm9 hown9 hg9 hat9)
      |(go_simp;go_at_call 90;refine hf.mono ?_;rintro e w5 ⟨v1,v2,o,v4,sv5,rfl,⟨⟨E1,n1,d1,rfl⟩,⟨E2,n2,d2,rfl⟩,⟨E4,n4,d4,rfl⟩⟩,hsv5,t5,q5,hgood5⟩;have HX5:=Hd (hDR.out.fun_ HSO.out t5 hsv5 q5);have HGD:=Hd hgood5;obtain⟨z0,z1,z2,z3,-⟩:=Blk.four (t:=49) HX5.out.fb;obtain⟨Z0,Z1,Z2,Z3,-⟩:=Blk.four (t:=49) (HX5.out.fb.alloc (.cells #[.slice E1 n1 d1,.slice E2 n2 d2,.int .i64 o,.slice E4 n4 d4] 70));have hA9:=HX5.out.fo.alloc (.cells #[.slice E1 n1 d1,.slice E2 n2 d2,.int .i64 o,.slice E4 n4 d4] 70);have hr9:Reads (w5.alloc (.cells #[.slice E1 n1 d1,.slice E2 n2 d2,.int .i64 o,.slice E4 n4 d4] 70)) (w5.alloc (.cells #[.slice E1 n1 d1,.slice E2 n2 d2,.int .i64 o,.slice E4 n4 d4] 70)).heap.size 4 (some ⟨w5.heap.size,0,none⟩) 1 [.slice E1 n1 d1,.slice E2 n2 d2,.int .i64 o,.slice E4 n4 d4]:=reads_four (t:=70) (heap_alloc_new _ _);have HONE:Hid (∀u ∈ [Value.slice E1 n1 d1,.slice E2 n2 d2,.int .i64 o,.slice E4 n4 d4],u.oneCell'=true):=(fun u hu=>by (simp only[List.mem_cons,List.not_mem_nil,or_false]at hu;rcases hu with rfl | rfl | rfl | rfl<;>rfl));clear hf t5 hsv5 q5 hgood5))
     all_goals
      go_wp2_with fail;go_roundw
      case measure=>simp[intOf];omega
      case rel =>
       refine⟨j+1,by go_num,hjc,?_⟩
       cases hpf:pfun en ee o1 s with
       | bad er x =>
         right;obtain⟨hB,hQ⟩:=HX5.out.add0 (u := .slice A9 (V.length+1) c9) (bone w5 (.cells #[.slice E1 n1 d1,.slice E2 n2 d2,.int .i64 o,.slice E4 n4 d4] 70)) HG9.out;rw[hpf]at hQ
         exact⟨er,x,sv5,hQ,hB,pread_bad (HB1.out er x (rfs_bad (j:=j+1) (by rw[HST.out,hpf];rfl) cn hjc))⟩
       | ok f s' =>
         left;obtain⟨hfn,hsh'⟩:=HGD.out f s' hpf;obtain⟨nS',xS',hso'⟩:=hsh'.own;obtain⟨hA,hS⟩:=HX5.out.add hfn (bone w5 (.cells #[.slice E1 n1 d1,.slice E2 n2 d2,.int .i64 o,.slice E4 n4 d4] 70)) HO9.out HG9.out HA9.out fun q hq=>(own_in hso' hq).2
         have hl:(V ++ [(((.slice E1 n1 d1,.slice E2 n2 d2,o,.slice E4 n4 d4),f):QT)]).length=V.length+1:=by simp
         obtain⟨p1,p2,p3,p4⟩:=pfun_ok hpf HWT.out.1;have hw1:=HWT.out.2.1;have hw2:=HWT.out.2.2;refine⟨V ++ [((.slice E1 n1 d1,.slice E2 n2 d2,o,.slice E4 n4 d4),f)],A9,c9,sv5,?_,fun out s'' he=>?_⟩
         ·rw[hl];exact hA.re (hA.qs.same (fun a s e=>⟨_,by rw[HST.out,e];rfl⟩) fun e x e'=>by rw[HST.out,e'];rfl)
         ·rw[HST.out,hpf,Res.bind_ok]at he
          injection he with h1 h2
          subst h2;refine⟨by rw[← h1,List.map_append];rfl,hS _ hsh',⟨p2,by omega,by omega⟩,by rw[hl];omega⟩
    ·obtain⟨er,x,hbx⟩:=bad_of hgd
     have HQb:Hid (Qbad wr gr en ee er x sv):=by have:=hq.out.qs;rw[hbx]at this;exact this
     have HERR:Hid (pread en ee l = .err er x):=pread_bad (HB1.out er x (rfs_bad hbx cn hj));have HBW:=Hd hq.out.bw;obtain⟨lv,big,bigAt,told,hqb,hb0⟩:=HQb.out;have hbe:(er==0)=false:=by simp[hb0]
     have c3:=(QB.cells hqb).2.2.2.1;subst hen hE;clear hqb hb0 hgd hbx
     go_upto_if 140 with fail
     repeat (first | (exact qread_bad HQb.out HBW.out HERR.out) | go_step)
   ·obtain rfl:j=cn:=by omega
    have hjI:decide ((j:Int)<(j:Int))=false:=decide_eq_false (by omega);have H1:Hid (∀e x,rfs en ee R1 j = .bad e x→pread en ee l = .err e x):=fun e x h=>pread_bad (HB1.out e x h)
    have H2:Hid (∀a s,rfs en ee R1 j = .ok a s→pbody en ee ⟨l,none,0,[]⟩ = .ok ⟨name,kk,zs,V.map (·.2)⟩ s):=fun a s h=>by rw[← (hok2.out a s h).1];exact HB2.out a s h
    subst hen hE
    go_upto_if 140 with fail
    repeat (first | (exact qread_end hq.out H1.out H2.out hwb) | go_step)
  ·obtain⟨lv,big,bigAt,told,hqb,hb0⟩:=hbd.out.1
   have hbe:(er==0)=false:=by simp[hb0]
   have c3:=(QB.cells hqb).2.2.2.1;subst hen hE;clear hqb hb0;by_cases hjc:j<cn
   ·have hjI:decide ((j:Int)<(cn:Int))=true:=decide_eq_true (by omega)
    go_upto_if 140 with fail
    repeat (first | (exact qread_bad hbd.out.1 hbd.out.2.1 hbd.out.2.2) | go_step)
   ·have hjI:decide ((j:Int)<(cn:Int))=false:=decide_eq_false (by omega)
    go_upto_if 140 with fail
    repeat (first | (exact qread_bad hbd.out.1 hbd.out.2.1 hbd.out.2.2) | go_step)
end Go.Proofs.YtjpkkkphhaajgaaGreatDoor.wcp
namespace Go.Proofs.YtjpkkkphhaajgaaGreatDoor.wcp
open Go RowKit ChangeShapes WideShapes ChangeAt Maps words scn
variable {w w0:World} {gf gr:Nat}
def rsz {γ:Type}(en ee:Int)(R0:Res γ)(mo:Int)(j:Nat):Res (List Int):=R0.bind fun _ s=>psizes en ee mo j [] s
theorem rsz_bad {γ:Type}{en ee mo:Int}{R0:Res γ}{j:Nat}{e x:Int}(h:rsz en ee R0 mo j = .bad e x):∀n,j≤n→rsz en ee R0 mo n = .bad e x:=by
 intro n hn;unfold rsz at h ⊢
 cases R0 with
 |bad e' x'=>exact h
 | ok o s0 =>
   rw[Res.bind_ok]at h ⊢;exact psizes_bad h n hn
set_option maxRecDepth 1000000 in
set_option maxHeartbeats 8000000 in
theorem qread_sizes {γ:Type}{R0:Res γ}{en ee mo:Int}{bs:List UInt8}{wb:Int}{l:List Wd}{A:Option Addr}{cap cn n0:Nat}{name:List UInt8}{kk:Int}(hen:en=enOf bs wb)(hE:ee=eeOf wb)(hee:ee≠0)
 (h:QF w w0 gf gr en ee (.slice none 0 0) name kk (.slice none 0 0) [] (.slice none 0 0) [] R0) (hR0:∀a s,R0 = .ok a s→s.sh = []∧s.told=0∧s.l.length≤1000)
 (hP:pbody en ee ⟨l,none,0,[]⟩=(rsz en ee R0 mo n0).bind fun sizes s=>(pfuns en ee sizes cn [] s).bind fun fs s => .ok ⟨name,kk,sizes,fs⟩ s) (hwb:wb = -1∨0≤wb) (hcn:cn≤4611686018427387904) (hn0:n0≤4611686018427387904) (hmo:0≤mo) (hmo2:mo≤4611686018427387904)
 {k1 k2 k3 k4 k5 k9 k11 k13 k15 k16 k17 k18 k19 k20 k21 k22 k23 k24 k25 k26 k27 k28 k29 k30 k31 k32 k33 k34 k35 k36 k37 k38 k39 k40 k41 k42 k43 k44 k45 k46 k47 k48 k49 k50 k51 k52 k53 k54 k55 k56 k57 k58 k59 k60 k61 k62 k63 k64 k65 k66 k67 k68 k69 k70 k71 k72 k73 k74 k75 k76 k77 k78 k79 k80 k81 k82 k83 k84 k85 k86 k87 k88 k89 k90 k91 k92 k93 k94 k95 k96 k97 k98 k99 k100 k101 k102 k103 k104 k105 k106 k107 k108 k109 k110 k111 k112 k113 k114 k115 k116 k117 k118 k119 k120 k121 k122 k123 k124 k125 k126 k127 k128 k129 k130 k131 k132 k133 k134 k135 k136 k137 k138 k139 k140 k141 k142 k143 k144 k145 k146 k147 k148 k149 k150 k151 k152 k153 k154 k155 k156 k157 k158 k159 k160 k161 k162 k163 k164 k165 k166 k167 k168 k169 k170 k171 k172 k173 k174 k175 k176 k177 k178 k179 k180 k181 k182 k183 k184 k185 k186 k187 k188 k189 k190 k191 k192 k193 k194 k195 k196 k197 k198 k199 k200 k201 k202 k203 k204 k205 k206 k207 k208 k209 k210 k211 k212 k213 k214 k215 k216 k217 k218 k219 k220:Value} :
 Code.wp Tryz.prog (sfx 17 rbody) (bodyPost Tryz.prog Tryz.f34 fun e w'=>QReadR w bs wb l e w') ⟨#[.slice A bs.length cap,k1,k2,k3,k4,k5,.int .i64 wb,.pointer (some ⟨gr,0,none⟩),.pointer (some ⟨gf,0,none⟩),k9,.int .i64 (n0:Int),k11,.int .i64 mo,k13,.int .i64 (cn:Int),k15,k16,k17,k18,k19,k20,k21,k22,k23,k24,k25,k26,k27,k28,k29,k30,k31,k32,k33,k34,k35,k36,k37,k38,k39,k40,k41,k42,k43,k44,k45,k46,k47,k48,k49,k50,k51,k52,k53,k54,k55,k56,k57,k58,k59,k60,k61,k62,k63,k64,k65,k66,k67,k68,k69,k70,k71,k72,k73,k74,k75,k76,k77,k78,k79,k80,k81,k82,k83,k84,k85,k86,k87,k88,k89,k90,k91,k92,k93,k94,k95,k96,k97,k98,k99,k100,k101,k102,k103,k104,k105,k106,k107,k108,k109,k110,k111,k112,k113,k114,k115,k116,k117,k118,k119,k120,k121,k122,k123,k124,k125,k126,k127,k128,k129,k130,k131,k132,k133,k134,k135,k136,k137,k138,k139,k140,k141,k142,k143,k144,k145,k146,k147,k148,k149,k150,k151,k152,k153,k154,k155,k156,k157,k158,k159,k160,k161,k162,k163,k164,k165,k166,k167,k168,k169,k170,k171,k172,k173,k174,k175,k176,k177,k178,k179,k180,k181,k182,k183,k184,k185,k186,k187,k188,k189,k190,k191,k192,k193,k194,k195,k196,k197,k198,k199,k200,k201,k202,k203,k204,k205,k206,k207,k208,k209,k210,k211,k212,k213,k214,k215,k216,k217,k218,k219,k220],[]⟩ w0:=by
 conv=>arg 2;whnf
 obtain⟨i6,h60,h61,h62,h63⟩:=info_parts info64;have hst:Hid (QF w w0 gf gr en ee (.slice none 0 0) name kk (.slice none 0 0) [] (.slice none 0 0) [] (rsz en ee R0 mo 0)):=h.re (h.qs.same (fun a s e=>⟨[],by rw[e];rfl⟩) fun e x e'=>by rw[e'];rfl)
 have hok0:Hid (∀o s,rsz en ee R0 mo 0 = .ok o s→o = []∧s.sh = []∧s.told=0∧([]:List Int).length+s.l.length≤1000∧∀z∈([]:List Int),1≤z∧z≤mo):=fun o s e=>by
  unfold rsz at e
  cases R0 with
  |bad e1 x1=>cases e
  | ok u s1 =>
    rw[Res.bind_ok]at e;injection e with e1 e2
    obtain⟨h3,h4,h5⟩:=hR0 u s1 rfl;rw[← e2];exact⟨e1.symm,h3,h4,by simp;omega,fun z hz=>by cases hz⟩
 have HP:=Hd hP;clear h hR0 hP;go_wp2_with fail
 go_loopw [16] (fun iv wr => ∃ (zs:List Int) (FZ:Option Addr) (FY:Nat),iv = .int .i64 (zs.length:Int)∧zs.length≤n0∧Hid (QF w wr gf gr en ee (.slice none 0 0) name kk (.slice FZ zs.length FY) zs (.slice none 0 0) [] (rsz en ee R0 mo zs.length)) ∧
  Hid (∀o s,rsz en ee R0 mo zs.length = .ok o s→o=zs∧s.sh = []∧s.told=0∧zs.length+s.l.length≤1000∧∀z∈zs,1≤z∧z≤mo)) (fun iv _=>n0-(intOf iv).toNat)
 case atStart=>exact⟨[],none,0,rfl,Nat.zero_le _,hst,hok0⟩
 case round =>
  clear hst hok0;obtain⟨zs,FZ,FY,rfl,hj,hq,hok2⟩:=hrel;by_cases hjn:zs.length<n0
  ·have hjI:decide ((zs.length:Int)<(n0:Int))=true:=decide_eq_true (by omega)
   by_cases hgd:(rsz en ee R0 mo zs.length).good=true
   ·obtain⟨out,s,hR2⟩:=good_ok hgd
    obtain⟨rfl,hsh0,htd0,hjl,hzb⟩:=hok2.out out s hR2;have HR2:=Hd hR2;obtain⟨lv,bad_,badAt,big,bigAt,told,hqb,hb0,-⟩:=(qok_of (b:=()) hq.out.qs hR2).blk;obtain rfl:bad_=0:=by simpa [Res.good] using hb0
    have c3:=(QB.cells hqb).2.2.2.1;have hn5:=qnum_un hq.out.qs hee 1 mo;have HOK2:=hok2;have HQr:=hq;clear hgd hR2 hqb hb0 hok2 hq hsh0 htd0 hzb;go_wp2_with fail;refine hn5.mono ?_;rintro e w5 ⟨v,xv,rfl,t5,hs5,hv5,hz5⟩;have HX5:=Hd (HQr.out.tch t5 hs5);have hlg:=qlarge_un hs5 (decide (32<v)) xv;have HV5:=Hd hv5;clear hn5 c3 t5 hs5 hv5 hz5;go_wp2_with fail;refine hlg.mono ?_;rintro e w6 ⟨⟨vl,rfl⟩,hrl,htl⟩;have hX6:=HX5.out.tch htl hrl;obtain⟨x0,x1,x2,x3,-⟩:=Blk.four (t:=49) hX6.fb;have hA9:=hX6.sz.2.alloc (.cells #[.int .i64 v] 2);have hr9:Reads (w6.alloc (.cells #[.int .i64 v] 2)) (w6.alloc (.cells #[.int .i64 v] 2)).heap.size 1 (some ⟨w6.heap.size,0,none⟩) 1 (nums [v]):=reads_block (t:=2) (heap_alloc_new _ _) rfl;have hs9:w.heap.size≤(w6.alloc (.cells #[.int .i64 v] 2)).heap.size:=by have:=hX6.bw.size;simp;omega
    have HX6:=Hd hX6;clear hlg hrl htl hX6
    go_wp2_with (first
     |(at_builtin;refine wpList_append_any _ rfl (.tmp 125) (.tmp 127) _ rfl w.heap.size 2 i6 _ 1 8 Tryz.underlying46 h60 h61 h62 h63 rfl (by omega) (.slice FZ out.length FY) out.length _ rfl hA9 (w6.alloc (.cells #[.int .i64 v] 2)).heap.size (some ⟨w6.heap.size,0,none⟩) 1 1 (nums [v]) rfl hr9 nums_one (by simp only[maxLen];omega) (by omega) hs9 ?_;intro v9 w9 hown9 hg9 hat9;obtain⟨A9,c9,rfl⟩:=own_shape hown9;have hm9:=HX6.out.mid (bone w6 (.cells #[.int .i64 v] 2)) hg9 (own_blk_ne HX6.out.sz.2 HX6.out.fb (by decide));have d93:=(Blk.four (t:=49) hm9).2.2.1;have d9f:=hm9.frozen 2;have HX9:=Hd (HX6.out.size_ (bone w6 (.cells #[.int .i64 v] 2)) hown9 hg9);clear hown9 hg9 hat9 hm9 hA9 hr9 x0 x1 x2 x3)
     |fail)
    go_roundw
    case measure=>simp[intOf];omega
    case rel =>
     have hl:(out ++ [v]).length=out.length+1:=by simp
     have hst:rsz en ee R0 mo (out.length+1)=(pnum en ee 1 mo s).bind fun u s => .ok (out ++ [u.1]) (plarge (decide (u.1>32)) u.2 s):=by
      have h0:=HR2.out;unfold rsz at h0 ⊢
      cases R0 with
      |bad e x=>cases h0
      |ok u s0=>rw[Res.bind_ok]at h0 ⊢;rw[psizes_snoc,h0];rfl
     refine⟨out ++ [v],A9,c9,by rw[hl];go_num,by rw[hl];exact hjn,?_,fun o s' he=>?_⟩
     ·rw[hl]
      refine HX9.out.re (HX9.out.qs.same (fun a s' e=>?_) fun e x e'=>?_)
      ·rw[HR2.out,Res.bind_ok]at e
       rw[hst]
       cases hpn:pnum en ee 1 mo s with
       |bad e1 x1=>rw[hpn]at e;cases e
       | ok u s1 =>
         obtain⟨hu1,hu2⟩:=HV5.out u s1 (by rw[HR2.out,Res.bind_ok];exact hpn);rw[hpn,Res.bind_ok]at e;injection e with _ e
         rw[Res.bind_ok,← hu1,← hu2];exact⟨_,by rw[← e]⟩
      ·rw[HR2.out,Res.bind_ok]at e'
       rw[hst]
       cases hpn:pnum en ee 1 mo s with
       | bad e1 x1 =>
         rw[hpn]at e';have e'':(Res.bad e1 x1:Res (Int × Int)) = .bad e x:=e';injection e'' with h1 h2
         rw[h1,h2];rfl
       |ok u s1=>rw[hpn]at e';cases e'
     ·rw[hl]at he
      rw[hst]at he
      cases hpn:pnum en ee 1 mo s with
      |bad e1 x1=>rw[hpn]at he;cases he
      | ok u s1 =>
        obtain⟨hu1,-⟩:=HV5.out u s1 (by rw[HR2.out,Res.bind_ok];exact hpn);rw[hpn,Res.bind_ok]at he;injection he with e1 e2
        obtain⟨p1,p2,p3,p4,-,p6⟩:=pnum_ok hpn;obtain⟨-,hsh0,htd0,-,hzb⟩:=HOK2.out out s HR2.out;have ql:=plarge_l (decide (u.1>32)) u.2 s1;rw[← e2];refine⟨by rw[← e1,← hu1],by rw[ql.2.1,p3,hsh0],by rw[ql.2.2,p4,htd0],by rw[ql.1,hl];omega,fun z hz=>?_⟩;rcases List.mem_append.1 hz with hz | hz
        ·exact hzb z hz
        ·rw[List.mem_singleton.1 hz,hu1];exact⟨p1,p2⟩
   ·obtain⟨er,x,hbx⟩:=bad_of hgd
    have hbe2:=rsz_bad hbx n0 hj;have HF:=Hd (hq.out.re (r':=rsz en ee R0 mo n0) (by rw[hbe2];have:=hq.out.qs;rw[hbx]at this;exact this));obtain⟨lv,bad_,badAt,big,bigAt,told,hqb,hb0,-⟩:=hq.out.qs.blk
    have hbe:(bad_==0)=false:=by
     have:¬ bad_=0:=fun h=>hgd (by rw[← hb0];exact decide_eq_true h)
     simp[this]
    have c3:=(QB.cells hqb).2.2.2.1;have HBE:=Hd hbe2;clear hqb hb0 hgd hbx hbe2
    go_upto_if 107 with fail
    repeat (first | (exact qread_funs hen hE hee HF.out (fun o s h=>by rw[HBE.out]at h;cases h) HP.out hwb hcn) | go_step)
  ·have hjI:decide ((zs.length:Int)<(n0:Int))=false:=decide_eq_false (by omega)
   have HJN:Hid (zs.length=n0):=by unfold Hid;omega
   obtain⟨lv,bad_,badAt,big,bigAt,told,hqb,hb0,-⟩:=hq.out.qs.blk;have c3:=(QB.cells hqb).2.2.2.1;have HF:Hid (QF w wr gf gr en ee (.slice none 0 0) name kk (.slice FZ zs.length FY) zs (.slice none 0 0) [] (rsz en ee R0 mo n0)):=by have:=hq.out;rw[HJN.out]at this;unfold Hid;rw[HJN.out];exact this
   have HOK:Hid (∀o s,rsz en ee R0 mo n0 = .ok o s→o=zs∧(∀z∈zs,1≤z∧z≤4611686018427387904)∧zs.length≤1000∧Within 1000 s∧QSh wr (.slice none 0 0) s.sh):=fun o s e=>by
    obtain⟨h1,h2,h3,h4,h5⟩:=hok2.out o s (by rw[HJN.out];exact e);refine⟨h1,fun z hz=>⟨(h5 z hz).1,by have:=(h5 z hz).2;omega⟩,by omega,⟨by omega,by omega,by rw[h2];simp;omega⟩,by rw[h2];exact QSh.empty _⟩
   clear hqb hb0
   go_upto_if 107 with fail
   repeat (first | (exact qread_funs hen hE hee HF.out HOK.out HP.out hwb hcn) | go_step)
end Go.Proofs.YtjpkkkphhaajgaaGreatDoor.wcp
namespace Go.Proofs.YtjpkkkphhaajgaaGreatDoor.wcp
open Go RowKit ChangeShapes WideShapes ChangeAt Maps words scn
variable {en ee:Int}
def qh1 (en ee:Int)(l:List Wd)(v:List UInt8)(x:Int):Res Wd:=(pword en ee ⟨l,none,0,[]⟩).bind fun a s => .ok a (plarge (decide (64<(v.length:Int))) x s)
def qh2 (en ee:Int)(l:List Wd)(v:List UInt8)(x:Int):Res (Int × Int):=(qh1 en ee l v x).bind fun _ s=>pnum en ee 1 4611686018427387904 s
def qh3 (en ee:Int)(l:List Wd)(v:List UInt8)(x n xn:Int):Res (Int × Int):=(qh2 en ee l v x).bind fun a s => .ok a (plarge (decide (64<n)) xn s)
def qh4 (en ee:Int)(l:List Wd)(v:List UInt8)(x n xn:Int):Res (Int × Int):=(qh3 en ee l v x n xn).bind fun _ s=>pnum en ee 1 4611686018427387904 s
def qh5 (en ee:Int)(l:List Wd)(v:List UInt8)(x n xn:Int):Res (Int × Int):=(qh4 en ee l v x n xn).bind fun _ s=>pnum en ee 0 4611686018427387904 s
def qh6 (en ee:Int)(l:List Wd)(v:List UInt8)(x n xn c xc:Int):Res (Int × Int):=(qh5 en ee l v x n xn).bind fun a s => .ok a (plarge (decide (256<c)) xc s)
def qh7 (en ee:Int)(l:List Wd)(v:List UInt8)(x n xn c xc:Int):Res (Int × Int):=(qh6 en ee l v x n xn c xc).bind fun _ s=>pnum en ee 1 4611686018427387904 s
def qh8 (en ee:Int)(l:List Wd)(v:List UInt8)(x n xn c xc k xk:Int):Res (Int × Int):=(qh7 en ee l v x n xn c xc).bind fun a s => .ok a (plarge (decide (2147483648<k)) xk s)
theorem qhead {l:List Wd}{v:List UInt8}{x n xn mo xm c xc k xk:Int}(h1:∀wd s,pword en ee ⟨l,none,0,[]⟩ = .ok wd s→v=wd.1∧x=wd.2)(h2:∀u s,qh2 en ee l v x = .ok u s→n=u.1∧xn=u.2)(h4:∀u s,qh4 en ee l v x n xn = .ok u s→mo=u.1∧xm=u.2)
 (h5:∀u s,qh5 en ee l v x n xn = .ok u s→c=u.1∧xc=u.2) (h7:∀u s,qh7 en ee l v x n xn c xc = .ok u s→k=u.1∧xk=u.2) :
 (pbody en ee ⟨l,none,0,[]⟩=(rsz en ee (qh8 en ee l v x n xn c xc k xk) mo n.toNat).bind fun sizes s=>(pfuns en ee sizes c.toNat [] s).bind fun fs s => .ok ⟨v,k,sizes,fs⟩ s) ∧
 (∀a s,qh8 en ee l v x n xn c xc k xk = .ok a s→s.sh = []∧s.told=0∧s.l.length≤l.length):=by
 unfold rsz pbody;unfold qh8 qh7 qh6 qh5 qh4 qh3 qh2 qh1 at *
 cases e1:pword en ee ⟨l,none,0,[]⟩ with
 |bad e x=>exact⟨rfl,fun a s h=>by cases h⟩
 | ok wd s1 =>
   obtain⟨rfl,rfl⟩:=h1 wd s1 e1
   have q1:s1.sh = []∧s1.told=0∧s1.l.length≤l.length:=by
    unfold pword at e1
    cases l with
    |nil=>cases e1
    |cons a l=>injection e1 with _ e1;rw[← e1];exact⟨rfl,rfl,by simp⟩
   rw[e1]at h2 h4 h5 h7;simp only[Res.bind_ok]at h2 h4 h5 h7 ⊢;rw[show (decide (64<(wd.1.length:Int)))=decide (wd.1.length>64) from decide_eq_decide.2 (by omega)]at *;have l1:=plarge_l (decide (wd.1.length>64)) wd.2 s1
   cases e2:pnum en ee 1 4611686018427387904 (plarge (decide (wd.1.length>64)) wd.2 s1) with
   |bad e x=>rw[show pnum en ee 1 far (plarge (decide (wd.1.length>64)) wd.2 s1)=_ from e2];exact⟨rfl,fun a s h=>by cases h⟩
   | ok u2 s2 =>
     obtain⟨rfl,rfl⟩:=h2 u2 s2 e2;have p2:=pnum_ok e2;rw[show pnum en ee 1 far (plarge (decide (wd.1.length>64)) wd.2 s1)=_ from e2];rw[e2]at h4 h5 h7;simp only[Res.bind_ok]at h4 h5 h7 ⊢;have l2:=plarge_l (decide (64<u2.1)) u2.2 s2
     cases e4:pnum en ee 1 4611686018427387904 (plarge (decide (64<u2.1)) u2.2 s2) with
     |bad e x=>rw[show pnum en ee 1 far (plarge (decide (u2.1>64)) u2.2 s2)=_ from e4];exact⟨rfl,fun a s h=>by cases h⟩
     | ok u4 s4 =>
       obtain⟨rfl,rfl⟩:=h4 u4 s4 e4;have p4:=pnum_ok e4;rw[show pnum en ee 1 far (plarge (decide (u2.1>64)) u2.2 s2)=_ from e4];rw[e4]at h5 h7;simp only[Res.bind_ok]at h5 h7 ⊢
       cases e5:pnum en ee 0 4611686018427387904 s4 with
       |bad e x=>rw[show pnum en ee 0 far s4=_ from e5];exact⟨rfl,fun a s h=>by cases h⟩
       | ok u5 s5 =>
         obtain⟨rfl,rfl⟩:=h5 u5 s5 e5;have p5:=pnum_ok e5;rw[show pnum en ee 0 far s4=_ from e5];rw[e5]at h7;simp only[Res.bind_ok]at h7 ⊢;have l5:=plarge_l (decide (256<u5.1)) u5.2 s5
         cases e7:pnum en ee 1 4611686018427387904 (plarge (decide (256<u5.1)) u5.2 s5) with
         |bad e x=>rw[show pnum en ee 1 far (plarge (decide (u5.1>256)) u5.2 s5)=_ from e7];exact⟨rfl,fun a s h=>by cases h⟩
         | ok u7 s7 =>
           obtain⟨rfl,rfl⟩:=h7 u7 s7 e7;have p7:=pnum_ok e7;rw[show pnum en ee 1 far (plarge (decide (u5.1>256)) u5.2 s5)=_ from e7];simp only[Res.bind_ok];have l7:=plarge_l (decide (2147483648<u7.1)) u7.2 s7;refine⟨trivial,fun a s h=>?_⟩;injection h with _ h
           subst h;obtain⟨a1,a2,a3⟩:=q1;refine⟨by rw[l7.2.1,p7.2.2.1,l5.2.1,p5.2.2.1,p4.2.2.1,l2.2.1,p2.2.2.1,l1.2.1,a1],by rw[l7.2.2,p7.2.2.2.1,l5.2.2,p5.2.2.2.1,p4.2.2.2.1,l2.2.2,p2.2.2.2.1,l1.2.2,a2],?_⟩;have b1:=p7.2.2.2.2.2;have b2:=p5.2.2.2.2.2;have b3:=p4.2.2.2.2.2;have b4:=p2.2.2.2.2.2;rw[l5.1]at b1;rw[l2.1]at b3;rw[l1.1]at b4;rw[l7.1];omega
end Go.Proofs.YtjpkkkphhaajgaaGreatDoor.wcp
namespace Go.Proofs.YtjpkkkphhaajgaaGreatDoor.wcp
open Go RowKit ChangeShapes WideShapes ChangeAt Maps words scn
variable {w w0:World} {gr:Nat}
theorem QF.below {α:Type}{r:Res α}{wq w':World}{gf:Nat}{en ee:Int}{sv:Value}{name:List UInt8}{kk:Int}{vz vf:Value}{zs:List Int}{V:List QT}(h:QF w wq gf gr en ee sv name kk vz zs vf V r)(hb:Below wq.heap.size wq w'):QF w w' gf gr en ee sv name kk vz zs vf V r:=h.tch (Tch.of_below hb _) (h.qs.below hb)
set_option maxRecDepth 1000000 in
set_option maxHeartbeats 8000000 in
theorem qread_head {en ee:Int}{bs:List UInt8}{wb:Int}{l:List Wd}{A:Option Addr}{cap:Nat}(hen:en=enOf bs wb)(hE:ee=eeOf wb)(hee:ee≠0)
 (h:Qok w0 gr en ee ⟨l,none,0,[]⟩ (.slice none 0 0)) (hb:Below w.heap.size w w0) (hg:w.heap.size≤gr) (hl:l.length≤1000) (hwb:wb = -1∨0≤wb)
 {k1 k2 k3 k4 k5 k8 k9 k10 k11 k12 k13 k14 k15 k16 k17 k18 k19 k20 k21 k22 k23 k24 k25 k26 k27 k28 k29 k30 k31 k32 k33 k34 k35 k36 k37 k38 k39 k40 k41 k42 k43 k44 k45 k46 k47 k48 k49 k50 k51 k52 k53 k54 k55 k56 k57 k58 k59 k60 k61 k62 k63 k64 k65 k66 k67 k68 k69 k70 k71 k72 k73 k74 k75 k76 k77 k78 k79 k80 k81 k82 k83 k84 k85 k86 k87 k88 k89 k90 k91 k92 k93 k94 k95 k96 k97 k98 k99 k100 k101 k102 k103 k104 k105 k106 k107 k108 k109 k110 k111 k112 k113 k114 k115 k116 k117 k118 k119 k120 k121 k122 k123 k124 k125 k126 k127 k128 k129 k130 k131 k132 k133 k134 k135 k136 k137 k138 k139 k140 k141 k142 k143 k144 k145 k146 k147 k148 k149 k150 k151 k152 k153 k154 k155 k156 k157 k158 k159 k160 k161 k162 k163 k164 k165 k166 k167 k168 k169 k170 k171 k172 k173 k174 k175 k176 k177 k178 k179 k180 k181 k182 k183 k184 k185 k186 k187 k188 k189 k190 k191 k192 k193 k194 k195 k196 k197 k198 k199 k200 k201 k202 k203 k204 k205 k206 k207 k208 k209 k210 k211 k212 k213 k214 k215 k216 k217 k218 k219 k220:Value} :
 Code.wp Tryz.prog (sfx 5 rbody) (bodyPost Tryz.prog Tryz.f34 fun e w'=>QReadR w bs wb l e w') ⟨#[.slice A bs.length cap,k1,k2,k3,k4,k5,.int .i64 wb,.pointer (some ⟨gr,0,none⟩),k8,k9,k10,k11,k12,k13,k14,k15,k16,k17,k18,k19,k20,k21,k22,k23,k24,k25,k26,k27,k28,k29,k30,k31,k32,k33,k34,k35,k36,k37,k38,k39,k40,k41,k42,k43,k44,k45,k46,k47,k48,k49,k50,k51,k52,k53,k54,k55,k56,k57,k58,k59,k60,k61,k62,k63,k64,k65,k66,k67,k68,k69,k70,k71,k72,k73,k74,k75,k76,k77,k78,k79,k80,k81,k82,k83,k84,k85,k86,k87,k88,k89,k90,k91,k92,k93,k94,k95,k96,k97,k98,k99,k100,k101,k102,k103,k104,k105,k106,k107,k108,k109,k110,k111,k112,k113,k114,k115,k116,k117,k118,k119,k120,k121,k122,k123,k124,k125,k126,k127,k128,k129,k130,k131,k132,k133,k134,k135,k136,k137,k138,k139,k140,k141,k142,k143,k144,k145,k146,k147,k148,k149,k150,k151,k152,k153,k154,k155,k156,k157,k158,k159,k160,k161,k162,k163,k164,k165,k166,k167,k168,k169,k170,k171,k172,k173,k174,k175,k176,k177,k178,k179,k180,k181,k182,k183,k184,k185,k186,k187,k188,k189,k190,k191,k192,k193,k194,k195,k196,k197,k198,k199,k200,k201,k202,k203,k204,k205,k206,k207,k208,k209,k210,k211,k212,k213,k214,k215,k216,k217,k218,k219,k220],[]⟩ w0:=by
 conv=>arg 2;whnf
 have hgl:gr<w0.heap.size:=QS.lt (r:=(.ok () ⟨l,none,0,[]⟩:Res Unit)) h;have hb1:=bone w0 (.cells #[.string ⟨#[]⟩,.int .i64 0,.slice none 0 0,.slice none 0 0] 49)
 have hq0:QF w (w0.alloc (.cells #[.string ⟨#[]⟩,.int .i64 0,.slice none 0 0,.slice none 0 0] 49)) w0.heap.size gr en ee (.slice none 0 0) [] 0 (.slice none 0 0) [] (.slice none 0 0) [] (.ok () ⟨l,none,0,[]⟩:Res Unit) :=
  ⟨Blk.new _ _ _,⟨⟨none,0,rfl⟩,World.ownsRow_nil _ _ _ _⟩,⟨none,0,rfl⟩,World.ownsRow_nil _ _ _ _,(fun p hp=>by cases hp),hb.trans (hb1.mono hb.size),QS.below (r:=(.ok () ⟨l,none,0,[]⟩:Res Unit)) h hb1,hb.size,hg,(fun q hq=>by cases hq),fun q h1 h2=>by cases h2⟩
 obtain⟨w1,hw1⟩:∃w1,w0.alloc (.cells #[.string ⟨#[]⟩,.int .i64 0,.slice none 0 0,.slice none 0 0] 49)=w1:=⟨_,rfl⟩;obtain⟨gf,hgf⟩:∃gf,w0.heap.size=gf:=⟨_,rfl⟩;rw[hw1,hgf]at hq0;have hn:=qword_un hq0.qs hee;have HQ:=Hd hq0;clear h hb hg hq0 hb1;go_wp2_with fail;refine hn.mono ?_;rintro e w2 ⟨v,x,rfl,hvl,t2,hs2,hv2⟩;rw[Res.bind_ok]at hs2 hv2;have hq2:=HQ.out.tch t2 hs2;have hb3:=bone w2 (.cells #[.string ⟨v.toArray⟩,.int .i64 x] 175);have hwb3:Blk (w2.alloc (.cells #[.string ⟨v.toArray⟩,.int .i64 x] 175)) w2.heap.size 175 #[.string ⟨v.toArray⟩,.int .i64 x]:=Blk.new _ _ _;have hq3:=hq2.below hb3;obtain⟨w3,hw3⟩:∃w3,w2.alloc (.cells #[.string ⟨v.toArray⟩,.int .i64 x] 175)=w3:=⟨_,rfl⟩;obtain⟨gw,hgw⟩:∃gw,w2.heap.size=gw:=⟨_,rfl⟩;rw[hw3]at hb3 hwb3 hq3;rw[hgw]at hwb3;obtain⟨p0,p1⟩:=Blk.two hwb3;have xf0:=hq3.fb.frozen 0;have x0:=(Blk.four (t:=49) hq3.fb).1;have hq4:=hq3.name_ v;obtain⟨w4,hw4⟩:∃w4,w3.setCell ⟨gf,0,none⟩ (strV v)=w4:=⟨_,rfl⟩
 have hwb4:Blk w4 gw 175 #[.string ⟨v.toArray⟩,.int .i64 x]:=by
  rw[← hw4];exact (Tch.put (S:=fun k=>k=gf) (Tch.refl w3 _) (p:=⟨gf,0,none⟩) (strV v) rfl).blk hwb3 fun e=>Blk.ne_ hwb3 hq3.fb (by decide) e
 rw[hw4]at hq4;have hw4':w3.setCell ⟨gf,0,none⟩ (.string ⟨v.toArray⟩)=w4:=hw4;obtain⟨q0,q1⟩:=Blk.two hwb4;have hlg:=qlarge_un hq4.qs (decide (64<(v.length:Int))) x;have HQ4:=Hd hq4;have HV2:=Hd hv2;clear hn hq2 hb3 hwb3 hq3 hw4 hwb4 hq4 hs2 hv2 t2;go_wp2_with fail;refine hlg.mono ?_;rintro e w5 ⟨⟨vl,rfl⟩,hrl,htl⟩;have hq5:QF w w5 gf gr en ee (.slice none 0 0) v 0 (.slice none 0 0) [] (.slice none 0 0) [] (qh1 en ee l v x):=HQ4.out.tch htl hrl;have hn:=qnum_un hq5.qs hee 1 4611686018427387904;have HQ5:=Hd hq5;clear hlg hrl htl hq5 p0 p1 xf0 x0 hw4' q0 q1 hw3 hgw;go_wp2_with fail;refine hn.mono ?_;rintro e w6 ⟨n,xn,rfl,t6,hs6,hv6,hz6⟩;have hq6:QF w w6 gf gr en ee (.slice none 0 0) v 0 (.slice none 0 0) [] (.slice none 0 0) [] (qh2 en ee l v x):=HQ5.out.tch t6 hs6;have hr6:=num_range (q:=qh1 en ee l v x) rfl hv6 hz6 (by omega) (by omega);have hlg:=qlarge_un hq6.qs (decide (64<n)) xn;have HV6:=Hd (show ∀u s,qh2 en ee l v x = .ok u s→n=u.1∧xn=u.2 from hv6);have HQ6:=Hd hq6;clear hn t6 hs6 hv6 hz6 hq6;go_wp2_with fail;refine hlg.mono ?_;rintro e w7 ⟨⟨vl,rfl⟩,hrl,htl⟩;have hq7:QF w w7 gf gr en ee (.slice none 0 0) v 0 (.slice none 0 0) [] (.slice none 0 0) [] (qh3 en ee l v x n xn):=HQ6.out.tch htl hrl;have hn:=qnum_un hq7.qs hee 1 4611686018427387904;have HQ7:=Hd hq7;clear hlg hrl htl hq7;go_wp2_with fail;refine hn.mono ?_;rintro e w8 ⟨mo,xm,rfl,t6,hs6,hv6,hz6⟩;have hq6:QF w w8 gf gr en ee (.slice none 0 0) v 0 (.slice none 0 0) [] (.slice none 0 0) [] (qh4 en ee l v x n xn):=HQ7.out.tch t6 hs6;have hr8:=num_range (q:=qh3 en ee l v x n xn) rfl hv6 hz6 (by omega) (by omega);have HV8:=Hd (show ∀u s,qh4 en ee l v x n xn = .ok u s→mo=u.1∧xm=u.2 from hv6);have HQ8:=Hd hq6;clear hn t6 hs6 hv6 hz6;have hn:=qnum_un hq6.qs hee 0 4611686018427387904;clear hq6;go_wp2_with fail;refine hn.mono ?_;rintro e w9 ⟨c,xc,rfl,t6,hs6,hv6,hz6⟩;have hq6:QF w w9 gf gr en ee (.slice none 0 0) v 0 (.slice none 0 0) [] (.slice none 0 0) [] (qh5 en ee l v x n xn):=HQ8.out.tch t6 hs6
 have hr9:=NumU.range hv6 hz6 (by omega) (by omega);have hlg:=qlarge_un hq6.qs (decide (256<c)) xc;have HV9:=Hd (show ∀u s,qh5 en ee l v x n xn = .ok u s→c=u.1∧xc=u.2 from hv6);have HQ9:=Hd hq6;clear hn t6 hs6 hv6 hz6 hq6;go_wp2_with fail;refine hlg.mono ?_;rintro e w10 ⟨⟨vl,rfl⟩,hrl,htl⟩;have hq7:QF w w10 gf gr en ee (.slice none 0 0) v 0 (.slice none 0 0) [] (.slice none 0 0) [] (qh6 en ee l v x n xn c xc):=HQ9.out.tch htl hrl;have hn:=qnum_un hq7.qs hee 1 4611686018427387904;have HQ10:=Hd hq7;clear hlg hrl htl hq7;go_wp2_with fail;refine hn.mono ?_;rintro e w11 ⟨k,xk,rfl,t6,hs6,hv6,hz6⟩;have hq6:QF w w11 gf gr en ee (.slice none 0 0) v 0 (.slice none 0 0) [] (.slice none 0 0) [] (qh7 en ee l v x n xn c xc):=HQ10.out.tch t6 hs6;have hlg:=qlarge_un hq6.qs (decide (2147483648<k)) xk;have HV11:=Hd (show ∀u s,qh7 en ee l v x n xn c xc = .ok u s→k=u.1∧xk=u.2 from hv6);have HQ11:=Hd hq6;clear hn t6 hs6 hv6 hz6 hq6;go_wp2_with fail;refine hlg.mono ?_;rintro e w12 ⟨⟨vl,rfl⟩,hrl,htl⟩;have hq7:QF w w12 gf gr en ee (.slice none 0 0) v 0 (.slice none 0 0) [] (.slice none 0 0) [] (qh8 en ee l v x n xn c xc k xk):=HQ11.out.tch htl hrl;have xf1:=hq7.fb.frozen 1;have x1:=(Blk.four (t:=49) hq7.fb).2.1;have HB:=Hd (hq7.bound k);obtain⟨hP,hR0⟩:=qhead HV2.out HV6.out HV8.out HV9.out HV11.out;obtain⟨n0,rfl⟩:∃n0:Nat,n=(n0:Int):=⟨n.toNat,by omega⟩;obtain⟨cn,rfl⟩:∃cn:Nat,c=(cn:Int):=⟨c.toNat,by omega⟩;rw[Int.toNat_natCast,Int.toNat_natCast]at hP;have HPP:=Hd hP
 have HR0:Hid (∀a s,qh8 en ee l v x (n0:Int) xn (cn:Int) xc k xk = .ok a s→s.sh = []∧s.told=0∧s.l.length≤1000):=fun a s h=>by
  obtain⟨h1,h2,h3⟩:=hR0 a s h;exact⟨h1,h2,by omega⟩
 have hb1:cn≤4611686018427387904:=by omega
 have hb2:n0≤4611686018427387904:=by omega
 clear hlg hrl htl hq7 hP hR0;go_upto_region 18 with fail
 repeat (first | (exact qread_sizes hen hE hee HB.out HR0.out HPP.out hwb hb1 hb2 hr8.1 hr8.2) | go_step | dsimp only)
end Go.Proofs.YtjpkkkphhaajgaaGreatDoor.wcp
namespace Go.Proofs.YtjpkkkphhaajgaaGreatDoor.wcp
open Go RowKit ChangeShapes WideShapes ChangeAt Maps words scn
theorem chain_uniq {bs:List UInt8}{a z z':Nat}{l l':List Wd}{bad bad':Int}(h:Chain bs a l z)(e:(bad = -1∧scn.Next bs z .none)∨∃b:Nat,bad=b∧scn.Next bs z (.bad b))(h':Chain bs a l' z')(e':(bad' = -1∧scn.Next bs z' .none)∨∃b:Nat,bad'=b∧scn.Next bs z' (.bad b)):l=l'∧bad=bad':=by
 induction h generalizing l' with
 | nil a =>
   cases h' with
   | nil =>
     refine⟨rfl,?_⟩;rcases e with⟨h1,h2⟩ | ⟨b,h1,h2⟩<;>rcases e' with⟨h3,h4⟩ | ⟨c,h3,h4⟩
     ·omega
     ·cases scn.Next.uniq h2 h4
     ·cases scn.Next.uniq h2 h4
     ·have:=scn.Next.uniq h2 h4;injection this with this;omega
   | cons h3 h4 =>
     rcases e with⟨h1,h2⟩ | ⟨b,h1,h2⟩
     ·cases scn.Next.uniq h2 h3
     ·cases scn.Next.uniq h2 h3
 | cons h1 h2 ih =>
   cases h' with
   | nil =>
     rcases e' with⟨h3,h4⟩ | ⟨b,h3,h4⟩
     ·cases scn.Next.uniq h4 h1
     ·cases scn.Next.uniq h4 h1
   | cons h3 h4 =>
     have:=scn.Next.uniq h1 h3;injection this with e1 e2
     subst e1 e2;obtain⟨rfl,rfl⟩:=ih e h4;exact⟨rfl,rfl⟩
theorem told_uniq {bs:List UInt8}{l l':List Wd}{bad bad':Int}(h:scn.Told bs l bad)(h':scn.Told bs l' bad'):l=l'∧bad=bad':=by
 obtain⟨z,h1,h2⟩:=h;obtain⟨z',h3,h4⟩:=h';exact chain_uniq h1 h2 h3 h4
theorem wrow_all {w:World}{B c:Nat}{A:Option Addr}{l:List Wd}(h:w.ownsRow B 175 2 (.slice A l.length c) l.length (l.flatMap wv))(h1:l.length≤1000000)(h2:∀x∈l,x.1.length≤1000000):WRow w (.slice A l.length c) l:=by
 refine⟨⟨h1,h2⟩,?_⟩
 cases l with
 |nil=>exact .inl ⟨rfl,A,c,rfl⟩
 | cons a l =>
   obtain⟨q,rfl,-,-⟩:=own_some h (by simp);exact .inr ⟨a::l,0,q,c,rfl,by simp,by simp,own_base h (Nat.zero_le _)⟩
set_option maxRecDepth 1000000 in
set_option maxHeartbeats 8000000 in
theorem qread_any (A:Option Addr)(cap B:Nat)(bs:List UInt8)(wb:Int)(l:List Wd)(w:World)(hn:bs.length≤1000)(ho:w.ownsRow B 5 1 (.slice A bs.length cap) bs.length (bv bs))(hT:scn.Told bs l wb) :
 Calls Tryz.prog 34 #[.slice A bs.length cap] w fun e w'=>QReadR w bs wb l e w':=by
 have hwd:=words_all A bs.length cap B bs w rfl hn ho
 have hwb:wb = -1∨0≤wb:=by
  obtain⟨z,-,⟨h,-⟩ | ⟨b,h,-⟩⟩:=hT
  ·exact .inl h
  ·exact .inr (by omega)
 have hlen:=Told.len hT;have hws:=told_words hT;have hln:decide ((65536:Int)<(bs.length:Int))=false:=decide_eq_false (by omega);have HT:=Hd hT;clear hT ho
 go_enter Tryz.func34,Tryz.ntmps34
 go_wp2_with fail;refine hwd.mono ?_;rintro e w1 ⟨l',bad',WA,wcap,rfl,hT',hrow,hb1⟩;obtain⟨rfl,rfl⟩:=told_uniq hT' HT.out;clear hwd;have hwr:=wrow_all hrow (by omega) fun x hx=>by have:=hws x hx;omega
 have hb2:=bone w1 (.cells #[.slice WA l'.length wcap,.int .i64 bs.length,.int .i64 4,.int .i64 0,.int .i64 0,.int .i64 0,.int .i64 0,.int .i64 0,.slice none 0 0] 173);have hqb:QB (w1.alloc (.cells #[.slice WA l'.length wcap,.int .i64 bs.length,.int .i64 4,.int .i64 0,.int .i64 0,.int .i64 0,.int .i64 0,.int .i64 0,.slice none 0 0] 173)) w1.heap.size (.slice WA l'.length wcap) bs.length 4 0 0 0 0 0 (.slice none 0 0):=Blk.new _ _ _;obtain⟨w2,hw2⟩:∃w2,w1.alloc (.cells #[.slice WA l'.length wcap,.int .i64 bs.length,.int .i64 4,.int .i64 0,.int .i64 0,.int .i64 0,.int .i64 0,.int .i64 0,.slice none 0 0] 173)=w2:=⟨_,rfl⟩;obtain⟨gr,hgr⟩:∃gr,w1.heap.size=gr:=⟨_,rfl⟩;rw[hw2]at hb2 hqb;rw[hgr]at hqb;have hbw:Below w.heap.size w w2:=hb1.trans (hb2.mono hb1.size);have hgw:w.heap.size≤gr:=by have:=hb1.size;omega
 have hwr2:=hwr.tch (Tch.of_below hb2 (fun _=>False)) fun _ h=>h.elim
 have HQB:=Hd hqb;have HWR:=Hd hwr2;have HBW:=Hd hbw;rcases hwb with rfl | hwb
 ·have hwi:decide ((0:Int) ≤ -1)=false:=rfl
  have HOK:Hid (Qok w2 gr (enOf bs (-1)) (eeOf (-1)) ⟨l',none,0,[]⟩ (.slice none 0 0)):=⟨_,0,0,0,hqb,hwr2,.inl ⟨rfl,rfl⟩⟩;clear hrow hwr hb2 hqb hbw hwr2 hb1 hws
  go_upto_if 34 with fail
  repeat (first | (exact qread_head rfl rfl (by decide) HOK.out HBW.out hgw (by omega) (.inl rfl)) | go_step | dsimp only)
 ·have hwi:decide ((0:Int)≤bad')=true:=decide_eq_true hwb
  obtain⟨y0,y1,y2,y3,y4,y5,y6,y7,y8,yf⟩:=QB.cells hqb;have f1:=yf 1;have f2:=yf 2
  have HOK:Hid (Qok ((w2.setCell ⟨gr,1,none⟩ (.int .i64 bad')).setCell ⟨gr,2,none⟩ (.int .i64 11)) gr (enOf bs bad') (eeOf bad') ⟨l',none,0,[]⟩ (.slice none 0 0)):=by
   refine⟨.slice WA l'.length wcap,0,0,0,?_,?_,.inl ⟨rfl,rfl⟩⟩
   ·unfold enOf eeOf
    rw[if_neg (by omega),if_neg (by omega)];exact (hqb.set_ 1 _).set_ 2 _
   ·exact hwr2.tch (((Tch.refl w2 (fun k=>k=gr)).put (p:=⟨gr,1,none⟩) (.int .i64 bad') rfl).put (p:=⟨gr,2,none⟩) (.int .i64 11) rfl) fun k hk cs hb=>by subst hk;exact Blk.ne_ hqb hb (by decide) rfl
  have HB3:Hid (Below w.heap.size w ((w2.setCell ⟨gr,1,none⟩ (.int .i64 bad')).setCell ⟨gr,2,none⟩ (.int .i64 11))) :=
   hbw.trans ((((Tch.refl w2 (fun k=>k=gr)).put (p:=⟨gr,1,none⟩) (.int .i64 bad') rfl).put (p:=⟨gr,2,none⟩) (.int .i64 11) rfl).below hbw.size fun i hi hk=>by omega)
  have hee:eeOf bad'≠0:=by unfold eeOf;rw[if_neg (by omega)];decide
  have HEE:=Hd hee;clear hrow hwr hb2 hqb hbw hwr2 hb1 hws yf hee
  go_upto_if 34 with fail
  repeat (first | (exact qread_head rfl rfl HEE.out HOK.out HB3.out hgw (by omega) (.inr hwb)) | go_step | dsimp only)
end Go.Proofs.YtjpkkkphhaajgaaGreatDoor.wcp
namespace Go.Proofs.YtjpkkkphhaajgaaGreatDoor.scn
open Go RowKit words
def Mid (bs:List UInt8)(l:List Wd):Prop := ∀ext,Far (bs++ext) bs.length l true
theorem Mid.told {bs:List UInt8}{l:List Wd}(h:Mid bs l):Told bs l (-1):=by
 have:=h [];rw[List.append_nil]at this;exact this.ends
theorem Mid.blank {bs:List UInt8}{l:List Wd}(h:Mid bs l){b:UInt8}(hb:isB b.toNat=true):Bld (bs ++ [b]) l:=by
 intro ext;have h1:=h ([b]++ext)
 have:=h1.between (by simp) (by
  unfold at_;have:=getD_mid bs [b] ext (k:=0) (by simp);rw[Nat.add_zero]at this
  rw[this];exact hb)
 rw[List.append_assoc,List.length_append];exact this
theorem Bld.mid {bs:List UInt8}{l:List Wd}(h:Bld bs l){v:List UInt8}(hv:v ≠ [])(hall:v.all (fun b=>isIn b.toNat)=true):Mid (bs++v) (l ++ [(v,bs.length)]):=by
 intro ext
 obtain⟨c,cs,rfl⟩:∃c cs,v=c::cs:=by cases v with
  |nil=>exact absurd rfl hv
  |cons c cs=>exact⟨c,cs,rfl⟩
 have hat:∀k,k<(c::cs).length→isIn (at_ (bs++((c::cs)++ext)) (bs.length+k))=true:=fun k hk=>by
  unfold at_;rw[getD_mid _ _ _ hk];rw[List.all_eq_true]at hall;refine hall _ ?_;rw[List.getD_eq_getElem?_getD,List.getElem?_eq_getElem hk];exact List.getElem_mem hk
 have h0:=h ((c::cs)++ext)
 have key:∀k,k<(c::cs).length→Far (bs++((c::cs)++ext)) (bs.length+k+1) (l ++ [((c::cs).take (k+1),bs.length)]) true:=by
  intro k
  induction k with
  | zero =>
    intro hk;have h1:=h0.begins (by simp) (hat 0 hk)
    rw[show (bs++((c::cs)++ext)).getD bs.length 0=c by
     have:=getD_mid bs (c::cs) ext (k:=0) hk;rw[Nat.add_zero]at this
     rw[this];rfl]at h1
    exact h1
  | succ k ih =>
    intro hk;obtain⟨l0,w,s,he,_,h2⟩:=(ih (by omega)).goes (by simp at hk ⊢;omega) (hat (k+1) hk);obtain⟨rfl,h3⟩:=List.append_inj' he rfl;injection h3 with h3
    injection h3 with h4 h5
    subst h4;subst h5;have h6:=getD_mid bs (c::cs) ext (k:=k+1) hk;rw[show bs.length+k+1=bs.length+(k+1) by omega,h6]at h2
    have h7:(c::cs).take (k+1) ++ [(c::cs).getD (k+1) 0]=(c::cs).take (k+1+1):=by
     rw[List.take_add_one (i:=k+1),List.getD_eq_getElem?_getD,List.getElem?_eq_getElem hk];rfl
    rw[h7]at h2;exact h2
 have h1:=key cs.length (by simp);rw[show (c::cs).take (cs.length+1)=c::cs from List.take_of_length_le (by simp)]at h1;have e1:bs++(c::cs)++ext=bs++((c::cs)++ext):=by simp
 have e2:(bs++(c::cs)).length=bs.length+cs.length+1:=by simp;omega
 rw[e1,e2];exact h1
theorem Mid.snoc {bs:List UInt8}{l:List Wd}(h:Mid bs l){v:List UInt8}(hv:v ≠ [])(hall:v.all (fun b=>isIn b.toNat)=true):Mid (bs++32::v) (l ++ [(v,bs.length+1)]):=by
 have:=(h.blank (b:=32) (by decide)).mid hv hall;rw[List.append_assoc,List.length_append]at this;exact this
theorem isD_in {b:UInt8}(h:isD b=true):isIn b.toNat=true:=by
 simp only[isD,Bool.and_eq_true,decide_eq_true_eq]at h;simp only[isIn,Bool.and_eq_true,decide_eq_true_eq];omega
theorem itoa_in (n:Int):Lib.itoa n ≠ []∧(Lib.itoa n).all (fun b=>isIn b.toNat)=true:=by
 obtain⟨_,h2,h3⟩:=dd_all n.natAbs
 have h4:(Lib.decDigits n.natAbs).all (fun b=>isIn b.toNat)=true:=by
  rw[List.all_eq_true]at h2 ⊢;exact fun b hb=>isD_in (h2 b hb)
 by_cases h:n<0
 ·have e:Lib.itoa n=45::Lib.decDigits n.natAbs:=by unfold Lib.itoa;rw[if_pos h]
  rw[e];refine⟨by simp,?_⟩;rw[List.all_cons,h4];rfl
 ·have e:Lib.itoa n=Lib.decDigits n.natAbs:=by unfold Lib.itoa;rw[if_neg h];congr 1;omega
  rw[e];exact⟨h3,h4⟩
theorem readW_small {n:Int}(h0 : -4611686018427387904≤n)(h1:n≤4611686018427387904):readW (Lib.itoa n)=(n,0):=by
 rw[readW_itoa];congr 1;omega
end Go.Proofs.YtjpkkkphhaajgaaGreatDoor.scn
