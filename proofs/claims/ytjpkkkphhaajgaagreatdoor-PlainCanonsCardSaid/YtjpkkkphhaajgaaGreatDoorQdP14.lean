/- a part -/
import Derived.Test.YtjpkkkphhaajgaaGreatDoorQdP13
set_option linter.all false
namespace Go.Proofs.YtjpkkkphhaajgaaGreatDoor.wcp
open Go RowKit ChangeShapes WideShapes ChangeAt Maps words scn
abbrev FT:=Value × Nat × Nat × Raw
def fcells (V:List FT):List Value:=V.flatMap fun p=>match p.1 with | .agg cs=>cs.toList | _ => []
def FileV (w:World)(B:Nat)(g:Nat)(f:Fil):Prop :=
 B≤g∧∃SA sc FA fc,∃V:List FT,V.map (·.2.2.2)=f.funs∧Blk w g 34 #[strV f.name,.int .i64 f.k,.slice SA f.sizes.length sc,.slice FA V.length fc] ∧
  w.ownsRow B 3 1 (.slice SA f.sizes.length sc) f.sizes.length (nums f.sizes)∧w.ownsRow B 37 2 (.slice FA V.length fc) V.length (fcells V) ∧
  (∀p∈V,FunV w (fun k=>p.2.1≤k∧k<p.2.2.1) p.1 p.2.2.2 f.k∧B≤p.2.1)∧V.Pairwise fun a b=>a.2.2.1≤b.2.1
def ReadR (w:World)(bs:List UInt8)(wb:Int)(l:List Wd)(e:Ending)(w':World):Prop :=
 Below w.heap.size w w' ∧
 match pread (enOf bs wb) (eeOf wb) l with
 | .err er x=>e = .returned (.tuple #[.pointer none,.int .i64 x,.int .i64 er])
 | .file f => ∃g,e = .returned (.tuple #[.pointer (some ⟨g,0,none⟩),.int .i64 bs.length,.int .i64 0])∧FileV w' w.heap.size g f
theorem num_range {en ee lo hi n x:Int}{β:Type}{q:Res β}{r:Res (Int × Int)}(e:r=q.bind fun _ s=>pnum en ee lo hi s)(hv:∀v s,r = .ok v s→n=v.1∧x=v.2)(hz:r.good=false→n=0)(h0:0≤lo)(h1:0≤hi):0≤n∧n≤hi:=by
 cases r with
 |bad e x=>have:=hz rfl;omega
 | ok v s =>
   obtain⟨rfl,_⟩:=hv v s rfl
   cases q with
   |bad e x=>cases e
   | ok a s0 =>
     rw[Res.bind_ok]at e;obtain⟨p1,p2,_⟩:=pnum_ok e.symm;omega
theorem pread_bad {en ee e x:Int}{l:List Wd}(h:pbody en ee ⟨l,none,0,[]⟩ = .bad e x):pread en ee l = .err e x:=by unfold pread;rw[h]
theorem pread_end {en ee:Int}{l:List Wd}{f:Fil}{s:Ps}(h:pbody en ee ⟨l,none,0,[]⟩ = .ok f s) :
 (∀w r,s.l=w::r→pread en ee l = .err 4 w.2)∧(s.l = []→(ee=11→pread en ee l = .err 11 en)∧(ee=4→(∀x,s.big=some x→pread en ee l = .err 5 x)∧(s.big=none→pread en ee l = .file f))):=by
 obtain⟨sl,sb,st,ss⟩:=s;unfold pread;rw[h];refine⟨fun w r hl=>?_,fun hl=>⟨fun he=>?_,fun he=>⟨fun x hx=>?_,fun hx=>?_⟩⟩⟩
 ·dsimp only at hl;subst hl;rfl
 ·dsimp only at hl;subst hl;dsimp only;rw[if_pos he]
 ·dsimp only at hl hx;subst hl hx;dsimp only;rw[he,if_neg (by decide)]
 ·dsimp only at hl hx;subst hl hx;dsimp only;rw[he,if_neg (by decide)]
theorem infoFn:(Tryz.prog.info? 37).map (fun i=>(i.zero,i.size,i.bytes))=some (some (.agg #[.slice none 0 0,.pointer none]),2,32):=by kernel_rfl
theorem FunV.off {w w':World}{F S:Nat→Prop}{v:Value}{f:Raw}{K:Int}(h:FunV w F v f K)(ht:Tch w w' S)(hS:∀k,S k→∃t cs,Blk w k t cs∧t≠103∧t≠3):FunV w' F v f K:=by
 obtain⟨v1,tg,rfl,⟨hv,hr⟩,hf,hg,A,c,mb,D,hb,ho,hf2,hm,hmb,hd⟩:=h
 have hoff:∀t,(t=103∨t=3)→∀k cs,Blk w k t cs→¬ S k:=fun t ht k cs hb hs=>by
  obtain⟨t',cs',h1,h2,h3⟩:=hS k hs;rcases ht with rfl | rfl
  ·exact Blk.ne_ h1 hb h2 rfl
  ·exact Blk.ne_ h1 hb h3 rfl
 have hown:∀ {v:Value} {n:Nat} {xs:List Value},w.ownsRow 0 3 1 v n xs→w'.ownsRow 0 3 1 v n xs:=fun hr=>ht.own hr fun k hk hs=>by
  obtain⟨cs,hb⟩:=own_is hr hk;exact hoff _ (.inr rfl) k cs hb hs
 refine⟨v1,tg,rfl,⟨hv,hown hr⟩,hf,hg,A,c,mb,D,ht.blk hb (hoff _ (.inl rfl) _ _ hb),hown ho,hf2,map_tch hm ht (fun hs=>?_),hmb,hd⟩;obtain⟨t',cs',h1,_⟩:=hS _ hs;obtain⟨es,clock,hh,_⟩:=hm;unfold Blk at h1;rw[h1]at hh;cases hh
theorem FunV.lim {w:World}{F:Nat→Prop}{v:Value}{f:Raw}{K:Int}(h:FunV w F v f K):FunV w (fun k=>F k∧k<w.heap.size) v f K:=by
 obtain⟨v1,tg,rfl,hr,hf,hT⟩:=h;exact⟨v1,tg,rfl,hr,fun k hk=>⟨hf k hk,(own_in hr.2 hk).2⟩,hT.lim⟩
theorem FunV.mono {w:World}{F F':Nat→Prop}{v:Value}{f:Raw}{K:Int}(h:FunV w F v f K)(hF:∀k,F k→F' k):FunV w F' v f K:=by
 obtain⟨v1,tg,rfl,hr,hf,hT⟩:=h;exact⟨v1,tg,rfl,hr,fun k hk=>hF k (hf k hk),hT.mono hF⟩
def rcells (P:List (Value × Raw)):List Value:=P.flatMap fun p=>match p.1 with | .agg cs=>cs.toList | _ => []
theorem infoRaw:(Tryz.prog.info? 155).map (fun i=>(i.zero,i.size,i.bytes))=some (some (.agg #[.slice none 0 0,.slice none 0 0,.int .i64 0,.slice none 0 0]),4,80):=by kernel_rfl
theorem rc_at {P:List (Value × Raw)}(h4:∀p∈P,∃a b c d,p.1 = .agg #[a,b,c,d]):∀ {i:Nat} {a b c d:Value} {f:Raw},P[i]?=some (.agg #[a,b,c,d],f)→(rcells P)[i*4]?=some a∧(rcells P)[i*4+1]?=some b∧(rcells P)[i*4+2]?=some c∧(rcells P)[i*4+3]?=some d:=by
 induction P with
 |nil=>intro i a b c d f h;simp at h
 | cons q P ih =>
   intro i a b c d f h;obtain⟨a',b',c',d',hq⟩:=h4 q (by simp);obtain⟨qv,qf⟩:=q;dsimp only at hq;subst hq
   cases i with
   | zero =>
     simp at h;obtain⟨⟨rfl,rfl,rfl,rfl⟩,_⟩:=h
     exact⟨rfl,rfl,rfl,rfl⟩
   | succ i =>
     have:=ih (fun p hp=>h4 p (by simp[hp])) (i:=i) (by simpa using h);rw[show (i+1)*4=i*4+1+1+1+1 by omega];exact this
theorem reads_four {w:World}{t:TypeId}{b:Nat}{x y z u:Value}(h:w.heap[b]?=some (.cells #[x,y,z,u] t (0,0))):Reads w w.heap.size 4 (some ⟨b,0,none⟩) 1 [x,y,z,u]:=by
 refine⟨rfl,fun _=>⟨_,rfl,Blk.lt h,fun j v hv=>?_⟩⟩;have e:(Addr.add ⟨b,0,none⟩ j)=⟨b,j,none⟩:=by unfold Addr.add;split<;>simp_all
 rw[e,Blk.cell h j]
 simpa using hv
theorem RS.unit {w:World}{gr gs:Nat}{bs:List UInt8}{wb:Int}{sv:Value}{α:Type}{r:Res α}{f:Ps→Ps}(h:RS w gr gs bs wb sv (r.bind fun a s => .ok a (f s))):RS w gr gs bs wb sv (r.bind fun _ s=>(.ok () (f s):Res Unit)):=by
 cases r with
 |ok a s=>exact h
 |bad e x=>exact h
theorem file_step {w7 wr wl w9 w10:World}{g:Nat}{V:List FT}{FB A10:Option Addr}{fd c10:Nat}{va vb vc v1:Value}{tg:Nat}{pf:Raw}{K:Int}
 (hvf:∀p∈V,FunV wr (fun k=>p.2.1≤k∧k<p.2.2.1) p.1 p.2.2.2 K∧g+1≤p.2.1∧p.2.2.1≤wr.heap.size) (hpw:V.Pairwise fun a b=>a.2.2.1≤b.2.1) (hty:Tch w7 wr (fun q=>q=g)) (hg7:w7.heap.size=g+1)
 (hbl:Below wr.heap.size wr wl) (hb9:Below wl.heap.size wl w9) (hfv:FunV w9 (fun k=>wl.heap.size≤k) (.agg #[v1,.pointer (some ⟨tg,0,none⟩)]) pf K)
 (hA:(w9.alloc (.cells #[v1,.pointer (some ⟨tg,0,none⟩)] 37)).ownsRow (g+1) 37 2 (.slice FB V.length fd) V.length (fcells V))
 (hGA:Blk (w9.alloc (.cells #[v1,.pointer (some ⟨tg,0,none⟩)] 37)) g 34 #[va,vb,vc,.slice FB V.length fd])
 (ho:w10.ownsRow (g+1) 37 2 (.slice A10 (V.length+1) c10) (V.length+1) (fcells V ++ [v1,.pointer (some ⟨tg,0,none⟩)]))
 (hg:(w9.alloc (.cells #[v1,.pointer (some ⟨tg,0,none⟩)] 37)).grownBy w10 (Value.slice FB V.length fd).ownBlock) (hls:g<wl.heap.size) :
 Blk (w10.setCell ⟨g,3,none⟩ (.slice A10 (V.length+1) c10)) g 34 #[va,vb,vc,.slice A10 (V ++ [((.agg #[v1,.pointer (some ⟨tg,0,none⟩)],wl.heap.size,w9.heap.size,pf):FT)]).length c10] ∧
 (w10.setCell ⟨g,3,none⟩ (.slice A10 (V.length+1) c10)).ownsRow (g+1) 37 2 (.slice A10 (V ++ [((.agg #[v1,.pointer (some ⟨tg,0,none⟩)],wl.heap.size,w9.heap.size,pf):FT)]).length c10) (V ++ [((.agg #[v1,.pointer (some ⟨tg,0,none⟩)],wl.heap.size,w9.heap.size,pf):FT)]).length (fcells (V ++ [((.agg #[v1,.pointer (some ⟨tg,0,none⟩)],wl.heap.size,w9.heap.size,pf):FT)])) ∧
 (∀p∈V ++ [((.agg #[v1,.pointer (some ⟨tg,0,none⟩)],wl.heap.size,w9.heap.size,pf):FT)],FunV (w10.setCell ⟨g,3,none⟩ (.slice A10 (V.length+1) c10)) (fun k=>p.2.1≤k∧k<p.2.2.1) p.1 p.2.2.2 K∧g+1≤p.2.1∧p.2.2.1≤(w10.setCell ⟨g,3,none⟩ (.slice A10 (V.length+1) c10)).heap.size) ∧
 ((V ++ [((.agg #[v1,.pointer (some ⟨tg,0,none⟩)],wl.heap.size,w9.heap.size,pf):FT)]).Pairwise fun a b=>a.2.2.1≤b.2.1)∧Tch w7 (w10.setCell ⟨g,3,none⟩ (.slice A10 (V.length+1) c10)) (fun q=>q=g):=by
 have hgw10:=hGA.grown hg (fun e=>by obtain⟨cs,hb⟩:=own_is hA e.symm;exact Blk.ne_ hGA hb (by decide) rfl);have hl2:(V ++ [((Value.agg #[v1,.pointer (some ⟨tg,0,none⟩)],wl.heap.size,w9.heap.size,pf):FT)]).length=V.length+1:=by simp
 have Ta:Tch wr (w9.alloc (.cells #[v1,.pointer (some ⟨tg,0,none⟩)] 37)) (fun _=>False):=((Tch.of_below hbl (fun _=>False)).trans (Tch.of_below hb9 (fun _=>False)) fun _ _ h=>h).trans (Tch.of_below (bone w9 _) (fun _=>False)) fun _ _ h=>h
 have Tb:=Tch.of_grown hg (S:=fun q=>some q=(Value.slice FB V.length fd).ownBlock) fun q _ hq=>hq
 have Tc:Tch w10 (w10.setCell ⟨g,3,none⟩ (.slice A10 (V.length+1) c10)) (fun q=>q=g):=Tch.put (S:=fun q=>q=g) (Tch.refl w10 _) (p:=⟨g,3,none⟩) _ rfl
 have hS1:∀q,some q=(Value.slice FB V.length fd).ownBlock→∃t cs,Blk (w9.alloc (.cells #[v1,.pointer (some ⟨tg,0,none⟩)] 37)) q t cs∧t≠103∧t≠3:=fun q hq=>by
  obtain⟨cs,hb⟩:=own_is hA hq.symm;exact⟨_,cs,hb,by decide,by decide⟩
 have hS2:∀q,q=g→∃t cs,Blk w10 q t cs∧t≠103∧t≠3:=fun q hq=>by subst hq;exact⟨_,_,hgw10,by decide,by decide⟩
 have hfin:∀ {F:Nat→Prop} {v:Value} {f:Raw},FunV (w9.alloc (.cells #[v1,.pointer (some ⟨tg,0,none⟩)] 37)) F v f K→FunV (w10.setCell ⟨g,3,none⟩ (.slice A10 (V.length+1) c10)) F v f K:=fun h=>(h.off Tb hS1).off Tc hS2
 have hsz1:w9.heap.size≤w10.heap.size:=by have:=hg.size;simp at this;omega
 have hsz2:(w10.setCell ⟨g,3,none⟩ (.slice A10 (V.length+1) c10)).heap.size=w10.heap.size:=by simp[World.setCell]
 have hsz3:=hbl.size;have hsz4:=hb9.size;refine⟨?_,?_,fun p hp=>?_,?_,?_⟩
 ·rw[hl2];exact hgw10.set_ 3 _
 ·rw[hl2,show fcells (V ++ [((Value.agg #[v1,.pointer (some ⟨tg,0,none⟩)],wl.heap.size,w9.heap.size,pf):FT)])=fcells V ++ [v1,.pointer (some ⟨tg,0,none⟩)] by simp[fcells]]
  exact own_off ho Tc (off_below fun q hq=>by omega)
 ·rcases List.mem_append.1 hp with hp | hp
  ·obtain⟨g1,g2,g3⟩:=hvf p hp
   exact⟨hfin (g1.off Ta fun q h=>h.elim),g2,by omega⟩
  ·rw[List.mem_singleton.1 hp]
   refine⟨hfin ((hfv.lim).off (Tch.of_below (bone w9 _) (fun _=>False)) fun q h=>h.elim),?_,?_⟩
   ·dsimp only;omega
   ·dsimp only;omega
 ·rw[List.pairwise_append]
  refine⟨hpw,List.pairwise_singleton _ _,fun a ha b hb=>?_⟩;rw[List.mem_singleton.1 hb];have:=(hvf a ha).2.2;dsimp only;omega
 ·exact ((hty.trans Ta fun _ _ h=>h.elim).trans Tb fun q hq h=>by have:=(own_in hA h.symm).1;omega).trans Tc fun _ _ h=>h
set_option maxRecDepth 100000 in
set_option maxHeartbeats 8000000 in
theorem read_any (A:Option Addr)(n cap:Nat)(bs:List UInt8)(wb:Int)(l:List Wd)(w:World)(hn:bs.length=n)(hr:Reads w w.heap.size 1 A n (bv bs))(hl:n≤65536)(hT:scn.Told bs l wb)(ht:Tab w) :
 Calls Tryz.prog 31 #[.slice A n cap] w fun e w'=>ReadR w bs wb l e w':=by
 obtain⟨i6,h60,h61,h62,h63⟩:=info_parts info64;obtain⟨iR,r0,r1,r2,r3⟩:=info_parts infoRaw;obtain⟨iF,f0,f1,f2,f3⟩:=info_parts infoFn;have hnew:=new_any A n cap bs w (by omega) hr;have hl0:Lf bs 0 l wb:=⟨Nat.zero_le _,hT⟩;have HL0:=Hd hl0;have HTAB:=Hd ht;have hG:=ht.lt;subst hn;clear hr hT ht hl0
 go_enter Tryz.func31,Tryz.ntmps31
 go_wp2_with fail;refine hnew.mono ?_;rintro e w1 ⟨gs,rfl,hs1,hg1,hb1⟩;clear hnew;go_wp2_with fail;have hrd:RdB (w1.alloc (.cells #[.pointer (some ⟨gs,0,none⟩),.int .i64 0,.int .i64 0,.int .i64 0,.int .i64 0,.int .i64 0,.slice none 0 0] 146)) w1.heap.size gs 0 0 0 0 0 (.slice none 0 0):=Blk.new _ _ _;have hsc:=hs1.tch (Tch.of_below (bone w1 (.cells #[.pointer (some ⟨gs,0,none⟩),.int .i64 0,.int .i64 0,.int .i64 0,.int .i64 0,.int .i64 0,.slice none 0 0] 146)) (fun _=>False)) id (fun _ _ h=>h.elim);have hgsl:gs<w1.heap.size:=by obtain⟨_,_,hh,_⟩:=hs1;exact Blk.lt hh
 have hB0:=bto hb1 (bone w1 (.cells #[.pointer (some ⟨gs,0,none⟩),.int .i64 0,.int .i64 0,.int .i64 0,.int .i64 0,.int .i64 0,.slice none 0 0] 146));obtain⟨w0,hw0⟩:∃w0,w1.alloc (.cells #[.pointer (some ⟨gs,0,none⟩),.int .i64 0,.int .i64 0,.int .i64 0,.int .i64 0,.int .i64 0,.slice none 0 0] 146)=w0:=⟨_,rfl⟩;obtain⟨gr,hgr⟩:∃gr,w1.heap.size=gr:=⟨_,rfl⟩;have hw0s:w0.heap.size=gr+1:=by rw[← hw0,← hgr];simp
 have hgw:w.heap.size≤gr:=by have:=hb1.size;omega
 rw[hw0,hgr]at hrd;rw[hw0]at hsc hB0 ⊢;rw[hgr]at hgsl ⊢;have hne:gr≠gs:=by omega
 obtain⟨en,hen⟩:∃en,enOf bs wb=en:=⟨_,rfl⟩;obtain⟨ee,hee⟩:∃ee,eeOf wb=ee:=⟨_,rfl⟩;have hrk:Rok w0 gr gs bs wb ⟨l,none,0,[]⟩ (.slice none 0 0):=⟨0,0,0,0,hrd,hsc,HL0.out,.inl ⟨rfl,rfl⟩⟩;have hll:l.length≤bs.length:=hrk.left;have hword:=rword_any hrk hne (by omega);have HB0:=Hd hB0;have HW0S:=Hd hw0s;clear hrd hsc hB0 hw0 hgr hs1 hb1 hrk hw0s;refine hword.mono ?_;rintro e w2 ⟨name,x1,rfl,hnl,ht2,hm2⟩;clear hword;obtain⟨R1,hR1⟩:∃R1,pword (enOf bs wb) (eeOf wb) (⟨l,none,0,[]⟩:Ps)=R1:=⟨_,rfl⟩
 have hrs2:RS w2 gr gs bs wb (.slice none 0 0) R1∧∀v s,R1 = .ok v s→name=v.1∧x1=v.2:=by
  rw[← hR1]
  cases hp:pword (enOf bs wb) (eeOf wb) (⟨l,none,0,[]⟩:Ps) with
  |ok v s=>rw[hp]at hm2;exact⟨hm2.2.2,fun v' s' he=>by injection he with he _;rw[← he];exact⟨hm2.1,hm2.2.1⟩⟩
  |bad e x=>rw[hp]at hm2;exact⟨hm2,fun v' s' he=>by cases he⟩
 obtain⟨hrs2,hv1⟩:=hrs2;have HR1:=Hd hR1.symm;have HV1:=Hd hv1;have HT2:=Hd ht2;have hlg:=large_un hrs2 hne (decide ((name.length:Int)>64)) x1;clear hrs2 hv1 ht2 hm2 hR1;go_wp2_with fail;refine hlg.mono ?_;rintro e w3 ⟨⟨v3,rfl⟩,hrs3,ht3⟩;clear hlg;have HT3:=Hd (HT2.out.trans (ht3.mono (S':=fun k=>k=gr∨k=gs) fun k _ h=>Or.inl h) fun _ _ h=>h);have hrs3:RS w3 gr gs bs wb (.slice none 0 0) (R1.bind fun _ s=>(.ok () (plarge (decide ((name.length:Int)>64)) x1 s):Res Unit)):=RS.unit hrs3;clear ht3;have hnum:=rnum_un hrs3 hne (by omega) 1 4611686018427387904;clear hrs3;go_wp2_with fail;refine hnum.mono ?_;rintro e wn2 ⟨N,x2,rfl,htn2,hrsn2,hvn2,hzn2⟩;clear hnum;obtain⟨R2,hR2⟩:∃R,((R1.bind fun _ s=>(.ok () (plarge (decide ((name.length:Int)>64)) x1 s):Res Unit)).bind fun _ s=>pnum (enOf bs wb) (eeOf wb) 1 4611686018427387904 s)=R:=⟨_,rfl⟩;rw[hR2]at hrsn2 hvn2 hzn2;have HR2:=Hd hR2.symm;have HV2:=Hd hvn2;have HZ2:=Hd hzn2;have HTN2:=Hd (HT3.out.trans htn2 fun _ _ h=>h);clear hR2 hvn2 hzn2 htn2;have hlg:=large_un hrsn2 hne (decide (N>64)) x2;clear hrsn2;go_wp2_with fail;refine hlg.mono ?_;rintro e wl2 ⟨⟨vl2,rfl⟩,hrl2,htl2⟩;clear hlg;have HTL2:=Hd (HTN2.out.trans (htl2.mono (S':=fun k=>k=gr∨k=gs) fun k _ h=>Or.inl h) fun _ _ h=>h);have hrl2:RS wl2 gr gs bs wb (.slice none 0 0) (R2.bind fun _ s=>(.ok () (plarge (decide (N>64)) x2 s):Res Unit)):=RS.unit hrl2;clear htl2;have hnum:=rnum_un hrl2 hne (by omega) 1 4611686018427387904;clear hrl2;go_wp2_with fail;refine hnum.mono ?_;rintro e wn3 ⟨most,x3,rfl,htn3,hrsn3,hvn3,hzn3⟩;clear hnum;obtain⟨R3,hR3⟩:∃R,((R2.bind fun _ s=>(.ok () (plarge (decide (N>64)) x2 s):Res Unit)).bind fun _ s=>pnum (enOf bs wb) (eeOf wb) 1 4611686018427387904 s)=R:=⟨_,rfl⟩;rw[hR3]at hrsn3 hvn3 hzn3;have HR3:=Hd hR3.symm;have HV3:=Hd hvn3;have HZ3:=Hd hzn3;have HTN3:=Hd (HTL2.out.trans htn3 fun _ _ h=>h)
 clear hR3 hvn3 hzn3 htn3;have hnum:=rnum_un hrsn3 hne (by omega) 0 4611686018427387904;clear hrsn3;go_wp2_with fail;refine hnum.mono ?_;rintro e wn4 ⟨count,x4,rfl,htn4,hrsn4,hvn4,hzn4⟩;clear hnum;obtain⟨R4,hR4⟩:∃R,(R3.bind fun _ s=>pnum (enOf bs wb) (eeOf wb) 0 4611686018427387904 s)=R:=⟨_,rfl⟩;rw[hR4]at hrsn4 hvn4 hzn4;have HR4:=Hd hR4.symm;have HV4:=Hd hvn4;have HZ4:=Hd hzn4;have HTN4:=Hd (HTN3.out.trans htn4 fun _ _ h=>h);clear hR4 hvn4 hzn4 htn4;have hlg:=large_un hrsn4 hne (decide (count>256)) x4;clear hrsn4;go_wp2_with fail;refine hlg.mono ?_;rintro e wl4 ⟨⟨vl4,rfl⟩,hrl4,htl4⟩;clear hlg;have HTL4:=Hd (HTN4.out.trans (htl4.mono (S':=fun k=>k=gr∨k=gs) fun k _ h=>Or.inl h) fun _ _ h=>h);have hrl4:RS wl4 gr gs bs wb (.slice none 0 0) (R4.bind fun _ s=>(.ok () (plarge (decide (count>256)) x4 s):Res Unit)):=RS.unit hrl4;clear htl4;have hnum:=rnum_un hrl4 hne (by omega) 1 4611686018427387904;clear hrl4;go_wp2_with fail;refine hnum.mono ?_;rintro e wn5 ⟨K,x5,rfl,htn5,hrsn5,hvn5,hzn5⟩;clear hnum;obtain⟨R5,hR5⟩:∃R,((R4.bind fun _ s=>(.ok () (plarge (decide (count>256)) x4 s):Res Unit)).bind fun _ s=>pnum (enOf bs wb) (eeOf wb) 1 4611686018427387904 s)=R:=⟨_,rfl⟩;rw[hR5]at hrsn5 hvn5 hzn5;have HR5:=Hd hR5.symm;have HV5:=Hd hvn5;have HZ5:=Hd hzn5;have HTN5:=Hd (HTL4.out.trans htn5 fun _ _ h=>h);clear hR5 hvn5 hzn5 htn5;have hlg:=large_un hrsn5 hne (decide (K>2147483648)) x5;clear hrsn5;go_wp2_with fail;refine hlg.mono ?_;rintro e wl5 ⟨⟨vl5,rfl⟩,hrl5,htl5⟩;clear hlg;have HTL5:=Hd (HTN5.out.trans (htl5.mono (S':=fun k=>k=gr∨k=gs) fun k _ h=>Or.inl h) fun _ _ h=>h);have hrl5:RS wl5 gr gs bs wb (.slice none 0 0) (R5.bind fun _ s=>(.ok () (plarge (decide (K>2147483648)) x5 s):Res Unit)):=RS.unit hrl5;clear htl5;obtain⟨R6,hR6⟩:∃R6,(R5.bind fun _ s=>(.ok () (plarge (decide (K>2147483648)) x5 s):Res Unit))=R6:=⟨_,rfl⟩;rw[hR6]at hrl5
 have hbody:=pbody_chain (en:=enOf bs wb) (ee:=eeOf wb) (name:=name) (s0:=⟨l,none,0,[]⟩) HR1.out HV1.out HR2.out HV2.out HR3.out HV3.out HR4.out HV4.out HR5.out HV5.out;rw[hR6]at hbody;have HBODY:=Hd hbody
 have h6:∀u s,R6 = .ok u s→(1≤N∧N≤far)∧(1≤most∧most≤far)∧(0≤count∧count≤far)∧(1≤K∧K≤far)∧s.told=0∧s.sh = []∧s.l.length≤l.length∧(s.big=none→(name.length:Int)≤64∧N≤64∧count≤256∧K≤2147483648):=fun u s he =>
  head_ok (en:=enOf bs wb) (ee:=eeOf wb) (s0:=⟨l,none,0,[]⟩) HR1.out HR2.out HV2.out HR3.out HV3.out HR4.out HV4.out HR5.out HV5.out (hR6.trans he)
 obtain⟨hN0,hN1⟩:=num_range HR2.out HV2.out HZ2.out (by omega) (by omega);obtain⟨hC0,hC1⟩:=num_range HR4.out HV4.out HZ4.out (by omega) (by omega);have H6:=Hd h6;clear hR6 hbody h6;obtain⟨k,rfl⟩:∃k:Nat,N=(k:Int):=⟨N.toNat,by omega⟩;obtain⟨cn,rfl⟩:∃cn:Nat,count=(cn:Int):=⟨count.toNat,by omega⟩;have HT0:=HTL5;have hbody:=HBODY.out;rw[Int.toNat_natCast,Int.toNat_natCast]at hbody;have HBODY:=Hd hbody;have HRS0:=Hd hrl5;clear hbody hrl5;go_wp2_with fail;have hst:RS wl5 gr gs bs wb (.slice none 0 0) (R6.bind fun _ s=>psizes (enOf bs wb) (eeOf wb) most 0 [] s):=HRS0.out.same (fun a s e=>by rw[e];exact⟨_,rfl⟩) fun e x h=>by rw[h];rfl
 have HW:=HW0S.out;have hsz0:gr+1≤wl5.heap.size:=by have:=HT0.out.size;omega
 go_loopw [13,14,15,16] (fun ov iv _ _ wr => ∃ (i:Nat) (out:List Int) (A':Option Addr) (c':Nat),iv = .int .i64 i∧i≤k∧ov = .slice A' out.length c'∧out.length=i∧wr.ownsRow (gr+1) 2 1 (.slice A' out.length c') out.length (nums out)∧RS wr gr gs bs wb (.slice none 0 0) (R6.bind fun _ s=>psizes (enOf bs wb) (eeOf wb) most i [] s)∧(∀o s',(R6.bind fun _ s=>psizes (enOf bs wb) (eeOf wb) most i [] s) = .ok o s'→o=out)∧Tch w0 wr (fun q=>q=gr∨q=gs)) (fun _ iv _ _ _=>k-(intOf iv).toNat)
 case atStart=>exact⟨0,[],none,0,rfl,Nat.zero_le _,rfl,rfl,World.ownsRow_nil _ _ _ _,hst,fun o s' he=>by
  cases R6 with
  |bad e x=>cases he
  |ok u s=>injection he with he _;exact he.symm,HT0.out⟩
 case round =>
  clear hst hsz0;obtain⟨i,out,A',c',rfl,hik,rfl,hol,ho,hrs,hout,ht⟩:=hrel;by_cases hlt:i<k
  ·have hltI:decide ((i:Int)<(k:Int))=true:=decide_eq_true (by omega)
   cases hp:(R6.bind fun _ s=>psizes (enOf bs wb) (eeOf wb) most i [] s) with
   | bad er at_ =>
     rw[hp]at hrs;have hok:=ok_un hrs;have hbad:Rbad wr gr gs er at_ (.slice none 0 0):=hrs;rw[show (Res.bad er at_:Res (List Int)).good=false from rfl]at hok
     have HERR:Hid (pread (enOf bs wb) (eeOf wb) l = .err er at_):=by
      refine pread_bad ?_;rw[HBODY.out]
      cases R6 with
      |bad e x=>exact (show (Res.bad e x:Res Fil) = .bad er at_ by rw[Res.bind_bad]at hp;injection hp with h1 h2;rw[h1,h2])
      | ok u s =>
        rw[Res.bind_ok]at hp ⊢;rw[psizes_bad hp k hik];rfl
     have HBQ:Hid (Below w.heap.size w wr):=HB0.out.trans (ht.below HB0.out.size fun q hq h=>by omega);clear hrs hout ht ho hp hol;go_wp2_with fail;refine hok.mono ?_;rintro e w4 ⟨rfl,rfl⟩;clear hok;obtain⟨wo,rfl⟩:∃wo:World,wo=wr:=⟨_,rfl⟩;go_wp2_with fail
     go_loopw [17,18] (fun fv jv wy=>fv = .slice none 0 0∧jv = .int .i64 0∧wo=wy) (fun _ _ _=>0)
     case atStart=>exact⟨rfl,rfl,rfl⟩
     case round =>
      obtain⟨rfl,rfl,rfl⟩:=hrel;by_cases hc0:0<(cn:Int)
      ·have hcI:decide (0<(cn:Int))=true:=decide_eq_true hc0
       obtain⟨big,bigAt,told,hrx,hex⟩:=hbad;have hok:=ok_any hrx;rw[decide_eq_false hex]at hok;have hbad:Rbad wo gr gs er at_ (.slice none 0 0):=⟨big,bigAt,told,hrx,hex⟩;clear hrx hex;go_wp2_with fail;refine hok.mono ?_;rintro e w3 ⟨rfl,rfl⟩;clear hok;obtain⟨big,bigAt,told,hrx,hex⟩:=hbad;have hok:=ok_any hrx;rw[decide_eq_false hex]at hok;obtain⟨y0,y1,y2,y3,y4,y5,y6,yf⟩:=RdB.cells hrx;have hneb:(er != 0)=true:=by first | rfl | simp[hex]
       clear hrx hex yf;go_wp2_with fail;refine hok.mono ?_;rintro e w3 ⟨rfl,rfl⟩;clear hok;go_wp2_with fail
       go_quiet (fail)
       go_wp2_with fail
       go_ret3
       refine⟨below_drewN HBQ.out _,?_⟩;rw[HERR.out]
       all_goals rfl
      ·have hcI:decide (0<(cn:Int))=false:=decide_eq_false hc0
       obtain⟨big,bigAt,told,hrx,hex⟩:=hbad;have hok:=ok_any hrx;rw[decide_eq_false hex]at hok;obtain⟨y0,y1,y2,y3,y4,y5,y6,yf⟩:=RdB.cells hrx;have hneb:(er != 0)=true:=by first | rfl | simp[hex]
       clear hrx hex yf;go_wp2_with fail;refine hok.mono ?_;rintro e w3 ⟨rfl,rfl⟩;clear hok;go_wp2_with fail
       go_quiet (fail)
       go_wp2_with fail
       go_ret3
       refine⟨below_drewN HBQ.out _,?_⟩;rw[HERR.out]
       all_goals rfl
   | ok o s4 =>
     obtain rfl:=hout o s4 hp;rw[hp]at hrs;have hok:=ok_un hrs;rw[show (Res.ok o s4:Res (List Int)).good=true from rfl]at hok
     have hib:i≤65536:=by
      cases R6 with
      |bad e x=>cases hp
      | ok u s =>
        rw[Res.bind_ok]at hp;have h1:=(psizes_ok i hp).2.2.2.2;have h2:=(H6.out u s rfl).2.2.2.2.2.2.1;omega
     have hnum:=rnum_un hrs hne (by omega) 1 most;have HP:=Hd hp;have HO:=Hd ho;have HT:=Hd ht;have HOL:=Hd hol;have hol2:o.length≤65536:=by omega
     clear hrs hout ht ho hp hol;go_wp2_with fail;refine hok.mono ?_;rintro e w4 ⟨rfl,rfl⟩;clear hok;go_wp2_with fail;refine hnum.mono ?_;rintro e w5 ⟨v,x,rfl,ht5,hrs5,hv5,-⟩;clear hnum;rw[Res.bind_ok]at hrs5 hv5;have HT5:=Hd (HT.out.trans ht5 fun _ _ h=>h);have HO5:=Hd (own_off HO.out ht5 (off_below fun q hq=>by omega));have hlg:=large_un hrs5 hne (decide (v>32)) x;have HV5:=Hd hv5;clear ht5 hrs5 hv5;go_wp2_with fail;refine hlg.mono ?_;rintro e wz ⟨⟨vv,rfl⟩,hrs6,ht6⟩;clear hlg;have TZ:=Hd (HT5.out.trans (ht6.mono (S':=fun q=>q=gr∨q=gs) fun q _ h=>Or.inl h) fun _ _ h=>h);have oz:=own_off HO5.out ht6 (off_below fun q hq=>by omega);have HRS6:=Hd hrs6;have hA1:=oz.alloc (.cells #[.int .i64 v] 2);have hr1:Reads (wz.alloc (.cells #[.int .i64 v] 2)) (wz.alloc (.cells #[.int .i64 v] 2)).heap.size 1 (some ⟨wz.heap.size,0,none⟩) 1 (nums [v]):=reads_block (t:=2) (heap_alloc_new _ _) rfl;have hsz:gr+1≤(wz.alloc (.cells #[.int .i64 v] 2)).heap.size:=by have:=TZ.out.size;simp;omega
     have OZ:=Hd hA1;clear oz hrs6 ht6
     go_wp2_with (first
      |(at_builtin;refine wpList_append_any _ rfl (.tmp 98) (.tmp 100) _ rfl (gr+1) 2 i6 _ 1 8 Tryz.underlying46 h60 h61 h62 h63 rfl (by omega) (.slice A' o.length c') o.length _ rfl hA1 (wz.alloc (.cells #[.int .i64 v] 2)).heap.size (some ⟨wz.heap.size,0,none⟩) 1 1 (nums [v]) rfl hr1 nums_one (by simp only[maxLen];omega) (by omega) hsz ?_;intro v6 w6 hown6 hg6 hat6;clear hat6;obtain⟨A6,c6,rfl⟩:=own_shape hown6;have HO6:=Hd hown6;have HG6:Hid ((wz.alloc (.cells #[.int .i64 v] 2)).grownBy w6 (Value.slice A' o.length c').ownBlock):=hg6;clear hown6 hg6 hA1 hr1)
      |fail)
     go_roundw
     case measure=>simp[intOf];omega
     case rel =>
      have hl2:(o ++ [v]).length=o.length+1:=by simp
      have hstep:(R6.bind fun _ s=>psizes (enOf bs wb) (eeOf wb) most (i+1) [] s)=(pnum (enOf bs wb) (eeOf wb) 1 most s4).bind fun v s => .ok (o ++ [v.1]) (plarge (decide (v.1>32)) v.2 s):=by
       have h1:=HP.out
       cases R6 with
       |bad e x=>cases h1
       | ok u s =>
         rw[Res.bind_ok]at h1 ⊢;rw[psizes_snoc,h1];rfl
      refine⟨i+1,o ++ [v],A6,c6,by go_num,by omega,by rw[hl2],by rw[hl2,HOL.out],?_,?_,fun o' s' he=>?_,?_⟩
      ·rw[hl2,show nums (o ++ [v])=nums o++nums [v] by simp[nums]];exact HO6.out
      ·rw[hstep]
       have h2:=(HRS6.out.below (bone wz (.cells #[.int .i64 v] 2))).grown OZ.out HG6.out (by decide) (Nat.lt_succ_self _) (by omega);refine h2.same (fun a s e=>?_) fun e x h=>?_
       ·cases hq:pnum (enOf bs wb) (eeOf wb) 1 most s4 with
        |bad e1 x1=>rw[hq]at e;cases e
        | ok v1 s1 =>
          obtain⟨r1,r2⟩:=HV5.out v1 s1 hq;rw[hq,Res.bind_ok]at e;injection e with _ e
          rw[Res.bind_ok,← r1,← r2,e];exact⟨_,rfl⟩
       ·cases hq:pnum (enOf bs wb) (eeOf wb) 1 most s4 with
        |bad e1 x1=>rw[hq]at h;injection h with q1 q2;rw[q1,q2];rfl
        |ok v1 s1=>rw[hq]at h;cases h
      ·rw[hstep]at he
       cases hq:pnum (enOf bs wb) (eeOf wb) 1 most s4 with
       |bad e1 x1=>rw[hq]at he;cases he
       | ok v1 s1 =>
         obtain⟨r1,r2⟩:=HV5.out v1 s1 hq;rw[hq,Res.bind_ok]at he;injection he with he _
         rw[← he,r1]
      ·exact (TZ.out.trans (Tch.of_below (bone wz _) (fun _=>False)) fun _ _ h=>h.elim).trans (Tch.of_grown HG6.out (S:=fun q=>some q=(Value.slice A' o.length c').ownBlock) fun q _ hq=>hq) fun q hq h=>by have:=(own_in OZ.out h.symm).1;have:=HW0S.out;omega
  ·obtain rfl:i=k:=by omega
   have hltI:decide ((i:Int)<(i:Int))=false:=decide_eq_false (by omega)
   cases hp:(R6.bind fun _ s=>psizes (enOf bs wb) (eeOf wb) most i [] s) with
   | bad er at_ =>
     rw[hp]at hrs;have hbad:Rbad wr gr gs er at_ (.slice none 0 0):=hrs
     have HERR:Hid (pread (enOf bs wb) (eeOf wb) l = .err er at_):=by
      refine pread_bad ?_;rw[HBODY.out]
      cases R6 with
      |bad e x=>exact (show (Res.bad e x:Res Fil) = .bad er at_ by rw[Res.bind_bad]at hp;injection hp with h1 h2;rw[h1,h2])
      | ok u s =>
        rw[Res.bind_ok]at hp ⊢;rw[hp];rfl
     have HBQ:Hid (Below w.heap.size w wr):=HB0.out.trans (ht.below HB0.out.size fun q hq h=>by omega);clear hrs hout ht ho hp hol;obtain⟨wo,rfl⟩:∃wo:World,wo=wr:=⟨_,rfl⟩;go_wp2_with fail
     go_loopw [17,18] (fun fv jv wy=>fv = .slice none 0 0∧jv = .int .i64 0∧wo=wy) (fun _ _ _=>0)
     case atStart=>exact⟨rfl,rfl,rfl⟩
     case round =>
      obtain⟨rfl,rfl,rfl⟩:=hrel;by_cases hc0:0<(cn:Int)
      ·have hcI:decide (0<(cn:Int))=true:=decide_eq_true hc0
       obtain⟨big,bigAt,told,hrx,hex⟩:=hbad;have hok:=ok_any hrx;rw[decide_eq_false hex]at hok;have hbad:Rbad wo gr gs er at_ (.slice none 0 0):=⟨big,bigAt,told,hrx,hex⟩;clear hrx hex;go_wp2_with fail;refine hok.mono ?_;rintro e w3 ⟨rfl,rfl⟩;clear hok;obtain⟨big,bigAt,told,hrx,hex⟩:=hbad;have hok:=ok_any hrx;rw[decide_eq_false hex]at hok;obtain⟨y0,y1,y2,y3,y4,y5,y6,yf⟩:=RdB.cells hrx;have hneb:(er != 0)=true:=by first | rfl | simp[hex]
       clear hrx hex yf;go_wp2_with fail;refine hok.mono ?_;rintro e w3 ⟨rfl,rfl⟩;clear hok;go_wp2_with fail
       go_quiet (fail)
       go_wp2_with fail
       go_ret3
       refine⟨below_drewN HBQ.out _,?_⟩;rw[HERR.out]
       all_goals rfl
      ·have hcI:decide (0<(cn:Int))=false:=decide_eq_false hc0
       obtain⟨big,bigAt,told,hrx,hex⟩:=hbad;have hok:=ok_any hrx;rw[decide_eq_false hex]at hok;obtain⟨y0,y1,y2,y3,y4,y5,y6,yf⟩:=RdB.cells hrx;have hneb:(er != 0)=true:=by first | rfl | simp[hex]
       clear hrx hex yf;go_wp2_with fail;refine hok.mono ?_;rintro e w3 ⟨rfl,rfl⟩;clear hok;go_wp2_with fail
       go_quiet (fail)
       go_wp2_with fail
       go_ret3
       refine⟨below_drewN HBQ.out _,?_⟩;rw[HERR.out]
       all_goals rfl
   | ok o s6 =>
     obtain rfl:=hout o s6 hp;rw[hp]at hrs
     obtain⟨hlen,hrng,htold,hsh6,hl6,hK1,hb6,HB7⟩:o.length=i∧(∀v∈o,1≤v∧v≤4611686018427387904)∧s6.told=0∧s6.sh = []∧s6.l.length+i≤l.length∧1≤K∧(s6.big=none→(name.length:Int)≤64∧(i:Int)≤64∧(cn:Int)≤256∧K≤2147483648∧∀v∈o,v≤32)∧Hid (pbody (enOf bs wb) (eeOf wb) ⟨l,none,0,[]⟩=(pfuns (enOf bs wb) (eeOf wb) o cn [] s6).bind fun fs s => .ok ⟨name,K,o,fs⟩ s):=by
      have hb:=HBODY.out
      cases R6 with
      |bad e x=>cases hp
      | ok u s =>
        rw[Res.bind_ok]at hp hb;obtain⟨g1,g2,g3,g4,g5,g6,g7,g8⟩:=H6.out u s rfl;obtain⟨q1,q2,q3,q4,q5⟩:=psizes_ok i hp;rw[hp,Res.bind_ok]at hb;have h32:=psizes_big i hp;have hfar:far=4611686018427387904:=rfl;refine⟨q1,fun v hv=>⟨(q2 v hv).1,by have:=(q2 v hv).2;omega⟩,by rw[q4];exact g5,by rw[q3];exact g6,by omega,g4.1,fun hbn=>?_,hb⟩;obtain⟨b1,b2⟩:=h32 hbn;obtain⟨c1,c2,c3,c4⟩:=g8 b1;exact⟨c1,c2,c3,c4,b2⟩
     have HBIG:=Hd hb6;have hi6:i≤65536:=by omega
     have hW6:Within 65536 s6:=⟨by omega,by omega,by rw[hsh6];simp only[List.length_nil];omega⟩;have HW6:=Hd hW6;have HSHOK:Hid (ShOk 65536 s6):=fun p hp=>by rw[hsh6]at hp;cases hp
     have HRNG:=Hd hrng;have hol2:o.length≤65536:=by omega
     have HO:=Hd ho;have HT:=Hd ht;have HRS:=Hd hrs;have hst:RS wr gr gs bs wb (.slice none 0 0) (pfuns (enOf bs wb) (eeOf wb) o 0 [] s6):=hrs;have hsh0:ShV wr (.slice none 0 0) s6.sh:=by rw[hsh6];exact⟨[],rfl,⟨none,0,rfl⟩,World.ownsRow_nil _ _ _ _,fun p hp=>by cases hp⟩
     clear hout hp hlen hrng htold hsh6 hl6 hb6 hW6 hrs ho ht hol;obtain⟨wo,hwo⟩:∃wo:World,wo=wr:=⟨_,rfl⟩;rw[← hwo]at HO HT HRS hst hsh0 ⊢;clear hwo;go_wp2_with fail
     go_loopw [17,18] (fun fv jv wy => ∃ (j:Nat) (P:List (Value × Raw)) (FA:Option Addr) (fc:Nat) (sv:Value),jv = .int .i64 j∧j≤cn∧fv = .slice FA P.length fc∧P.length=j∧wy.ownsRow (gr+1) 155 4 (.slice FA P.length fc) P.length (rcells P)∧(∀p∈P,RawV wy p.1 p.2) ∧
      RS wy gr gs bs wb sv (pfuns (enOf bs wb) (eeOf wb) o j [] s6)∧(∀q s',pfuns (enOf bs wb) (eeOf wb) o j [] s6 = .ok q s'→q=P.map (·.2)∧ShV wy sv s'.sh)∧(∀q,sv.ownBlock=some q→gr<q)∧wy.ownsRow (gr+1) 2 1 (.slice A' o.length c') o.length (nums o)∧Tch w0 wy (fun q=>q=gr∨q=gs)) (fun _ jv _=>cn-(intOf jv).toNat)
     case atStart=>exact⟨0,[],none,0,.slice none 0 0,rfl,Nat.zero_le _,rfl,rfl,World.ownsRow_nil _ _ _ _,fun p hp=>(by cases hp),hst,fun q s' he=>(by injection he with h1 h2;subst h1 h2;exact⟨rfl,hsh0⟩),fun q hq=>(by cases hq),HO.out,HT.out⟩
     case round =>
      clear hst hsh0;obtain⟨j,P,FA,fc,sv,rfl,hj,rfl,hPl,hrow,hraw,hrs,hout,hsvb,hsz,ht⟩:=hrel;by_cases hltj:j<cn
      ·have hltJ:decide ((j:Int)<(cn:Int))=true:=decide_eq_true (by omega)
       cases hp:pfuns (enOf bs wb) (eeOf wb) o j [] s6 with
       | bad er at_ =>
         rw[hp]at hrs;have hok:=ok_un hrs;have hbad:Rbad wr gr gs er at_ sv:=hrs;rw[show (Res.bad er at_:Res (List Raw)).good=false from rfl]at hok
         have HERR:Hid (pread (enOf bs wb) (eeOf wb) l = .err er at_):=by
          refine pread_bad ?_;rw[HB7.out,pfuns_bad hp cn hj];rfl
         have HBQ:Hid (Below w.heap.size w wr):=HB0.out.trans (ht.below HB0.out.size fun q hq h=>by omega);clear hrs hout ht hrow hraw hp hsvb hsz hPl;go_wp2_with fail;refine hok.mono ?_;rintro e w4 ⟨rfl,rfl⟩;clear hok;obtain⟨big,bigAt,told,hrx,hex⟩:=hbad;have hok:=ok_any hrx;rw[decide_eq_false hex]at hok;obtain⟨y0,y1,y2,y3,y4,y5,y6,yf⟩:=RdB.cells hrx;have hneb:(er != 0)=true:=by first | rfl | simp[hex]
         clear hrx hex yf;go_wp2_with fail;refine hok.mono ?_;rintro e w3 ⟨rfl,rfl⟩;clear hok;go_wp2_with fail
         go_quiet (fail)
         go_wp2_with fail
         go_ret3
         refine⟨below_drewN HBQ.out _,?_⟩;rw[HERR.out]
         all_goals rfl
       | ok q s7 =>
         obtain⟨rfl,hshv⟩:=hout q s7 hp;rw[hp]at hrs;have hrk:Rok wr gr gs bs wb s7 sv:=hrs;have hok:=ok_un hrs;rw[show (Res.ok (P.map (·.2)) s7:Res (List Raw)).good=true from rfl]at hok;obtain⟨pf1,⟨pf2,pf3,pf4⟩,pf5⟩:=pfuns_ok j hp HW6.out
         have hpj:P.length≤65536:=by
          have h1:=HW6.out.2.2;have h2:=(HRS.out:Rok _ _ _ _ _ _ _).left;omega
         have hwsz:gr<wr.heap.size∧gs<wr.heap.size:=by have:=ht.size;have:=HW0S.out;omega
         have hfun:=rfun_any hrk hne hwsz.1 hwsz.2 (by omega) (tab_tch HTAB.out (S:=fun q=>q=gr∨q=gs) ((Tch.of_below HB0.out _).trans ht fun _ _ h=>h) (by omega)) (by omega) (by omega) A' c' o (own_base hsz (Nat.zero_le _)) HRNG.out (by omega) pf2 (by omega) hshv (by omega)
         have hoff:∀t,146≠t→228≠t→233≠t→Off wr 0 (fun q=>q=gr∨q=gs∨some q=sv.ownBlock) t:=fun t e1 e2 e3 q hq=>by
          rcases hq with h | h | h
          ·exact hrk.off (base:=0) e1 e2 q (.inl h)
          ·exact hrk.off (base:=0) e1 e2 q (.inr h)
          ·obtain⟨_,_,_,hso,_⟩:=hshv
           exact .inr fun cs hb=>own_blk_ne hso hb e3 h.symm
         have HOFF:=Hd hoff;have HP:=Hd hp;have HROW:=Hd hrow;have HRAW:=Hd hraw;have HSVB:=Hd hsvb;have HSZ:=Hd hsz;have HTW:=Hd ht;have HPL:=Hd hPl;clear hrs hrk hout ht hrow hraw hp hsvb hsz hPl hshv hoff pf1 pf2 pf3 pf4 pf5;go_wp2_with fail;refine hok.mono ?_;rintro e w4 ⟨rfl,rfl⟩;clear hok;go_wp2_with fail;refine hfun.mono ?_;rintro e wz ⟨v,f',sv',rfl,hsvn,ht5,hraw5,hrs5,hv5⟩;clear hfun;obtain⟨v1,v2,v4,rfl,⟨⟨B1,b1,rfl⟩,g1⟩,⟨⟨B2,b2,rfl⟩,g2⟩,g4⟩:=hraw5;obtain⟨L4,hL4,⟨B4,b4,rfl⟩,g5⟩:=g4;have HRAW5:Hid (RawV wz (.agg #[.slice B1 f'.scope.length b1,.slice B2 f'.sizes.length b2,.int .i64 f'.other,.slice B4 L4.length b4]) f'):=⟨_,_,_,rfl,⟨⟨_,_,rfl⟩,g1⟩,⟨⟨_,_,rfl⟩,g2⟩,⟨L4,hL4,⟨_,_,rfl⟩,g5⟩⟩;have oz:=own_off HROW.out ht5 (fun q hq=>(HOFF.out _ (by decide) (by decide) (by decide) q hq).elim (fun h=>by omega) Or.inr);have hA1:=oz.alloc (.cells #[.slice B1 f'.scope.length b1,.slice B2 f'.sizes.length b2,.int .i64 f'.other,.slice B4 L4.length b4] 155);have hr1:Reads (wz.alloc (.cells #[.slice B1 f'.scope.length b1,.slice B2 f'.sizes.length b2,.int .i64 f'.other,.slice B4 L4.length b4] 155)) (wz.alloc (.cells #[.slice B1 f'.scope.length b1,.slice B2 f'.sizes.length b2,.int .i64 f'.other,.slice B4 L4.length b4] 155)).heap.size 4 (some ⟨wz.heap.size,0,none⟩) 1 [.slice B1 f'.scope.length b1,.slice B2 f'.sizes.length b2,.int .i64 f'.other,.slice B4 L4.length b4]:=reads_four (heap_alloc_new _ _)
         have hone:∀u ∈ [Value.slice B1 f'.scope.length b1,.slice B2 f'.sizes.length b2,.int .i64 f'.other,.slice B4 L4.length b4],u.oneCell'=true:=fun u hu=>by
          simp only[List.mem_cons,List.not_mem_nil,or_false]at hu;rcases hu with rfl | rfl | rfl | rfl<;>rfl
         have hsz:gr+1≤(wz.alloc (.cells #[.slice B1 f'.scope.length b1,.slice B2 f'.sizes.length b2,.int .i64 f'.other,.slice B4 L4.length b4] 155)).heap.size:=by have:=ht5.size;simp;omega
         have OZ:=Hd hA1;have HSVN:=Hd hsvn;have HT5:=Hd ht5;have HRS5:=Hd hrs5;have HV5:=Hd hv5;clear oz ht5 hrs5 hv5 hsvn g1 g2 g5 hL4
         go_wp2_with (first
          |(at_builtin;refine wpList_append_any _ rfl (.tmp 111) (.tmp 115) _ rfl (gr+1) 155 iR _ 4 80 Tryz.underlying152 r0 r1 r2 r3 rfl (by omega) (.slice FA P.length fc) P.length _ rfl hA1 (wz.alloc (.cells #[.slice B1 f'.scope.length b1,.slice B2 f'.sizes.length b2,.int .i64 f'.other,.slice B4 L4.length b4] 155)).heap.size (some ⟨wz.heap.size,0,none⟩) 1 1 [.slice B1 f'.scope.length b1,.slice B2 f'.sizes.length b2,.int .i64 f'.other,.slice B4 L4.length b4] rfl hr1 hone (by simp only[maxLen];omega) (by omega) hsz ?_;intro v6 w6 hown6 hg6 hat6;clear hat6;obtain⟨A6,c6,rfl⟩:=own_shape hown6;have HO6:=Hd hown6;have HG6:Hid ((wz.alloc (.cells #[.slice B1 f'.scope.length b1,.slice B2 f'.sizes.length b2,.int .i64 f'.other,.slice B4 L4.length b4] 155)).grownBy w6 (Value.slice FA P.length fc).ownBlock):=hg6;clear hown6 hg6 hA1 hr1)
          |fail)
         go_roundw
         case measure=>simp[intOf];omega
         case rel =>
          have Ta:Tch wz (wz.alloc (.cells #[.slice B1 f'.scope.length b1,.slice B2 f'.sizes.length b2,.int .i64 f'.other,.slice B4 L4.length b4] 155)) (fun _=>False):=Tch.of_below (bone wz _) _;have Tb:Tch (wz.alloc (.cells #[.slice B1 f'.scope.length b1,.slice B2 f'.sizes.length b2,.int .i64 f'.other,.slice B4 L4.length b4] 155)) w6 (fun q=>some q=(Value.slice FA P.length fc).ownBlock):=Tch.of_grown HG6.out fun q _ hq=>hq
          have Tz:Tch wz w6 (fun q=>some q=(Value.slice FA P.length fc).ownBlock):=(Ta.mono (S':=fun q=>some q=(Value.slice FA P.length fc).ownBlock) fun _ _ h=>h.elim).trans Tb fun _ _ h=>h
          have hqb:∀q,some q=(Value.slice FA P.length fc).ownBlock→gr+1≤q:=fun q hq=>(own_in OZ.out hq.symm).1
          have offw:∀t,155≠t→Off wz 0 (fun q=>some q=(Value.slice FA P.length fc).ownBlock) t:=fun t e q hq => .inr fun cs hb=>own_blk_ne OZ.out (Blk.alloc hb _) e hq.symm
          have hl2:(P ++ [(Value.agg #[.slice B1 f'.scope.length b1,.slice B2 f'.sizes.length b2,.int .i64 f'.other,.slice B4 L4.length b4],f')]).length=P.length+1:=by simp
          have hstep:pfuns (enOf bs wb) (eeOf wb) o (j+1) [] s6=(pfun (enOf bs wb) (eeOf wb) o s7).bind fun f s => .ok (P.map (·.2) ++ [f]) s:=by rw[pfuns_snoc,HP.out];rfl
          refine⟨j+1,P ++ [(Value.agg #[.slice B1 f'.scope.length b1,.slice B2 f'.sizes.length b2,.int .i64 f'.other,.slice B4 L4.length b4],f')],A6,c6,sv',by go_num,by omega,by rw[hl2],by rw[hl2,HPL.out],?_,fun p hp=>?_,?_,fun q s' he=>?_,fun q hq=>?_,?_,?_⟩
          ·rw[hl2,show rcells (P ++ [(Value.agg #[.slice B1 f'.scope.length b1,.slice B2 f'.sizes.length b2,.int .i64 f'.other,.slice B4 L4.length b4],f')])=rcells P ++ [.slice B1 f'.scope.length b1,.slice B2 f'.sizes.length b2,.int .i64 f'.other,.slice B4 L4.length b4] by simp[rcells]]
           exact HO6.out
          ·have h0:RawV wz p.1 p.2:=by
            rcases List.mem_append.1 hp with hp | hp
            ·exact (HRAW.out p hp).tch HT5.out (HOFF.out _ (by decide) (by decide) (by decide)) (HOFF.out _ (by decide) (by decide) (by decide))
            ·rw[List.mem_singleton.1 hp];exact HRAW5.out
           exact h0.tch Tz (offw _ (by decide)) (offw _ (by decide))
          ·rw[hstep]
           have h2:=HRS5.out.tch Tz (fun h=>by have:=hqb _ h;omega) (fun h=>by have:=hqb _ h;omega) fun q cs hq hb=>own_blk_ne OZ.out (Blk.alloc hb _) (by decide) hq.symm
           refine h2.same (fun a s e=>by rw[e];exact⟨_,rfl⟩) fun e x h=>by rw[h];rfl
          ·rw[hstep]at he
           cases hq:pfun (enOf bs wb) (eeOf wb) o s7 with
           |bad e1 x1=>rw[hq]at he;cases he
           | ok f1 s1 =>
             obtain⟨rfl,hs1⟩:=HV5.out f1 s1 hq;rw[hq,Res.bind_ok]at he;injection he with he1 he2
             subst he2;exact⟨by rw[← he1,List.map_append];rfl,hs1.tch Tz (offw _ (by decide)) (offw _ (by decide)) (offw _ (by decide))⟩
          ·rcases HSVN.out q hq with h | h
           ·exact HSVB.out q h
           ·omega
          ·exact own_off (own_off HSZ.out HT5.out (fun q hq=>(HOFF.out _ (by decide) (by decide) (by decide) q hq).elim (fun h=>by omega) Or.inr)) Tz (fun q hq=>(offw _ (by decide) q hq).elim (fun h=>by omega) Or.inr)
          ·exact (HTW.out.trans HT5.out fun q hq h=>h.elim Or.inl fun h=>h.elim Or.inr fun h=>by have:=HSVB.out q h.symm;have:=HW0S.out;omega).trans Tz fun q hq h=>by have:=hqb _ h;have:=HW0S.out;omega
      ·obtain rfl:j=cn:=by omega
       have hltJ:decide ((j:Int)<(j:Int))=false:=decide_eq_false (by omega)
       cases hp:pfuns (enOf bs wb) (eeOf wb) o j [] s6 with
       | bad er at_ =>
         rw[hp]at hrs;have hbad:Rbad wr gr gs er at_ sv:=hrs
         have HERR:Hid (pread (enOf bs wb) (eeOf wb) l = .err er at_):=by
          refine pread_bad ?_;rw[HB7.out,hp];rfl
         have HBQ:Hid (Below w.heap.size w wr):=HB0.out.trans (ht.below HB0.out.size fun q hq h=>by omega);clear hrs hout ht hrow hraw hp hsvb hsz hPl;obtain⟨big,bigAt,told,hrx,hex⟩:=hbad;have hok:=ok_any hrx;rw[decide_eq_false hex]at hok;obtain⟨y0,y1,y2,y3,y4,y5,y6,yf⟩:=RdB.cells hrx;have hneb:(er != 0)=true:=by first | rfl | simp[hex]
         clear hrx hex yf;go_wp2_with fail;refine hok.mono ?_;rintro e w3 ⟨rfl,rfl⟩;clear hok;go_wp2_with fail
         go_quiet (fail)
         go_wp2_with fail
         go_ret3
         refine⟨below_drewN HBQ.out _,?_⟩;rw[HERR.out]
         all_goals rfl
       | ok q s7 =>
         obtain⟨rfl,hshv⟩:=hout q s7 hp;rw[hp]at hrs;have hrk:Rok wr gr gs bs wb s7 sv:=hrs;have hok:=ok_un hrs;rw[show (Res.ok (P.map (·.2)) s7:Res (List Raw)).good=true from rfl]at hok;have HPB:Hid (pbody (enOf bs wb) (eeOf wb) ⟨l,none,0,[]⟩ = .ok ⟨name,K,o,P.map (·.2)⟩ s7):=by rw[Hid,HB7.out,hp];rfl
         have HRK:=Hd hrk;obtain⟨pa,big,badAt,bigAt,hrb,hsc,⟨hpa,z,hch,hz⟩,hbg⟩:=hrk;have hword:=word_any hsc hpa (by omega);obtain⟨y0,y1,y2,y3,y4,y5,y6,yf⟩:=RdB.cells hrb;have HRB:=Hd hrb;have HCH:=Hd hch;have HZ:=Hd hz;have HBG:=Hd hbg;have HROW:=Hd hrow;have HRAW:=Hd hraw;have HSZ:=Hd hsz;have HTW:=Hd ht;have HP:=Hd hp;have HPL:=Hd hPl;have HBW:Hid (Below w.heap.size w wr):=HB0.out.trans (ht.below HB0.out.size fun q hq h=>by omega);clear hrb hch hz hbg hrow hraw hsz ht hp hPl hout hsc hrs hshv yf;go_wp2_with fail;refine hok.mono ?_;rintro e w4 ⟨rfl,rfl⟩;clear hok;go_wp2_with fail;refine hword.mono ?_;rintro e w5 (⟨i',hx,rfl,hs5,ht5⟩ | ⟨hx,rfl,hs5,ht5⟩ | ⟨i',j',hx,rfl,hs5,ht5⟩)
         ·obtain⟨hl7,hwb⟩:=lf_bad hx HCH.out HZ.out
          have hrb5:=ht5.blk HRB.out hne;have hwr:=wrong_any hrb5 11 i';have HBW5:=Hd (HBW.out.trans (ht5.below HBW.out.size fun q hq h=>by omega))
          have HERR:Hid (pread (enOf bs wb) (eeOf wb) l = .err 11 i'):=by
           have e1:eeOf wb=11:=by unfold eeOf;rw[hwb,if_neg (by omega)]
           have e2:enOf bs wb=i':=by unfold enOf;rw[hwb,if_neg (by omega)]
           rw[Hid,((pread_end HPB.out).2 hl7).1 e1,e2]
          clear hword hrb5 ht5 hs5 y0 y1 y2 y3 y4 y5 y6;go_wp2_with fail;refine hwr.mono ?_;rintro e w6 ⟨⟨v6,rfl⟩,hc,ht6⟩;clear hwr
          have hbad:Rbad w6 gr gs 11 i' sv:=by
           rcases hc with⟨_,hc⟩ | ⟨h0,_⟩
           ·exact⟨_,_,_,hc,by decide⟩
           ·exact absurd rfl h0
          have HBQ:=Hd (HBW5.out.trans (ht6.below HBW5.out.size fun q hq h=>by omega));clear hc ht6;obtain⟨big9,bigAt9,told9,hrx,hex⟩:=hbad;obtain⟨y0,y1,y2,y3,y4,y5,y6,yf⟩:=RdB.cells hrx;have hneb:(11 != 0)=true:=by first | rfl | simp[hex]
          clear hrx hex yf;go_wp2_with fail
          go_quiet (fail)
          go_wp2_with fail
          go_ret3
          refine⟨below_drewN HBQ.out _,?_⟩;rw[HERR.out]
          all_goals rfl
         ·obtain⟨hl7,hwb⟩:=lf_none hx HCH.out HZ.out
          have hrb5:=ht5.blk HRB.out hne;have HBW5:=Hd (HBW.out.trans (ht5.below HBW.out.size fun q hq h=>by omega));have e1:eeOf wb=4:=by unfold eeOf;rw[if_pos hwb]
          obtain⟨t0,t1,t2,t3,t4,t5,t6,tf⟩:=RdB.cells hrb5;rcases HBG.out with⟨hb0,rfl⟩ | ⟨xb,hb0,rfl,rfl⟩
          ·have HFILE:Hid (pread (enOf bs wb) (eeOf wb) l = .file ⟨name,K,o,P.map (·.2)⟩):=(((pread_end HPB.out).2 hl7).2 e1).2 hb0
           obtain⟨pb1,pb2,pb3,pb4,pb5⟩:=pfuns_big (N:=65536) (K:=K) (by omega) (fun v hv=>(HRNG.out v hv).1) j HP.out HSHOK.out (by have:=HW6.out.2.1;have:=HW6.out.1;omega);obtain⟨hg1,hg2,hg3,hg4,hg5⟩:=HBIG.out (pb3 hb0);have hokF:∀p∈P,okF p.2 K:=fun p hp=>(pb5 hb0 hg5 hK1 hg4 p.2 (List.mem_map_of_mem hp)).1
           have HOKF:=Hd hokF;have hj256:P.length≤256:=by have:=HPL.out;omega
           have offs:∀t,146≠t→228≠t→Off wr 0 (fun q=>q=gs) t:=fun t a b q hq=>HRK.out.off a b q (.inr hq)
           have hraw5:∀p∈P,RawV w5 p.1 p.2:=fun p hp=>(HRAW.out p hp).tch ht5 (offs _ (by decide) (by decide)) (offs _ (by decide) (by decide))
           have hrow5:=own_off HROW.out ht5 (off_below fun q hq=>by omega);have hsz5:=own_off HSZ.out ht5 (off_below fun q hq=>by omega);have hin:=ints_any A' o.length c' o w5 (by omega) (Reads.of_own hsz5);have HRAW5:=Hd hraw5;have HROW5:=Hd hrow5;have HTI:=Hd ht5.size;clear hword hrb5 ht5 hs5 y0 y1 y2 y3 y4 y5 y6 hl7 hb0 pb1 pb2 pb3 pb4 pb5 hokF hraw5 hrow5 hsz5 hg1 hg2 hg3 hg5 e1;go_wp2_with fail;refine hin.mono ?_;rintro e w6 ⟨rfl,hint6,hb6⟩;clear hin t0 t1 t2 t3 t4 t5 t6 tf;go_wp2_with fail;obtain⟨wi,hwi⟩:∃wi,w5.heap.size=wi:=⟨_,rfl⟩;rw[hwi]at hint6 ⊢;have hgb:Blk (w6.alloc (.cells #[strV name,.int .i64 K,.slice (some ⟨wi,0,none⟩) o.length o.length,.slice none 0 0] 34)) w6.heap.size 34 #[strV name,.int .i64 K,.slice (some ⟨wi,0,none⟩) o.length o.length,.slice none 0 0]:=Blk.new _ _ _;have hint7:=hint6.alloc (.cells #[strV name,.int .i64 K,.slice (some ⟨wi,0,none⟩) o.length o.length,.slice none 0 0] 34);have ht7:Tch w5 (w6.alloc (.cells #[strV name,.int .i64 K,.slice (some ⟨wi,0,none⟩) o.length o.length,.slice none 0 0] 34)) (fun _=>False):=Tch.of_below (bnew hb6 _) _;have hg7:(w6.alloc (.cells #[strV name,.int .i64 K,.slice (some ⟨wi,0,none⟩) o.length o.length,.slice none 0 0] 34)).heap.size=w6.heap.size+1:=by simp
           obtain⟨w7,hw7⟩:∃w7,w6.alloc (.cells #[strV name,.int .i64 K,.slice (some ⟨wi,0,none⟩) o.length o.length,.slice none 0 0] 34)=w7:=⟨_,rfl⟩;obtain⟨g,hg⟩:∃g,w6.heap.size=g:=⟨_,rfl⟩;rw[hw7,hg]at hgb;rw[hw7]at hint7 ht7;rw[hw7,hg]at hg7;rw[hw7,hg];have hb6s:=hb6.size;have HGW:Hid (w.heap.size≤wi∧gr<wi∧wi≤g∧w.heap.size≤g):=by have:=HBW5.out.size;have:=HTW.out.size;have:=HW0S.out;have:=HTI.out;exact⟨by omega,by omega,by omega,by omega⟩
           have HRAW7:Hid (∀p∈P,RawV w7 p.1 p.2):=fun p hp=>(HRAW5.out p hp).tch ht7 (fun q h=>h.elim) (fun q h=>h.elim)
           have HROW7:=Hd (own_off HROW5.out ht7 (fun q h=>h.elim));have HBW7:=Hd (bto HBW5.out (ht7.below (Nat.le_refl _) fun _ _ h=>h));have HG7:=Hd hg7;have HGB:=Hd hgb;have HINT:=Hd hint7;clear hgb hint7 ht7 hg7 hw7 hg hint6 hb6 hwi hb6s
           go_loopw [24,181] (fun _ jv wy => ∃ (m:Nat) (V:List FT) (FB:Option Addr) (fd:Nat),jv = .int .i64 m∧m≤P.length∧V.map (·.2.2.2)=(P.map (·.2)).take m∧Blk wy g 34 #[strV name,.int .i64 K,.slice (some ⟨wi,0,none⟩) o.length o.length,.slice FB V.length fd] ∧
            wy.ownsRow (g+1) 37 2 (.slice FB V.length fd) V.length (fcells V)∧(∀p∈V,FunV wy (fun k=>p.2.1≤k∧k<p.2.2.1) p.1 p.2.2.2 K∧g+1≤p.2.1∧p.2.2.1≤wy.heap.size)∧(V.Pairwise fun a b=>a.2.2.1≤b.2.1)∧Tch w7 wy (fun q=>q=g)) (fun _ jv _=>P.length-(intOf jv).toNat)
           case atStart=>exact⟨0,[],none,0,rfl,Nat.zero_le _,rfl,HGB.out,World.ownsRow_nil _ _ _ _,fun p hp=>(by cases hp),List.Pairwise.nil,Tch.refl _ _⟩
           case round =>
            obtain⟨m,V,FB,fd,rfl,hm,hVm,hgy,hvo,hvf,hpw,hty⟩:=hrel;have hVl:V.length=m:=by have:=congrArg List.length hVm;simp at this;omega
            have offg:∀B t,34≠t→Off w7 B (fun q=>q=g) t:=fun B t e q hq => .inr fun cs hb=>Blk.ne_ HGB.out hb e hq.symm
            by_cases hltm:m<P.length
            ·obtain⟨pp,hpp⟩:∃pp,P[m]?=some pp:=⟨_,List.getElem?_eq_getElem hltm⟩
             have hrawm:=(HRAW7.out pp (List.mem_of_getElem? hpp)).tch hty (offg _ _ (by decide)) (offg _ _ (by decide));have hokm:=HOKF.out pp (List.mem_of_getElem? hpp);have hrowm:=own_off HROW7.out hty (offg _ _ (by decide))
             have h4:∀p∈P,∃a b c d,p.1 = .agg #[a,b,c,d]:=fun p hp=>by
              obtain⟨v1,v2,v4,e,_⟩:=HRAW7.out p hp;exact⟨_,_,_,_,e⟩
             obtain⟨pv,pf⟩:=pp;dsimp only at hrawm hokm;have hraw0:=hrawm;obtain⟨v1,v2,v4,rfl,⟨⟨B1,b1,rfl⟩,-⟩,⟨⟨B2,b2,rfl⟩,-⟩,⟨L4,-,⟨B4,b4,rfl⟩,-⟩⟩:=hrawm;obtain⟨c0,c1,c2,c3⟩:=rc_at h4 hpp;obtain⟨fq,rfl,_,_⟩:=own_some hrowm (by omega);have d0:=(hrowm.cellAt (m*4) (by omega)).trans c0;have d1:=(hrowm.cellAt (m*4+1) (by omega)).trans c1;have d2:=(hrowm.cellAt (m*4+2) (by omega)).trans c2;have d3:=(hrowm.cellAt (m*4+3) (by omega)).trans c3;have hpm:(P.map (·.2))[m]?=some pf:=by rw[List.getElem?_map,hpp];rfl
             have HPM:=Hd hpm;have HVM:=Hd hVm;have HGY:=Hd hgy;have HVO:=Hd hvo;have HVF:=Hd hvf;have HPW:=Hd hpw;have HTY:=Hd hty;have HRAW0:=Hd hraw0;have HOKM:=Hd hokm;have HVL:=Hd hVl;have hvl2:V.length≤256:=by omega
             have i0:(0:Int)≤(m:Int):=Int.natCast_nonneg _;have i1:(m:Int)<(P.length:Int):=by omega
             clear hpp hrowm h4 c0 c1 c2 c3 hpm hVm hgy hvo hvf hpw hty hraw0 hokm hVl offg;go_upto_region 39 with fail;obtain⟨xb,hxb⟩:∃xb,wr.heap.size=xb:=⟨_,rfl⟩;have hbl:=bone wr (.cells #[.slice B1 pf.scope.length b1,.slice B2 pf.sizes.length b2,.int .i64 pf.other,.slice B4 L4.length b4] 155);have hxl:Blk (wr.alloc (.cells #[.slice B1 pf.scope.length b1,.slice B2 pf.sizes.length b2,.int .i64 pf.other,.slice B4 L4.length b4] 155)) wr.heap.size 155 #[.slice B1 pf.scope.length b1,.slice B2 pf.sizes.length b2,.int .i64 pf.other,.slice B4 L4.length b4]:=Blk.new _ _ _;obtain⟨wl,hwl⟩:∃wl,wr.alloc (.cells #[.slice B1 pf.scope.length b1,.slice B2 pf.sizes.length b2,.int .i64 pf.other,.slice B4 L4.length b4] 155)=wl:=⟨_,rfl⟩;rw[hwl,hxb]at hxl;rw[hwl]at hbl ⊢;rw[hxb];have hgl:=Blk.under HGY.out hbl;obtain⟨q0,q1,q2,q3,q0f,q1f,q2f,q3f⟩:=Blk.four (t:=34) hgl;obtain⟨x0,x1,x2,x3,-⟩:=Blk.four (t:=155) hxl;have hff:=filefun_any (w:=wl.drew) (show Blk wl.drew g 34 _ from hgl) (K:=K) rfl (HRAW0.out.tch ((Tch.of_below hbl (fun _=>False)).drew) (fun q h=>h.elim) (fun q h=>h.elim)) HOKM.out;have hvo2:=own_under HVO.out hbl;have HBL:=Hd hbl;have HGL:=Hd hgl;have HVO2:=Hd hvo2;have HLS:Hid (g<wl.heap.size):=Blk.lt hgl;clear hbl hwl hgl hxl hvo2;have z1:wl.drew.cell? ⟨g,3,none⟩=some (.slice FB V.length fd):=q3;have z2:wl.drew.cell? ⟨xb,0,none⟩=some (.slice B1 pf.scope.length b1):=x0;have z3:wl.drew.cell? ⟨xb,1,none⟩=some (.slice B2 pf.sizes.length b2):=x1;have z4:wl.drew.cell? ⟨xb,2,none⟩=some (.int .i64 pf.other):=x2;have z5:wl.drew.cell? ⟨xb,3,none⟩=some (.slice B4 L4.length b4):=x3
             go_region_law (first
              |(go_simp;go_at_call 83;refine hff.mono ?_;rintro e w9 ⟨v9,rfl,hfv9,hb9⟩;obtain⟨v1,tg,rfl,⟨⟨C1,k1,rfl⟩,hc1⟩,hfc,hT9⟩:=hfv9;have hb9':Below wl.heap.size wl w9:=⟨hb9.os,hb9.tape,hb9.output,hb9.size,hb9.block⟩;have hgw9:=Blk.under HGL.out hb9';obtain⟨n0,n1,n2,n3,-⟩:=Blk.four (t:=34) hgw9;have hA1:=(own_under HVO2.out hb9').alloc (.cells #[.slice C1 pf.scope.length k1,.pointer (some ⟨tg,0,none⟩)] 37);have hga1:=hgw9.alloc (.cells #[.slice C1 pf.scope.length k1,.pointer (some ⟨tg,0,none⟩)] 37);obtain⟨N0,N1,N2,N3,-⟩:=Blk.four (t:=34) hga1;have hr1:Reads (w9.alloc (.cells #[.slice C1 pf.scope.length k1,.pointer (some ⟨tg,0,none⟩)] 37)) (w9.alloc (.cells #[.slice C1 pf.scope.length k1,.pointer (some ⟨tg,0,none⟩)] 37)).heap.size 2 (some ⟨w9.heap.size,0,none⟩) 1 [.slice C1 pf.scope.length k1,.pointer (some ⟨tg,0,none⟩)]:=reads_two (heap_alloc_new _ _);have hone:∀u ∈ [Value.slice C1 pf.scope.length k1,.pointer (some ⟨tg,0,none⟩)],u.oneCell'=true:=(fun u hu=>by simp only[List.mem_cons,List.not_mem_nil,or_false]at hu;rcases hu with rfl | rfl<;>rfl);have hsz9:g+1≤(w9.alloc (.cells #[.slice C1 pf.scope.length k1,.pointer (some ⟨tg,0,none⟩)] 37)).heap.size:=(by have h1:=hb9'.size;have h2:=HLS.out;simp;omega);have HFV9:Hid (FunV w9 (fun k=>wl.heap.size≤k) (.agg #[.slice C1 pf.scope.length k1,.pointer (some ⟨tg,0,none⟩)]) pf K):=⟨_,tg,rfl,⟨⟨_,_,rfl⟩,hc1⟩,hfc,hT9⟩;have HB9:=Hd hb9';have HGA1:=Hd hga1;have HHA1:=Hd hA1;clear hc1 hfc hT9 hb9 hb9' hgw9 hga1)
              |(refine step_append_any _ rfl (.tmp 189) (.tmp 193) 32 rfl (g+1) 37 iF _ 2 32 Tryz.underlying32 f0 f1 f2 f3 rfl (by omega) (.slice FB V.length fd) V.length _ rfl hA1 (w9.alloc (.cells #[.slice C1 pf.scope.length k1,.pointer (some ⟨tg,0,none⟩)] 37)).heap.size (some ⟨w9.heap.size,0,none⟩) 1 1 [.slice C1 pf.scope.length k1,.pointer (some ⟨tg,0,none⟩)] rfl hr1 hone (by simp only[maxLen];omega) (by omega) hsz9 ?_;intro v10 w10 hown10 hg10 hat10;obtain⟨A10,c10,rfl⟩:=own_shape hown10;have hg10b:=HGA1.out.grown hg10 (fun e=>by obtain⟨cs,hb⟩:=own_is HHA1.out e.symm;exact Blk.ne_ HGA1.out hb (by decide) rfl);have M3:=(Blk.four (t:=34) hg10b).2.2.2.1;have M3f:=hg10b.frozen 3;have HO10:=Hd hown10;have HG10:=Hd hg10;clear hown10 hg10 hat10 hg10b))
             all_goals
              go_wp2_with fail;go_roundw
              case measure=>simp[intOf];omega
              case rel =>
               obtain⟨e1,e2,e3,e4,e5⟩:=file_step HVF.out HPW.out HTY.out HG7.out HBL.out HB9.out HFV9.out HHA1.out HGA1.out HO10.out HG10.out HLS.out;refine⟨m+1,V ++ [((Value.agg #[.slice C1 pf.scope.length k1,.pointer (some ⟨tg,0,none⟩)],wl.heap.size,w9.heap.size,pf):FT)],A10,c10,by go_num,hltm,?_,e1,e2,e3,e4,e5⟩;rw[List.map_append,HVM.out,List.take_add_one,HPM.out];rfl
            ·obtain rfl:m=P.length:=by omega
             rw[List.take_of_length_le (by simp)]at hVm;have HVM:=Hd hVm;have HGY:=Hd hgy;have HVO:=Hd hvo;have HVF:=Hd hvf;have HPW:=Hd hpw;have HTY:=Hd hty;have HI2:=Hd (own_off HINT.out hty (offg _ _ (by decide)));have HGW2:Hid (w.heap.size≤w7.heap.size):=HBW7.out.size;clear hVm hgy hvo hvf hpw hty hVl offg;go_wp2_with fail
             go_ret3
             refine⟨HBW7.out.trans (HTY.out.below HGW2.out fun q hq e=>by have:=HGW.out;omega),?_⟩;rw[HFILE.out];refine⟨g,rfl,HGW.out.2.2.2,some ⟨wi,0,none⟩,o.length,FB,fd,V,HVM.out,HGY.out,own_base HI2.out HGW.out.1,own_base HVO.out (by have:=HGW.out;omega),fun p hp=>⟨(HVF.out p hp).1,by have:=(HVF.out p hp).2.1;have:=HGW.out;omega⟩,HPW.out⟩
          ·have HERR:Hid (pread (enOf bs wb) (eeOf wb) l = .err 5 bigAt):=by
            exact (((pread_end HPB.out).2 hl7).2 e1).1 _ hb0
           clear hword hrb5 ht5 hs5 y0 y1 y2 y3 y4 y5 y6 hl7 hb0;go_wp2_with fail
           go_quiet (fail)
           go_wp2_with fail
           go_ret3
           refine⟨below_drewN HBW5.out _,?_⟩;rw[HERR.out]
           all_goals rfl
         ·obtain⟨rr,hl7,hk7⟩:=lf_word hx HCH.out HZ.out
          have hrb5:=ht5.blk HRB.out hne;have hwr:=wrong_any hrb5 4 i';have HBW5:=Hd (HBW.out.trans (ht5.below HBW.out.size fun q hq h=>by omega))
          have HERR:Hid (pread (enOf bs wb) (eeOf wb) l = .err 4 i'):=by
           exact (pread_end HPB.out).1 _ _ hl7
          clear hword hrb5 ht5 hs5 y0 y1 y2 y3 y4 y5 y6 hl7;go_wp2_with fail;refine hwr.mono ?_;rintro e w6 ⟨⟨v6,rfl⟩,hc,ht6⟩;clear hwr
          have hbad:Rbad w6 gr gs 4 i' sv:=by
           rcases hc with⟨_,hc⟩ | ⟨h0,_⟩
           ·exact⟨_,_,_,hc,by decide⟩
           ·exact absurd rfl h0
          have HBQ:=Hd (HBW5.out.trans (ht6.below HBW5.out.size fun q hq h=>by omega));clear hc ht6;obtain⟨big9,bigAt9,told9,hrx,hex⟩:=hbad;obtain⟨y0,y1,y2,y3,y4,y5,y6,yf⟩:=RdB.cells hrx;have hneb:(4 != 0)=true:=by first | rfl | simp[hex]
          clear hrx hex yf;go_wp2_with fail
          go_quiet (fail)
          go_wp2_with fail
          go_ret3
          refine⟨below_drewN HBQ.out _,?_⟩;rw[HERR.out]
          all_goals rfl
def FitF (sizes:List Int)(f:Raw):Prop:=(∀v∈f.scope,0≤v∧v<sizes.length)∧f.scope.Nodup∧f.sizes=f.scope.map (fun v=>sizes.getD v.toNat 0)
theorem nodup_at {l:List Int}(h:l.Nodup):∀ {i j:Nat} {v:Int},l[i]?=some v→l[j]?=some v→i=j:=by
 intro i j v hi hj;obtain⟨hil,hie⟩:=List.getElem?_eq_some_iff.1 hi;obtain⟨hjl,hje⟩:=List.getElem?_eq_some_iff.1 hj;exact (List.getElem_inj h).1 (hie.trans hje.symm)
set_option maxRecDepth 100000 in
set_option maxHeartbeats 8000000 in
theorem fits_any {w:World}{g:Nat}{nm fv:Value}{K:Int}{SA:Option Addr}{sc:Nat}{sizes:List Int}{F:Nat→Prop}{v:Value}{f:Raw}(hg:Blk w g 34 #[nm,.int .i64 K,.slice SA sizes.length sc,fv])(hs:w.ownsRow 0 3 1 (.slice SA sizes.length sc) sizes.length (nums sizes))(hsl:sizes.length≤1000000)
 (hv:FunV w F v f K) (hok:okF f K) (hf:FitF sizes f) :
 Calls Tryz.prog 143 #[.pointer (some ⟨g,0,none⟩),v] w fun e w'=>e = .returned (.bool true)∧Below w.heap.size w w':=by
 obtain⟨v1,tg,rfl,⟨⟨A1,c1,rfl⟩,h1⟩,-,hT⟩:=hv;obtain⟨ts1,ts2,ts3⟩:=tpOf_same f K f.lines;have h6:=hok.1;have hb:=bone w (.cells #[.slice A1 f.scope.length c1,.pointer (some ⟨tg,0,none⟩)] 37);have hx:Blk (w.alloc (.cells #[.slice A1 f.scope.length c1,.pointer (some ⟨tg,0,none⟩)] 37)) w.heap.size 37 #[.slice A1 f.scope.length c1,.pointer (some ⟨tg,0,none⟩)]:=Blk.new _ _ _;have hTb:∀W,Below w.heap.size w W→TpV W tg F f.lines.length (tpOf f K f.lines):=fun W hW=>hT.keep (Tch.of_below hW (fun _=>False)) fun _ _ h=>h
 have hfl:f.scope.length=f.sizes.length:=by rw[hf.2.2];simp
 have HF:=Hd hf;have HG:=Hd hg;have HH1:=Hd h1;have HS:=Hd hs;obtain⟨wa,hwa⟩:∃wa,w.alloc (.cells #[.slice A1 f.scope.length c1,.pointer (some ⟨tg,0,none⟩)] 37)=wa:=⟨_,rfl⟩;obtain⟨xb,hxb⟩:∃xb,w.heap.size=xb:=⟨_,rfl⟩;rw[hwa,hxb]at hx;rw[hwa]at hb;have hk:=tk_any (hTb wa.drew ((show Below w.heap.size w wa.drew from⟨hb.os,hb.tape,hb.output,hb.size,hb.block⟩)))
 have har:∀W,Below w.heap.size w W→Calls Tryz.prog 174 #[.pointer (some ⟨tg,0,none⟩)] W fun e w'=>e = .returned (.int .i64 f.scope.length)∧Below W.heap.size W w':=fun W hW=>by
  have:=tarity_any (hTb W hW) (by rw[ts1];exact h6);rw[ts1,← hfl]at this;exact this
 rw[ts2]at hk;have HAR:=Hd har;have HB:=Hd hb;have HX:=Hd hx;have HXB:=Hd hxb;have HTB:=Hd hTb;have hga:=Blk.under hg hb;obtain⟨q0,q1,q2,q3,-⟩:=Blk.four (t:=34) hga;obtain⟨x0,x1⟩:=hx.two;have HFL:=Hd hfl;have HOK:=Hd hok;clear hg hs h1 hT hf hb hx hTb hga hok har hfl h6 ts1 ts2 ts3
 go_enter Tryz.func143,Tryz.ntmps143
 go_upto_region 1 with fail;clear hwa hxb
 go_cut [28] (fun b wq=>b = .bool false∧Below wa.heap.size wa wq)
 case first =>
  have y0:wa.drew.cell? ⟨xb,0,none⟩=some (.slice A1 f.scope.length c1):=x0;have y1:wa.drew.cell? ⟨xb,1,none⟩=some (.pointer (some ⟨tg,0,none⟩)):=x1;have y2:wa.drew.cell? ⟨g,1,none⟩=some (.int .i64 K):=q1;have hl1:xb<wa.heap.size∧g<wa.heap.size:=⟨Blk.lt HX.out,by have:=Blk.lt HG.out;have:=HB.out.size;omega⟩
  go_region_held3 (fun W=>W.cell? ⟨xb,0,none⟩=some (.slice A1 f.scope.length c1)∧W.cell? ⟨xb,1,none⟩=some (.pointer (some ⟨tg,0,none⟩))∧W.cell? ⟨g,1,none⟩=some (.int .i64 K)) (first | exact⟨y0,y1,y2⟩ | exact HS2 | exact HS3) (first
   |(go_at_call 64;refine hk.mono ?_;rintro e w2 ⟨rfl,hw2⟩;have HS2:w2.cell? ⟨xb,0,none⟩=some (.slice A1 f.scope.length c1)∧w2.cell? ⟨xb,1,none⟩=some (.pointer (some ⟨tg,0,none⟩))∧w2.cell? ⟨g,1,none⟩=some (.int .i64 K):=(by rw[← hw2];exact⟨y0,y1,y2⟩);have hbw2:Below wa.heap.size wa w2:=(by rw[← hw2];exact⟨rfl,rfl,rfl,Nat.le_refl _,fun _ _=>rfl⟩);have har:=HAR.out w2 (bto HB.out hbw2);have HB2:=Hd hbw2;clear hw2 hbw2)
   |(go_at_call 174;refine har.mono ?_;rintro e w3 ⟨rfl,hb3⟩;have HS3:w3.cell? ⟨xb,0,none⟩=some (.slice A1 f.scope.length c1)∧w3.cell? ⟨xb,1,none⟩=some (.pointer (some ⟨tg,0,none⟩))∧w3.cell? ⟨g,1,none⟩=some (.int .i64 K):=⟨((bcell hb3).1 xb 0 (World.block_lt_of_cell? _ _ HS2.1)).trans HS2.1,((bcell hb3).1 xb 1 (World.block_lt_of_cell? _ _ HS2.2.1)).trans HS2.2.1,((bcell hb3).1 g 1 (World.block_lt_of_cell? _ _ HS2.2.2)).trans HS2.2.2⟩;have HB3:=Hd hb3;clear hb3))
  all_goals
   go_wp2_with fail
   go_meet
   case rel=>exact⟨rfl,HB2.out.trans (HB3.out.mono HB2.out.size)⟩
 case rest =>
  obtain⟨rfl,hcut⟩:=hcut;have HBC:=Hd hcut;have hxc:=HX.out.under hcut;obtain⟨z0,z1⟩:=hxc.two;clear hcut q0 q1 q2 q3 x0 x1 hk;go_wp2_with fail
  go_loopw [5,6,32] (fun _ _ jv wr => ∃j:Nat,jv = .int .i64 j∧j≤f.scope.length∧Below wa.heap.size wa wr) (fun _ _ jv _=>f.scope.length-(intOf jv).toNat)
  case atStart=>exact⟨0,rfl,Nat.zero_le _,HBC.out⟩
  case round =>
   obtain⟨j,rfl,hj,hbw⟩:=hrel;by_cases hlt:j<f.scope.length
   ·have hB1:Below w.heap.size w wr:=HB.out.trans (hbw.mono HB.out.size)
    obtain⟨ad,v,rfl,_,hv,hc⟩:=(Reads.of_own (own_under HH1.out hB1)).num hlt;have hmem:=List.mem_of_getElem? hv;obtain⟨hv0,hv1⟩:=HF.out.1 v hmem;obtain⟨m,rfl⟩:∃m:Nat,v=(m:Int):=⟨v.toNat,by omega⟩;have hml:m<sizes.length:=by omega
    obtain⟨ad2,k,rfl,hb2l,hk,hc2⟩:=(Reads.of_own (own_under HS.out hB1)).num hml;have hsk:f.sizes[j]?=some k:=by rw[HF.out.2.2,List.getElem?_map,hv];simp[List.getD_eq_getElem?_getD,hk]
    have hga:=Blk.under HG.out hB1;obtain⟨q0,q1,q2,q3,-⟩:=Blk.four (t:=34) hga;obtain⟨x0,x1⟩:=(HX.out.under hbw).two;have hrd:∀W,Below wr.heap.size wr W→Reads W W.heap.size 1 (some ad) f.scope.length (nums f.scope):=fun W hW=>Reads.of_own (own_under (own_under HH1.out hB1) hW)
    have hj0:(0:Int)≤(j:Int):=Int.natCast_nonneg _;have hjs:(j:Int)<(f.sizes.length:Int):=by have:=HFL.out;omega
    have hj1:(j:Int)<(f.scope.length:Int):=by omega
    have hm0:(0:Int)≤(m:Int):=Int.natCast_nonneg _;have hm1:(m:Int)<(sizes.length:Int):=by omega
    have hidx:∀W,Below wr.heap.size wr W→Calls Tryz.prog 101 #[.slice (some ad) f.scope.length c1,.int .i64 m] W fun e w'=>e = .returned (.int .i64 j)∧Below W.heap.size W w':=fun W hW=>by
     refine (indexI_any (some ad) f.scope.length c1 f.scope m W (by have:=HOK.out.2.2.2.2.2.2.2;omega) (hrd W hW)).mono ?_;rintro e w' ⟨⟨r,rfl,hr⟩,hb'⟩;refine⟨?_,hb'⟩;rcases hr with⟨q,rfl,hq,hnq⟩ | ⟨_,hno⟩
     ·have:q=j:=nodup_at HF.out.2.1 hq hv
      rw[this]
     ·exact absurd hmem hno
    have hszc:∀W,Below wr.heap.size wr W→Calls Tryz.prog 63 #[.pointer (some ⟨tg,0,none⟩)] W fun e w'=>Copied W f.sizes e w':=fun W hW=>by
     have:=tsizes_any (HTB.out W (hB1.trans (hW.mono hB1.size))) (by rw[(tpOf_same f K f.lines).1];exact HOK.out.1);rw[(tpOf_same f K f.lines).1]at this;exact this
    have HIDX:=Hd hidx;have HSZC:=Hd hszc;have HSK:=Hd hsk;have HBW:=Hd hbw;have hxl:xb<wr.heap.size∧g<wr.heap.size∧ad2.block<wr.heap.size:=⟨Blk.lt ((HX.out.under hbw)),Blk.lt hga,by omega⟩;clear hv hk hsk hmem hga hrd hidx hszc hB1 hbw q0 q1 q3 z0 z1;have hd1:decide ((m:Int)<0)=false:=decide_eq_false (by omega);have hd2:decide ((sizes.length:Int)≤(m:Int))=false:=decide_eq_false (by omega);have hd3:((j:Int) != (j:Int))=false:=by simp
    have hd4:decide (sizes.length≤m)=false:=decide_eq_false (by omega);go_upto_region 6 with fail
    go_cut [32,71] from 32 to 72 (fun iv bv wq=>iv = .int .i64 j∧bv = .bool false∧Below wr.heap.size wr wq)
    case first =>
     have y0:wr.drew.cell? ⟨xb,0,none⟩=some (.slice (some ad) f.scope.length c1):=x0;have y1:wr.drew.cell? ⟨xb,1,none⟩=some (.pointer (some ⟨tg,0,none⟩)):=x1;have y2:wr.drew.cell? ⟨g,2,none⟩=some (.slice (some ad2) sizes.length sc):=q2;have y3:wr.drew.cell? (ad2.add m)=some (.int .i64 k):=hc2;have hxi:=HIDX.out wr.drew (Below.refl _ _).drew;refine wp_region_held_drew (S:=(fun W=>W.cell? ⟨xb,0,none⟩=some (.slice (some ad) f.scope.length c1)∧W.cell? ⟨xb,1,none⟩=some (.pointer (some ⟨tg,0,none⟩))∧W.cell? ⟨g,2,none⟩=some (.slice (some ad2) sizes.length sc)∧W.cell? (ad2.add m)=some (.int .i64 k))) (by kernel_rfl) ⟨y0,y1,y2,y3⟩ (fun hHeld=>?_);refine takes [0,1,2,3,4,5,6,7,8,9,10,11,12,13,14,16] (by assumption) (by kernel_rfl) (fun _ _ _ _ _ h=>h) ?_
     iterate 16
      conv=>whnf
      refine⟨?_,.inl ⟨by kernel_rfl,fun w hSw=>?_⟩,?_⟩
      rotate_left
      ·(try dsimp only at hSw);go_simp;try with_reducible rfl
      try simp only[Act.put,ya,yb,yc]
     refine Yt.nil ?_;refine wpAnyH_ready (rs := [15]) (by kernel_rfl) (by simp) ?_;refine AllReadyH.cons (o:={ dst:=some 52,op:=Op.call { callee:=Callee.value (Operand.func 101),args := #[Operand.tmp 50,Operand.tmp 51],argTypes := #[31,3] },type:=3,pos := "file.go:53",after := #[{ on:=13,ground:=Ground.data },{ on:=14,ground:=Ground.data },{ on:=11,ground:=Ground.chain },{ on:=11,ground:=Ground.guard }],guard:=some (11,false) }) rfl (fun K hK=>?_) AllReadyH.nil
     go_simp
     (refine hxi.mono ?_;rintro e w2 ⟨rfl,hb2⟩;have HS2:w2.cell? ⟨xb,0,none⟩=some (.slice (some ad) f.scope.length c1)∧w2.cell? ⟨xb,1,none⟩=some (.pointer (some ⟨tg,0,none⟩))∧w2.cell? ⟨g,2,none⟩=some (.slice (some ad2) sizes.length sc)∧w2.cell? (ad2.add m)=some (.int .i64 k):=⟨((bcell hb2).1 xb 0 hxl.1).trans y0,((bcell hb2).1 xb 1 hxl.1).trans y1,((bcell hb2).1 g 2 hxl.2.1).trans y2,(hb2.cell (p:=ad2.add m) (by rw[block_of_add];exact hxl.2.2)).trans y3⟩;have hb2':Below wr.heap.size wr w2:=⟨hb2.os,hb2.tape,hb2.output,hb2.size,hb2.block⟩;have hsc2:=HSZC.out w2 hb2';have HB2:=Hd hb2';clear hb2 hb2')
     try go_wp2_with fail
     refine hK.out _ _ ?_ (fun hHeld=>?_)
     ·exact HS2
     clear hK K
     try simp only[Act.put,ya,yb,yc]
     refine takes [17,18,19,20,21,26,27,28,29,30,31,32,23] (by assumption) (by kernel_rfl) (fun _ _ _ _ _ h=>h) ?_
     iterate 13
      conv=>whnf
      refine⟨?_,.inl ⟨by kernel_rfl,fun w hSw=>?_⟩,?_⟩
      rotate_left
      ·(try dsimp only at hSw);go_simp;try with_reducible rfl
      try simp only[Act.put,ya,yb,yc]
     refine Yt.nil ?_;refine wpAnyH_ready (rs := [22]) (by kernel_rfl) (by simp) ?_;refine AllReadyH.cons (o:={ dst:=some 59,op:=Op.call { callee:=Callee.value (Operand.func 63),args := #[Operand.tmp 58],argTypes := #[35] },type:=31,pos := "file.go:53",after := #[{ on:=21,ground:=Ground.data },{ on:=19,ground:=Ground.chain },{ on:=19,ground:=Ground.guard }],guard:=some (19,false) }) rfl (fun K hK=>?_) AllReadyH.nil
     go_simp
     (refine hsc2.mono ?_;rintro e w3 ⟨A3,c3,rfl,ho3,hb3⟩;have HS3:w3.cell? ⟨xb,0,none⟩=some (.slice (some ad) f.scope.length c1)∧w3.cell? ⟨xb,1,none⟩=some (.pointer (some ⟨tg,0,none⟩))∧w3.cell? ⟨g,2,none⟩=some (.slice (some ad2) sizes.length sc)∧w3.cell? (ad2.add m)=some (.int .i64 k):=⟨((bcell hb3).1 xb 0 (World.block_lt_of_cell? _ _ HS2.1)).trans HS2.1,((bcell hb3).1 xb 1 (World.block_lt_of_cell? _ _ HS2.2.1)).trans HS2.2.1,((bcell hb3).1 g 2 (World.block_lt_of_cell? _ _ HS2.2.2.1)).trans HS2.2.2.1,(hb3.cell (p:=ad2.add m) (World.block_lt_of_cell? _ _ HS2.2.2.2)).trans HS2.2.2.2⟩;obtain⟨ad3,k3,hA3,_,hk3,hc3⟩:=(Reads.of_own ho3).num (k:=j) (by omega);obtain rfl:k3=k:=Option.some.inj (hk3.symm.trans HSK.out);subst hA3;have HB3:=Hd hb3;clear ho3 hb3 hk3)
     try go_wp2_with fail
     refine hK.out _ _ ?_ (fun hHeld=>?_)
     ·exact HS3
     clear hK K
     try simp only[Act.put,ya,yb,yc]
     refine takes [24] (by assumption) (by kernel_rfl) (fun _ _ _ _ _ h=>h) ?_
     iterate 1
      conv=>whnf
      refine⟨?_,.inl ⟨by kernel_rfl,fun w hSw=>?_⟩,?_⟩
      rotate_left
      ·(try dsimp only at hSw);go_simp;try with_reducible rfl
      try simp only[Act.put,ya,yb,yc]
     refine Yt.nil ?_;refine wpAnyH_ready (rs := [25]) (by kernel_rfl) (by simp) ?_;refine AllReadyH.cons (o:={ dst:=some 62,op:=Op.load 3 (Operand.tmp 61),type:=3,pos := "file.go:53",after := #[{ on:=24,ground:=Ground.data },{ on:=19,ground:=Ground.guard }],guard:=some (19,false) }) rfl (fun K hK=>?_) AllReadyH.nil
     go_simp;refine hK.out _ _ ?_ (fun hHeld=>?_)
     ·exact HS3
     clear hK K
     try simp only[Act.put,ya,yb,yc]
     refine takes [33,34] (by assumption) (by kernel_rfl) (fun _ _ _ _ _ h=>h) ?_
     iterate 2
      conv=>whnf
      refine⟨?_,.inl ⟨by kernel_rfl,fun w hSw=>?_⟩,?_⟩
      rotate_left
      ·(try dsimp only at hSw);go_simp;try with_reducible rfl
      try simp only[Act.put,ya,yb,yc]
     refine Yt.nil ?_;refine wpAnyH_done (by kernel_rfl) ?_ _
     all_goals
      go_wp2_with fail
      go_meet
      case rel=>exact⟨rfl,rfl,HB2.out.trans (HB3.out.mono HB2.out.size)⟩
    case rest =>
     obtain⟨rfl,rfl,hbc⟩:=hcut;have hsc6:f.scope.length≤6:=HOK.out.2.2.2.2.2.2.2;have HBC2:=Hd hbc;clear hbc x0 x1 q2 hc hc2;go_wp2_with fail;go_roundw
     case measure=>simp[intOf];omega
     case rel=>exact⟨j+1,by go_num,by omega,HBW.out.trans (HBC2.out.mono HBW.out.size)⟩
   ·obtain rfl:j=f.scope.length:=by omega
    have HBW:=Hd (HB.out.trans (hbw.mono HB.out.size));clear hbw z0 z1;go_wp2_with fail;go_ret;exact⟨rfl,HBW.out⟩
set_option maxRecDepth 100000 in
theorem unfit_any {w:World}{g:Nat}{nm fv:Value}{K:Int}{SA:Option Addr}{sc:Nat}{sizes:List Int}{F:Nat→Prop}{v:Value}{f:Raw}(hg:Blk w g 34 #[nm,.int .i64 K,.slice SA sizes.length sc,fv])(hs:w.ownsRow 0 3 1 (.slice SA sizes.length sc) sizes.length (nums sizes))(hsl:sizes.length≤1000000)
 (hv:FunV w F v f K) (hok:okF f K) (hf:FitF sizes f) :
 Calls Tryz.prog 97 #[.pointer (some ⟨g,0,none⟩),v] w fun e w'=>e = .returned (.bool false)∧Below w.heap.size w w':=by
 have hv0:=hv;obtain⟨v1,tg,rfl,⟨⟨A1,c1,rfl⟩,-⟩,-,-⟩:=hv0;have hb:=bone w (.cells #[.slice A1 f.scope.length c1,.pointer (some ⟨tg,0,none⟩)] 37);have hft:=fits_any (Blk.under hg hb) (own_under hs hb) hsl (hv.off (S:=fun _=>False) (Tch.of_below hb _) fun k h=>h.elim) hok hf;have HB:=Hd hb;clear hv hg hs hb hok hf
 go_enter Tryz.func97,Tryz.ntmps97
 go_wp2_with fail;refine hft.mono ?_;rintro e w2 ⟨rfl,hb2⟩;clear hft;have HB2:=Hd (bto HB.out hb2);clear hb2;go_wp2_with fail;go_ret;exact⟨rfl,HB2.out⟩
set_option maxRecDepth 100000 in
set_option maxHeartbeats 8000000 in
theorem tput2_any {w:World}{g n:Nat}{F:Nat→Prop}{T:TpH}(hT:TpV w g F n T)(hok:okT T)(A:Option Addr)(m cap:Nat)(t:List Int)(c:Int)(hr:Reads w w.heap.size 1 A m (nums t))(hin:InS T.sizes t)(hc:inB c T.k=true)(hn:n≤1000000) :
 Calls Tryz.prog 65 #[.pointer (some ⟨g,0,none⟩),.slice A m cap,.int .i64 c] w fun e w'=>e = .returned (.int .i64 0)∧TpV w' g F (if c=T.other then n else n+1) (putF T t c)∧Tch w w' (fun k=>F k∧∀t cs,¬ Blk w k t cs):=by
 obtain⟨h6,hs,ho⟩:=hok;have hk:=tkey_any hT h6 hs A m cap t hr hin;have hT0:=Hd hT;obtain⟨hFg,SA,sc,mb,D,hb,hown,hf,hm,hmb,hd⟩:=hT;have ht:=hin.tpl h6 hs;obtain⟨a0,a1,a2,a3,a4,a5,hpd⟩:=six ht.pad.1;rw[hpd]at hk
 have hkey:keyOf Tryz.prog 166 (.agg #[.int .i8 a0,.int .i8 a1,.int .i8 a2,.int .i8 a3,.int .i8 a4,.int .i8 a5])=some (keyL (pad t)):=by
  have:=keyOf6 ht.pad.1 ht.pad.2;rw[hpd]at this ⊢;exact this
 have hi:=in_any c T.k;rw[hc]at hi
 have hcw:(Lit.int .i64 c).wf=true:=by
  unfold inB at hc;rw[decide_eq_true_eq]at hc;exact WalkArith.wf_i64 (by omega)
 have HB:=Hd hb;have HOWN:=Hd hown;have HF:=Hd hf;have HM:=Hd hm;have HMB:=Hd hmb;have HD:=Hd hd;have HT:=Hd ht;have HFG:=Hd hFg;clear hFg hb hown hf hm hmb hd ht hpd hr hin hc h6 hs ho
 go_enter Tryz.func65,Tryz.ntmps65
 go_wp2_with fail;refine hk.mono ?_;rintro e w1 ⟨rfl,hb1⟩;clear hk;rw[show keyV [a0,a1,a2,a3,a4,a5] = .agg #[.int .i8 a0,.int .i8 a1,.int .i8 a2,.int .i8 a3,.int .i8 a4,.int .i8 a5] from rfl];have hB2:=bto hb1 (bone w1 (.cells #[.int .i8 a0,.int .i8 a1,.int .i8 a2,.int .i8 a3,.int .i8 a4,.int .i8 a5] 166));have hx2:Blk (w1.alloc (.cells #[.int .i8 a0,.int .i8 a1,.int .i8 a2,.int .i8 a3,.int .i8 a4,.int .i8 a5] 166)) w1.heap.size 166 #[.int .i8 a0,.int .i8 a1,.int .i8 a2,.int .i8 a3,.int .i8 a4,.int .i8 a5]:=Blk.new _ _ _;have hb2:=Blk.under HB.out hB2;obtain⟨q0,q1,q2,q3,-⟩:=Blk.four (t:=103) hb2;obtain⟨x0,x1,x2,x3,x4,x5,-⟩:=Blk.six (t:=166) hx2;have hi2:=hi (w1.alloc (.cells #[.int .i8 a0,.int .i8 a1,.int .i8 a2,.int .i8 a3,.int .i8 a4,.int .i8 a5] 166));obtain⟨w2,hw2⟩:∃w2,w1.alloc (.cells #[.int .i8 a0,.int .i8 a1,.int .i8 a2,.int .i8 a3,.int .i8 a4,.int .i8 a5] 166)=w2:=⟨_,rfl⟩;rw[hw2]at q0 q1 q2 q3 x0 x1 x2 x3 x4 x5 hi2 hB2 hb2;have HB2:=Hd hB2;have hm2:w2.ownsMap Tryz.prog 166 (plainElem Tryz.prog 2) mb n D:=map_tch HM.out (Tch.of_below hB2 (fun _=>False)) id;have HM2:=Hd hm2;clear hB2 hb2 hx2 hi hm2 hb1
 have hdone:∀ (w3:World) (N:Nat) (D':DataW Unit) (f':List Int→Option Int),w3.ownsMap Tryz.prog 166 (plainElem Tryz.prog 2) mb N D'→w2.drew.grownBy w3 (some mb)→TD D' T.sizes.length f'→TpV w3 g F N { T with f:=f' }∧Tch w w3 (fun k=>F k∧∀t cs,¬ Blk w k t cs):=fun w3 N D' f' h1 h2 h3=>by
  have t2:Tch w2 w3 (fun k=>k=mb):=((Tch.refl w2 (fun k=>k=mb)).drew).trans (Tch.of_grown h2 (S:=fun k=>k=mb) fun q _ hq=>Option.some.inj hq) fun _ _ h=>h
  have t1:Tch w w3 (fun k=>k=mb):=(Tch.of_below HB2.out (fun k=>k=mb)).trans t2 fun _ _ h=>h
  have hne:∀cs t,¬ Blk w mb t cs:=fun cs t hb=>by
   obtain⟨es,clock,hh,_⟩:=HM.out;unfold Blk at hb;rw[hb]at hh;cases hh
  refine⟨⟨HFG.out,SA,sc,mb,D',t1.blk HB.out (fun e=>hne _ _ (by rw[← e];exact HB.out)),own_off HOWN.out t1 (fun k hk => .inr fun cs hb=>hne cs _ (by rw[← hk];exact hb)),HF.out,h1,HMB.out,h3⟩,t1.mono fun k _ e=>by rw[e];exact⟨HMB.out,fun t cs=>hne cs t⟩⟩
 have HDONE:=Hd hdone;clear hdone;go_wp2_with fail;refine hi2.mono ?_;rintro e w3 ⟨rfl,rfl⟩;clear hi2;by_cases hco:c=T.other
 ·have HCO:=Hd hco
  go_upto_region 8 with fail;clear hco hw2
  go_still_tail 5,(by kernel_rfl)
  change wpList _ _ _ _ _ w2.drew
  obtain⟨wd,hwd⟩:∃wd,w2.drew=wd:=⟨_,rfl⟩;have HD2:=HDONE.out;have hmd:=HM2.out.drew;rw[hwd]at HD2 hmd ⊢;have HD3:=Hd HD2;clear HD2 hwd
  go_wp2_with (first
   |(at_delete;refine wpList_delete_own _ rfl _ _ 101 166 rfl _ keyed6 Tryz.underlying101 _ mb n D rfl hmd _ (keyL (pad t)) rfl hkey ?_;intro w4 hown4 hturn4;have HO4:=Hd hown4;have HT4:=Hd hturn4;clear hown4 hturn4)
   |fail)
  go_ret;obtain⟨h1,h2⟩:=HD3.out w4 n _ (fun u=>if u=t then none else T.f u) HO4.out HT4.out.grown (td_del HD.out HT.out);exact⟨rfl,by have e:=HCO.out;unfold putF;simp only[e,if_true];exact h1,h2⟩
 ·have HCO:=Hd hco
  go_upto_region 2 with fail;clear hw2 hco
  go_still_tail 6,(by kernel_rfl)
  change wpList _ _ _ _ _ w2.drew
  obtain⟨wd,hwd⟩:∃wd,w2.drew=wd:=⟨_,rfl⟩;have HD2:=HDONE.out;have hmd:=HM2.out.drew;rw[hwd]at HD2 hmd ⊢;have HD3:=Hd HD2;clear HD2 hwd
  go_wp2_with (first
   |(at_mapUpdate;refine wpList_mapUpdate_own _ rfl _ _ _ 101 rfl 166 2 keyed6 Tryz.underlying101 _ mb n D rfl hmd (by simp only[maxLen];omega) _ _ (keyL (pad t)) rfl rfl hkey _ [] (plainElem_int Tryz.underlying2 hcw) ?_;intro w4 hown4 hgrow4;have HO4:=Hd hown4;have HG4:=Hd hgrow4;clear hown4 hgrow4)
   |fail)
  go_ret;obtain⟨h1,h2⟩:=HD3.out w4 (n+1) _ (fun u=>if u=t then some c else T.f u) HO4.out HG4.out (td_put HD.out HM2.out.isMap HT.out);exact⟨rfl,by have e:=HCO.out;unfold putF;simp only[e,if_false];exact h1,h2⟩
end Go.Proofs.YtjpkkkphhaajgaaGreatDoor.wcp
