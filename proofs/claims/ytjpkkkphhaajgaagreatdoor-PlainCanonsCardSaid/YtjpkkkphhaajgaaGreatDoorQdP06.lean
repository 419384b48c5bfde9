/- a part -/
import Derived.Test.YtjpkkkphhaajgaaGreatDoorQdP01
import Derived.Lib.ItoaLen
set_option linter.all false
namespace Go.Proofs.YtjpkkkphhaajgaaGreatDoor.wcp
open Go scn
def keyB (l:List Int):List UInt8:=l.flatMap fun v=>Lib.itoa v ++ [32]
theorem keyB_snoc (l:List Int)(v:Int):keyB (l ++ [v])=keyB l++(Lib.itoa v ++ [32]):=by simp[keyB]
theorem keyB_len:∀ (l:List Int),(∀v∈l,(Lib.itoa v).length≤21)→(keyB l).length≤22*l.length:=by
 intro l
 induction l with
 |nil=>intro _;exact Nat.le_refl _
 | cons v l ih =>
   intro h;have h1:=h v (by simp);have h2:=ih fun x hx=>h x (by simp[hx])
   have e:keyB (v::l)=(Lib.itoa v ++ [32])++keyB l:=rfl;rw[e];simp only[List.length_append,List.length_cons,List.length_nil];omega
theorem cut_space:∀ {a b x y:List UInt8},(∀c∈a,c≠32)→(∀c∈b,c≠32)→a++(32::x)=b++(32::y)→a=b∧x=y:=by
 intro a
 induction a with
 | nil =>
   intro b x y ha hb h
   cases b with
   |nil=>injection h with _ h;exact⟨rfl,h⟩
   | cons c b =>
     rw[List.nil_append,List.cons_append]at h;injection h with h1 _
     exact absurd h1.symm (hb c (by simp))
 | cons d a ih =>
   intro b x y ha hb h
   cases b with
   | nil =>
     rw[List.nil_append,List.cons_append]at h;injection h with h1 _
     exact absurd h1 (ha d (by simp))
   | cons c b =>
     rw[List.cons_append,List.cons_append]at h;injection h with h1 h2
     obtain⟨rfl,h4⟩:=ih (fun c hc=>ha c (by simp[hc])) (fun c hc=>hb c (by simp[hc])) h2;exact⟨by rw[h1],h4⟩
theorem keyB_inj (hs:∀v:Int,∀c∈Lib.itoa v,c≠32)(lim:Int→Prop)(hi:∀u v,lim u→lim v→Lib.itoa u=Lib.itoa v→u=v) :
 ∀ {a b:List Int},(∀v∈a,lim v)→(∀v∈b,lim v)→keyB a=keyB b→a=b:=by
 intro a
 induction a with
 | nil =>
   intro b _ _ h
   cases b with
   |nil=>rfl
   | cons v b =>
     have e:keyB (v::b)=Lib.itoa v++(32::keyB b):=by simp[keyB]
     rw[e]at h;have:=congrArg List.length h
     simp[keyB]at this
 | cons u a ih =>
   intro b ha hb h;have e1:keyB (u::a)=Lib.itoa u++(32::keyB a):=by simp[keyB]
   cases b with
   | nil =>
     rw[e1]at h;have:=congrArg List.length h
     simp[keyB]at this
   | cons v b =>
     have e2:keyB (v::b)=Lib.itoa v++(32::keyB b):=by simp[keyB]
     rw[e1,e2]at h;obtain⟨h1,h2⟩:=cut_space (hs u) (hs v) h;rw[hi u v (ha u (by simp)) (hb v (by simp)) h1,ih (fun x hx=>ha x (by simp[hx])) (fun x hx=>hb x (by simp[hx])) h2]
variable {en ee:Int}
theorem Res.bind_assoc {α β γ:Type}(r:Res α)(f:α→Ps→Res β)(g:β→Ps→Res γ):(r.bind f).bind g=r.bind fun a s=>(f a s).bind g:=by cases r<;>rfl
def Res.good {α:Type}:Res α→Bool | .ok _ _=>true | .bad _ _=>false
theorem ptup_acc:∀ (ks:List Int) (out:List Int) (s:Ps),ptup en ee ks out s=(ptup en ee ks [] s).bind fun t s => .ok (out++t) s:=by
 intro ks
 induction ks with
 |nil=>intro out s;show Res.ok out s=Res.ok (out ++ []) s;rw[List.append_nil]
 | cons k ks ih =>
   intro out s;unfold ptup;rw[Res.bind_assoc]
   congr 1
   funext v s'
   rw[ih (out ++ [v.1]),ih ([] ++ [v.1]),Res.bind_assoc]
   congr 1
   funext t s''
   rw[Res.bind_ok,List.append_assoc];rfl
theorem ptup_snoc:∀ (ks:List Int) (k:Int) (s:Ps),ptup en ee (ks ++ [k]) [] s=(ptup en ee ks [] s).bind fun t s=>(pnum en ee 0 (k-1) s).bind fun v s => .ok (t ++ [v.1]) s:=by
 intro ks
 have:∀ (ks:List Int) (k:Int) (out:List Int) (s:Ps),ptup en ee (ks ++ [k]) out s=(ptup en ee ks out s).bind fun t s=>(pnum en ee 0 (k-1) s).bind fun v s => .ok (t ++ [v.1]) s:=by
  intro ks
  induction ks with
  |nil=>intro k out s;rfl
  | cons x ks ih =>
    intro k out s;rw[List.cons_append];show (pnum en ee 0 (x-1) s).bind _=((pnum en ee 0 (x-1) s).bind _).bind _;rw[Res.bind_assoc]
    congr 1
    funext v s'
    exact ih k _ s'
 exact fun k s=>this ks k [] s
def pline (sizes:List Int)(out:List (List Int × Int))(s:Ps):Res (List (List Int × Int)) :=
 (ptup en ee sizes [] s).bind fun t s=>(pnum en ee 0 far s).bind fun c s=>if t∈out.map Prod.fst then .bad 4 c.2 else .ok (out ++ [(t,c.1)]) s
theorem plines_snoc (sizes:List Int):∀ (k:Nat) (out:List (List Int × Int)) (s:Ps),plines en ee sizes (k+1) out s=(plines en ee sizes k out s).bind fun out s=>pline (en:=en) (ee:=ee) sizes out s:=by
 intro k
 induction k with
 | zero =>
   intro out s;show _=pline sizes out s
   rfl
 | succ k ih =>
   intro out s;show ((ptup en ee sizes [] s).bind _)=(((ptup en ee sizes [] s).bind _)).bind _;rw[Res.bind_assoc]
   congr 1
   funext t s
   rw[Res.bind_assoc]
   congr 1
   funext c s
   by_cases h:t∈out.map Prod.fst
   ·rw[if_pos h,if_pos h];rfl
   ·rw[if_neg h,if_neg h];exact ih _ _
theorem plines_bad (sizes:List Int){e x:Int}{i:Nat}{s:Ps}(h:plines en ee sizes i [] s = .bad e x):∀n,i≤n→plines en ee sizes n [] s = .bad e x:=by
 intro n hn
 induction n with
 |zero=>rw[show i=0 by omega]at h;exact h
 | succ n ih =>
   rcases Nat.lt_or_eq_of_le hn with h1 | h1
   ·rw[plines_snoc,ih (by omega)];rfl
   ·rw[← h1];exact h
theorem pnum_ok {lo hi:Int}{s s':Ps}{v:Int × Int}(h:pnum en ee lo hi s = .ok v s'):lo≤v.1∧v.1≤hi∧s'.sh=s.sh∧s'.told=s.told∧s'.big=s.big∧s'.l.length+1=s.l.length:=by
 obtain⟨l,b,t,sh⟩:=s;unfold pnum pword at h
 cases l with
 |nil=>cases h
 | cons w r =>
   dsimp only at h;rw[Res.bind_ok]at h;split at h
   ·cases h
   ·rename_i hh
    injection h with h1 h2
    subst h1 h2;refine⟨?_,?_,rfl,rfl,rfl,rfl⟩<;>dsimp only<;>omega
theorem ptup_ok:∀ (ks:List Int) {s s':Ps} {t:List Int},ptup en ee ks [] s = .ok t s'→t.length=ks.length∧(∀v∈t,0≤v)∧s'.sh=s.sh∧s'.told=s.told∧s'.l.length+ks.length=s.l.length:=by
 intro ks
 induction ks with
 |nil=>intro s s' t h;injection h with h1 h2;subst h1 h2;simp
 | cons k ks ih =>
   intro s s' t h;unfold ptup at h
   cases hp:pnum en ee 0 (k-1) s with
   |bad e x=>rw[hp]at h;cases h
   | ok v s1 =>
     rw[hp,Res.bind_ok,ptup_acc]at h;obtain⟨p1,p2,p3,p4,p5,p6⟩:=pnum_ok hp
     cases hq:ptup en ee ks [] s1 with
     |bad e x=>rw[hq]at h;cases h
     | ok t2 s2 =>
       rw[hq,Res.bind_ok]at h;injection h with h1 h2
       subst h1 h2;obtain⟨q1,q2,q3,q4,q5⟩:=ih hq;refine⟨by simp[q1],fun x hx=>?_,q3.trans p3,q4.trans p4,by simp;omega⟩;rcases List.mem_append.1 hx with hx | hx
       ·simp at hx;rw[hx];exact p1
       ·exact q2 x hx
theorem pline_ok {sizes:List Int}{out out':List (List Int × Int)}{s s':Ps}(h:pline (en:=en) (ee:=ee) sizes out s = .ok out' s') :
 ∃t c,out'=out ++ [(t,c)]∧t∉out.map Prod.fst∧t.length=sizes.length∧s'.sh=s.sh∧s'.told=s.told∧s'.l.length+1≤s.l.length∧0≤c∧c≤far:=by
 unfold pline at h
 cases hp:ptup en ee sizes [] s with
 |bad e x=>rw[hp]at h;cases h
 | ok t s1 =>
   rw[hp,Res.bind_ok]at h
   cases hq:pnum en ee 0 far s1 with
   |bad e x=>rw[hq]at h;cases h
   | ok c s2 =>
     rw[hq,Res.bind_ok]at h;obtain⟨p1,p2,p3,p4,p5⟩:=ptup_ok _ hp;obtain⟨q1,q2,q3,q4,q5,q6⟩:=pnum_ok hq;split at h
     ·cases h
     ·rename_i hn
      injection h with h1 h2
      subst h1 h2;exact⟨t,c.1,rfl,hn,p1,q3.trans p3,q4.trans p4,by omega,q1,q2⟩
theorem plines_ok {sizes:List Int}:∀ (k:Nat) {s s':Ps} {out:List (List Int × Int)},plines en ee sizes k [] s = .ok out s'→out.length=k∧s'.sh=s.sh∧s'.told=s.told∧s'.l.length+k≤s.l.length:=by
 intro k
 induction k with
 |zero=>intro s s' out h;injection h with h1 h2;subst h1 h2;simp
 | succ k ih =>
   intro s s' out h;rw[plines_snoc]at h
   cases hp:plines en ee sizes k [] s with
   |bad e x=>rw[hp]at h;cases h
   | ok o s1 =>
     rw[hp,Res.bind_ok]at h;obtain⟨p1,p2,p3,p4⟩:=ih hp;obtain⟨t,c,rfl,_,_,q3,q4,q5,_⟩:=pline_ok h;exact⟨by simp[p1],q3.trans p2,q4.trans p3,by omega⟩
theorem plarge_l (is:Bool)(x:Int)(s:Ps):(plarge is x s).l=s.l∧(plarge is x s).sh=s.sh∧(plarge is x s).told=s.told:=by
 unfold plarge;split<;>exact⟨rfl,rfl,rfl⟩
theorem pall_ok {sizes:List Int}{s s':Ps}{out:List (List Int × Int)}(h:pall en ee sizes s = .ok out s')(h0:0≤s.told):s'.sh=s.sh∧s'.l.length+1≤s.l.length∧0≤s'.told∧s'.told+s'.l.length≤s.told+s.l.length:=by
 unfold pall at h
 cases hp:pnum en ee (-far) far s with
 |bad e x=>rw[hp]at h;cases h
 | ok n s1 =>
   rw[hp,Res.bind_ok]at h;obtain⟨p1,p2,p3,p4,p5,p6⟩:=pnum_ok hp;split at h
   ·split at h
    ·cases h
    ·split at h
     ·injection h with h1 h2
      subst h1 h2;exact⟨p3,by omega,by omega,by omega⟩
     ·cases h
   ·obtain⟨q1,q2,q3,q4⟩:=plines_ok _ h
    obtain⟨l1,l2,l3⟩:=plarge_l (decide (min (s1.told+n.1) far>16384)) n.2 { s1 with told:=min (s1.told+n.1) far };rw[l1]at q4;rw[l2]at q2;rw[l3]at q3;dsimp only at q2 q3 q4;have:(0:Int)≤far:=by decide
    refine⟨q2.trans p3,by omega,by omega,by omega⟩
theorem pscope_ok (n:Int):∀ (k:Nat) {out out':List Int} {s s':Ps},pscope en ee n k out s = .ok out' s'→out'.length=out.length+k∧s'.sh=s.sh∧s'.told=s.told∧s'.big=s.big∧s'.l.length+k=s.l.length∧((∀v∈out,0≤v∧v<n)→∀v∈out',0≤v∧v<n)∧(out.Nodup→out'.Nodup):=by
 intro k
 induction k with
 |zero=>intro out out' s s' h;injection h with h1 h2;subst h1 h2;exact⟨by simp,rfl,rfl,rfl,by simp,id,id⟩
 | succ k ih =>
   intro out out' s s' h;unfold pscope at h
   cases hp:pnum en ee 0 (n-1) s with
   |bad e x=>rw[hp]at h;cases h
   | ok v s1 =>
     rw[hp,Res.bind_ok]at h;obtain⟨p1,p2,p3,p4,p5,p6⟩:=pnum_ok hp;split at h
     ·cases h
     ·rename_i hm
      obtain⟨q1,q2,q3,q4,q5,q6,q7⟩:=ih h;refine⟨by rw[q1];simp;omega,q2.trans p3,q3.trans p4,q4.trans p5,by omega,fun hh=>q6 fun x hx=>?_,fun hh=>q7 ?_⟩
      ·rcases List.mem_append.1 hx with hx | hx
       ·exact hh x hx
       ·simp at hx;subst hx;omega
      ·rw[List.nodup_append]
       refine⟨hh,by simp,fun a ha b hb=>?_⟩;simp at hb;subst hb;exact fun e=>hm (by rw[← e];exact ha)
end Go.Proofs.YtjpkkkphhaajgaaGreatDoor.wcp
namespace Go.Proofs.YtjpkkkphhaajgaaGreatDoor.wcp
open Go scn
variable {en ee:Int}
def psize1 (most:Int)(out:List Int)(s:Ps):Res (List Int):=(pnum en ee 1 most s).bind fun v s => .ok (out ++ [v.1]) (plarge (decide (v.1>32)) v.2 s)
theorem psizes_snoc (most:Int):∀ (k:Nat) (out:List Int) (s:Ps),psizes en ee most (k+1) out s=(psizes en ee most k out s).bind fun out s=>psize1 (en:=en) (ee:=ee) most out s:=by
 intro k
 induction k with
 |zero=>intro out s;rfl
 | succ k ih =>
   intro out s;show ((pnum en ee 1 most s).bind _)=(((pnum en ee 1 most s).bind _)).bind _;rw[Res.bind_assoc]
   congr 1
   funext v s
   exact ih _ _
theorem psizes_bad {most e x:Int}{i:Nat}{s:Ps}(h:psizes en ee most i [] s = .bad e x):∀n,i≤n→psizes en ee most n [] s = .bad e x:=by
 intro n hn
 induction n with
 |zero=>rw[show i=0 by omega]at h;exact h
 | succ n ih =>
   rcases Nat.lt_or_eq_of_le hn with h1 | h1
   ·rw[psizes_snoc,ih (by omega)];rfl
   ·rw[← h1];exact h
theorem psizes_ok {most:Int}:∀ (k:Nat) {s s':Ps} {out:List Int},psizes en ee most k [] s = .ok out s'→out.length=k∧(∀v∈out,1≤v∧v≤most)∧s'.sh=s.sh∧s'.told=s.told∧s'.l.length+k=s.l.length:=by
 intro k
 induction k with
 |zero=>intro s s' out h;injection h with h1 h2;subst h1 h2;simp
 | succ k ih =>
   intro s s' out h;rw[psizes_snoc]at h
   cases hp:psizes en ee most k [] s with
   |bad e x=>rw[hp]at h;cases h
   | ok o s1 =>
     rw[hp,Res.bind_ok]at h;obtain⟨p1,p2,p3,p4,p5⟩:=ih hp;unfold psize1 at h
     cases hq:pnum en ee 1 most s1 with
     |bad e x=>rw[hq]at h;cases h
     | ok v s2 =>
       rw[hq,Res.bind_ok]at h;injection h with h1 h2
       subst h1 h2;obtain⟨q1,q2,q3,q4,q5,q6⟩:=pnum_ok hq;obtain⟨l1,l2,l3⟩:=plarge_l (decide (v.1>32)) v.2 s2;refine⟨by simp[p1],fun x hx=>?_,by rw[l2,q3,p3],by rw[l3,q4,p4],by rw[l1];omega⟩;rcases List.mem_append.1 hx with hx | hx
       ·exact p2 x hx
       ·rw[List.mem_singleton.1 hx];exact⟨q1,q2⟩
theorem pfuns_snoc (all:List Int):∀ (k:Nat) (out:List Raw) (s:Ps),pfuns en ee all (k+1) out s=(pfuns en ee all k out s).bind fun out s=>(pfun en ee all s).bind fun f s => .ok (out ++ [f]) s:=by
 intro k
 induction k with
 |zero=>intro out s;rfl
 | succ k ih =>
   intro out s;show ((pfun en ee all s).bind _)=(((pfun en ee all s).bind _)).bind _;rw[Res.bind_assoc]
   congr 1
   funext v s
   exact ih _ _
theorem pfuns_bad {all:List Int}{e x:Int}{i:Nat}{s:Ps}(h:pfuns en ee all i [] s = .bad e x):∀n,i≤n→pfuns en ee all n [] s = .bad e x:=by
 intro n hn
 induction n with
 |zero=>rw[show i=0 by omega]at h;exact h
 | succ n ih =>
   rcases Nat.lt_or_eq_of_le hn with h1 | h1
   ·rw[pfuns_snoc,ih (by omega)];rfl
   ·rw[← h1];exact h
def Within (N:Nat)(s:Ps):Prop:=0≤s.told∧s.told+s.l.length≤N∧s.sh.length+s.l.length≤N
theorem pfun_ok {all:List Int}{s s':Ps}{f:Raw}(h:pfun en ee all s = .ok f s')(h0:0≤s.told):s'.l.length+1≤s.l.length∧0≤s'.told∧s'.told+s'.l.length≤s.told+s.l.length∧s'.sh.length+s'.l.length≤s.sh.length+s.l.length:=by
 unfold pfun at h
 cases h1:pnum en ee (-far) far s with
 |bad e x=>rw[h1]at h;cases h
 | ok a s1 =>
   rw[h1,Res.bind_ok]at h;obtain⟨_,_,a3,a4,_,a6⟩:=pnum_ok h1
   cases h2:pscope en ee all.length a.1.natAbs [] s1 with
   |bad e x=>rw[h2]at h;cases h
   | ok sc s2 =>
     rw[h2,Res.bind_ok]at h;obtain⟨b1,b2,b3,b4,b5,b6,b7⟩:=pscope_ok _ _ h2
     cases h3:pnum en ee 0 far (plarge (decide ((a.1.natAbs:Int)>6) || great (sc.map fun v=>all.getD v.toNat 0)) a.2 s2) with
     |bad e x=>rw[h3]at h;cases h
     | ok o s3 =>
       rw[h3,Res.bind_ok]at h;obtain⟨_,_,c3,c4,_,c6⟩:=pnum_ok h3;obtain⟨l1,l2,l3⟩:=plarge_l (decide ((a.1.natAbs:Int)>6) || great (sc.map fun v=>all.getD v.toNat 0)) a.2 s2;rw[l2]at c3;rw[l3]at c4;rw[l1]at c6
       cases h4:pall en ee (sc.map fun v=>all.getD v.toNat 0) s3 with
       |bad e x=>rw[h4]at h;cases h
       | ok ls s4 =>
         rw[h4,Res.bind_ok]at h;obtain⟨d1,d2,d3,d4⟩:=pall_ok h4 (by rw[c4,b3,a4];exact h0);injection h with e1 e2
         subst e2;have hsh:s4.sh=s.sh:=by rw[d1,c3,b2,a3]
         split
         ·dsimp only
          rw[List.length_append,hsh];simp only[List.length_cons,List.length_nil];refine⟨by omega,d3,by omega,by omega⟩
         ·rw[hsh]
          refine⟨by omega,d3,by omega,by omega⟩
theorem pfuns_ok {all:List Int}{N:Nat}:∀ (k:Nat) {s s':Ps} {out:List Raw},pfuns en ee all k [] s = .ok out s'→Within N s→out.length=k∧Within N s'∧s'.l.length+k≤s.l.length:=by
 intro k
 induction k with
 |zero=>intro s s' out h hw;injection h with h1 h2;subst h1 h2;exact⟨rfl,hw,by omega⟩
 | succ k ih =>
   intro s s' out h hw;rw[pfuns_snoc]at h
   cases hp:pfuns en ee all k [] s with
   |bad e x=>rw[hp]at h;cases h
   | ok o s1 =>
     rw[hp,Res.bind_ok]at h;obtain⟨p1,⟨p2,p3,p4⟩,p5⟩:=ih hp hw
     cases hq:pfun en ee all s1 with
     |bad e x=>rw[hq]at h;cases h
     | ok f s2 =>
       rw[hq,Res.bind_ok]at h;injection h with h1 h2
       subst h1 h2;obtain⟨q1,q2,q3,q4⟩:=pfun_ok hq p2;exact⟨by simp[p1],⟨q2,by omega,by omega⟩,by omega⟩
theorem pbody_chain {name:List UInt8}{x1 n x2 most x3 count x4 k x5:Int}{s0:Ps}{r1:Res Wd}{r2 r3 r4 r5:Res (Int × Int)}
 (e1:r1=pword en ee s0) (h1:∀v s,r1 = .ok v s→name=v.1∧x1=v.2)
 (e2:r2=(r1.bind fun _ s=>(.ok () (plarge (decide ((name.length:Int)>64)) x1 s):Res Unit)).bind fun _ s=>pnum en ee 1 far s) (h2:∀v s,r2 = .ok v s→n=v.1∧x2=v.2)
 (e3:r3=(r2.bind fun _ s=>(.ok () (plarge (decide (n>64)) x2 s):Res Unit)).bind fun _ s=>pnum en ee 1 far s) (h3:∀v s,r3 = .ok v s→most=v.1∧x3=v.2)
 (e4:r4=r3.bind fun _ s=>pnum en ee 0 far s) (h4:∀v s,r4 = .ok v s→count=v.1∧x4=v.2)
 (e5:r5=(r4.bind fun _ s=>(.ok () (plarge (decide (count>256)) x4 s):Res Unit)).bind fun _ s=>pnum en ee 1 far s) (h5:∀v s,r5 = .ok v s→k=v.1∧x5=v.2) :
 pbody en ee s0=(r5.bind fun _ s=>(.ok () (plarge (decide (k>2147483648)) x5 s):Res Unit)).bind fun _ s=>(psizes en ee most n.toNat [] s).bind fun sizes s=>(pfuns en ee sizes count.toNat [] s).bind fun fs s => .ok ⟨name,k,sizes,fs⟩ s:=by
 unfold pbody;rw[← e1]
 cases r1 with
 |bad e x=>rw[e5,e4,e3,e2];rfl
 | ok v1 s1 =>
   obtain⟨rfl,rfl⟩:=h1 v1 s1 rfl;rw[Res.bind_ok,Res.bind_ok]at e2;rw[Res.bind_ok]
   have hl:decide (v1.1.length>64)=decide ((v1.1.length:Int)>64):=by
    by_cases h:v1.1.length>64
    ·rw[decide_eq_true h,decide_eq_true (by omega)]
    ·rw[decide_eq_false h,decide_eq_false (by omega)]
   rw[hl,← e2]
   cases r2 with
   |bad e x=>rw[e5,e4,e3];rfl
   | ok v2 s2 =>
     obtain⟨rfl,rfl⟩:=h2 v2 s2 rfl;rw[Res.bind_ok,Res.bind_ok]at e3;rw[Res.bind_ok,← e3]
     cases r3 with
     |bad e x=>rw[e5,e4];rfl
     | ok v3 s3 =>
       obtain⟨rfl,rfl⟩:=h3 v3 s3 rfl;rw[Res.bind_ok]at e4;rw[Res.bind_ok,← e4]
       cases r4 with
       |bad e x=>rw[e5];rfl
       | ok v4 s4 =>
         obtain⟨rfl,rfl⟩:=h4 v4 s4 rfl;rw[Res.bind_ok,Res.bind_ok]at e5;rw[Res.bind_ok,← e5]
         cases r5 with
         |bad e x=>rfl
         | ok v5 s5 =>
           obtain⟨rfl,rfl⟩:=h5 v5 s5 rfl;rfl
theorem pword_len' {s s':Ps}{v:Wd}(h:pword en ee s = .ok v s'):s'.sh=s.sh∧s'.told=s.told∧s'.l.length+1=s.l.length:=by
 obtain⟨l,b,t,sh⟩:=s
 cases l with
 |nil=>have h:(Res.bad ee en:Res Wd) = .ok v s':=h;cases h
 |cons x r=>unfold pword at h;injection h with h1 h2;subst h2;exact⟨rfl,rfl,rfl⟩
theorem plarge_none {is:Bool}{x:Int}{s:Ps}(h:(plarge is x s).big=none):is=false∧s.big=none:=by
 unfold plarge at h;split at h
 ·cases h
 ·rename_i hn
  refine⟨?_,h⟩
  cases is with
  |false=>rfl
  |true=>exact absurd ⟨rfl,h⟩ hn
theorem head_ok {name:List UInt8}{x1 n x2 most x3 count x4 k x5:Int}{s0 s6:Ps}{r1:Res Wd}{r2 r3 r4 r5:Res (Int × Int)}{u:Unit}
 (e1:r1=pword en ee s0) (e2:r2=(r1.bind fun _ s=>(.ok () (plarge (decide ((name.length:Int)>64)) x1 s):Res Unit)).bind fun _ s=>pnum en ee 1 far s) (h2:∀v s,r2 = .ok v s→n=v.1∧x2=v.2)
 (e3:r3=(r2.bind fun _ s=>(.ok () (plarge (decide (n>64)) x2 s):Res Unit)).bind fun _ s=>pnum en ee 1 far s) (h3:∀v s,r3 = .ok v s→most=v.1∧x3=v.2)
 (e4:r4=r3.bind fun _ s=>pnum en ee 0 far s) (h4:∀v s,r4 = .ok v s→count=v.1∧x4=v.2)
 (e5:r5=(r4.bind fun _ s=>(.ok () (plarge (decide (count>256)) x4 s):Res Unit)).bind fun _ s=>pnum en ee 1 far s) (h5:∀v s,r5 = .ok v s→k=v.1∧x5=v.2)
 (h6:(r5.bind fun _ s=>(.ok () (plarge (decide (k>2147483648)) x5 s):Res Unit)) = .ok u s6) :
 (1≤n∧n≤far)∧(1≤most∧most≤far)∧(0≤count∧count≤far)∧(1≤k∧k≤far)∧s6.told=s0.told∧s6.sh=s0.sh∧s6.l.length≤s0.l.length∧(s6.big=none→(name.length:Int)≤64∧n≤64∧count≤256∧k≤2147483648):=by
 cases r5 with
 |bad e x=>cases h6
 | ok v5 s5 =>
   rw[Res.bind_ok]at h6;injection h6 with _ h6
   cases r4 with
   |bad e x=>cases e5
   | ok v4 s4 =>
     cases r3 with
     |bad e x=>cases e4
     | ok v3 s3 =>
       cases r2 with
       |bad e x=>cases e3
       | ok v2 s2 =>
         cases r1 with
         |bad e x=>cases e2
         | ok v1 s1 =>
           obtain⟨rfl,rfl⟩:=h2 _ _ rfl;obtain⟨rfl,rfl⟩:=h3 _ _ rfl;obtain⟨rfl,rfl⟩:=h4 _ _ rfl;obtain⟨rfl,rfl⟩:=h5 _ _ rfl;rw[Res.bind_ok,Res.bind_ok]at e2;rw[Res.bind_ok,Res.bind_ok]at e3;rw[Res.bind_ok]at e4;rw[Res.bind_ok,Res.bind_ok]at e5;obtain⟨a1,a2,a3,a4,a5,a6⟩:=pnum_ok e2.symm;obtain⟨b1,b2,b3,b4,b5,b6⟩:=pnum_ok e3.symm;obtain⟨c1,c2,c3,c4,c5,c6⟩:=pnum_ok e4.symm;obtain⟨d1,d2,d3,d4,d5,d6⟩:=pnum_ok e5.symm;have w1:=pword_len' e1.symm;obtain⟨l1,l1',l1''⟩:=plarge_l (decide ((name.length:Int)>64)) x1 s1;obtain⟨l2,l2',l2''⟩:=plarge_l (decide (v2.1>64)) v2.2 s2;obtain⟨l4,l4',l4''⟩:=plarge_l (decide (v4.1>256)) v4.2 s4;obtain⟨l5,l5',l5''⟩:=plarge_l (decide (v5.1>2147483648)) v5.2 s5;subst h6;refine⟨⟨a1,a2⟩,⟨b1,b2⟩,⟨c1,c2⟩,⟨d1,d2⟩,?_,?_,?_,fun hb=>?_⟩
           ·rw[l5'',d4,l4'',c4,b4,l2'',a4,l1''];exact w1.2.1
           ·rw[l5',d3,l4',c3,b3,l2',a3,l1'];exact w1.1
           ·rw[l5];rw[l4]at d6;rw[l2]at b6;rw[l1]at a6;have:=w1.2.2;omega
           ·obtain⟨f5,g5⟩:=plarge_none hb
            rw[d5]at g5;obtain⟨f4,g4⟩:=plarge_none g5;rw[c5,b5]at g4;obtain⟨f2,g2⟩:=plarge_none g4;rw[a5]at g2;obtain⟨f1,g1⟩:=plarge_none g2;simp only[decide_eq_false_iff_not]at f1 f2 f4 f5;omega
theorem psizes_big {most:Int}:∀ (k:Nat) {s s':Ps} {out:List Int},psizes en ee most k [] s = .ok out s'→s'.big=none→s.big=none∧∀v∈out,v≤32:=by
 intro k
 induction k with
 |zero=>intro s s' out h hb;injection h with h1 h2;subst h1 h2;exact⟨hb,fun v hv=>by cases hv⟩
 | succ k ih =>
   intro s s' out h hb;rw[psizes_snoc]at h
   cases hp:psizes en ee most k [] s with
   |bad e x=>rw[hp]at h;cases h
   | ok o s1 =>
     rw[hp,Res.bind_ok]at h;unfold psize1 at h
     cases hq:pnum en ee 1 most s1 with
     |bad e x=>rw[hq]at h;cases h
     | ok v s2 =>
       rw[hq,Res.bind_ok]at h;injection h with h1 h2
       subst h1 h2;obtain⟨f1,g1⟩:=plarge_none hb;rw[(pnum_ok hq).2.2.2.2.1]at g1;obtain⟨a1,a2⟩:=ih hp g1;refine⟨a1,fun x hx=>?_⟩;rcases List.mem_append.1 hx with hx | hx
       ·exact a2 x hx
       ·rw[List.mem_singleton.1 hx];simp only[decide_eq_false_iff_not]at f1;omega
end Go.Proofs.YtjpkkkphhaajgaaGreatDoor.wcp
