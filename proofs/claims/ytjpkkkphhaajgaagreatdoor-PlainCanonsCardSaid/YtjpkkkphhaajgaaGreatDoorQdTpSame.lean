/- a part -/
import Derived.Test.YtjpkkkphhaajgaaGreatDoorQdP11
import Derived.Test.YtjpkkkphhaajgaaGreatDoorQdMapInc
set_option linter.all false
namespace Go.Proofs.YtjpkkkphhaajgaaGreatDoor.wcp
open Go RowKit ChangeShapes WideShapes ChangeAt Maps words
set_option maxRecDepth 100000 in
set_option maxHeartbeats 8000000 in
theorem of_any {w:World}{g n:Nat}{F:Nat→Prop}{T:TpH}(hT:TpV w g F n T)(t:List Int)(ht:Tpl_ T.sizes.length t) :
 Calls Tryz.prog 84 #[.pointer (some ⟨g,0,none⟩),keyV (pad t)] w fun e w'=>e = .returned (.int .i64 (T.get t))∧Below w.heap.size w w':=by
 obtain⟨hFg,SA,sc,mb,D,hb,hown,hf,hm,hmb,hd⟩:=hT;obtain⟨a0,a1,a2,a3,a4,a5,hpd⟩:=six ht.pad.1
 have hkey:keyOf Tryz.prog 166 (.agg #[.int .i8 a0,.int .i8 a1,.int .i8 a2,.int .i8 a3,.int .i8 a4,.int .i8 a5])=some (keyL (pad t)):=by
  have:=keyOf6 ht.pad.1 ht.pad.2;rw[hpd]at this ⊢;exact this
 obtain⟨hd1,hd2⟩:=hd.1 t ht;rw[show keyV (pad t) = .agg #[.int .i8 a0,.int .i8 a1,.int .i8 a2,.int .i8 a3,.int .i8 a4,.int .i8 a5] by rw[hpd];rfl];have hB2:=bone w (.cells #[.int .i8 a0,.int .i8 a1,.int .i8 a2,.int .i8 a3,.int .i8 a4,.int .i8 a5] 166);have hx2:Blk (w.alloc (.cells #[.int .i8 a0,.int .i8 a1,.int .i8 a2,.int .i8 a3,.int .i8 a4,.int .i8 a5] 166)) w.heap.size 166 #[.int .i8 a0,.int .i8 a1,.int .i8 a2,.int .i8 a3,.int .i8 a4,.int .i8 a5]:=Blk.new _ _ _;have hb2:=Blk.under hb hB2;obtain⟨q0,q1,q2,q3,-⟩:=Blk.four (t:=103) hb2;obtain⟨x0,x1,x2,x3,x4,x5,-⟩:=Blk.six (t:=166) hx2;obtain⟨w2,hw2⟩:∃w2,w.alloc (.cells #[.int .i8 a0,.int .i8 a1,.int .i8 a2,.int .i8 a3,.int .i8 a4,.int .i8 a5] 166)=w2:=⟨_,rfl⟩;rw[hw2]at q0 q1 q2 q3 x0 x1 x2 x3 x4 x5 hB2 hb2;have HB2:=Hd hB2;have hm2:w2.ownsMap Tryz.prog 166 (plainElem Tryz.prog 2) mb n D:=map_tch hm (Tch.of_below hB2 (fun _=>False)) id
 obtain⟨c0,hrun,hat,_⟩:∃c0,(∀k,(Instr.lookup 101 (.map (some mb)) (.agg #[.int .i8 a0,.int .i8 a1,.int .i8 a2,.int .i8 a3,.int .i8 a4,.int .i8 a5]) true).run Tryz.prog (w2.drewN k) = .ok (.tuple #[.int .i64 c0,.bool (Maps.has D (keyL (pad t)))]) (w2.drewN k))∧D.atKey (keyL (pad t)) (.lit (.int .i64 0)) = .lit (.int .i64 c0)∧True:=by
  have hone:∀k,∃c0,(Instr.lookup 101 (.map (some mb)) (.agg #[.int .i8 a0,.int .i8 a1,.int .i8 a2,.int .i8 a3,.int .i8 a4,.int .i8 a5]) true).run Tryz.prog (w2.drewN k) = .ok (.tuple #[.int .i64 c0,.bool (Maps.has D (keyL (pad t)))]) (w2.drewN k)∧D.atKey (keyL (pad t)) (.lit (.int .i64 0)) = .lit (.int .i64 c0):=fun k=>by
   have hm3:(w2.drewN k).ownsMap Tryz.prog 166 (plainElem Tryz.prog 2) mb n D:=hm2;obtain⟨v,ps,h1,h2⟩:=hm3.look_ok keyed6 Tryz.underlying101 (zero64 _) (zd := .lit (.int .i64 0)) (zp := []) (plainElem_int Tryz.underlying2 (by decide)) hkey;obtain⟨c0,rfl,hc,_⟩:=plainElem_int_inv Tryz.underlying2 h2;exact⟨c0,h1,congrArg Prod.fst hc⟩
  obtain⟨c0,_,h0⟩:=hone 0;refine⟨c0,fun k=>?_,h0,trivial⟩;obtain⟨c1,h1,h2⟩:=hone k;rw[h0]at h2;injection h2 with h2
  injection h2 with _ h2
  rw[h2];exact h1
 rw[hd1]at hrun;clear hFg hb hown hf hm hmb hd ht hpd hB2 hb2 hx2 hm2 hkey
 go_enter Tryz.func84,Tryz.ntmps84
 go_upto_region 1 with fail;clear hw2
 cases hf:T.f t with
 | none =>
   rw[hf]at hrun;have HG:Hid (T.get t=T.other):=by unfold TpH.get;rw[hf];rfl
   clear hat hd2 hf
   go_quiet (fail)
   go_wp2
   go_ret
   exact⟨by rw[HG.out];rfl,below_drewN HB2.out _⟩
 | some c =>
   rw[hf]at hrun;have hc:=hd2 c hf (.lit (.int .i64 0));rw[hat]at hc;injection hc with hc
   injection hc with _ hc
   subst hc;have HG:Hid (T.get t=c0):=by unfold TpH.get;rw[hf];rfl
   clear hat hd2 hf
   go_quiet (fail)
   go_wp2
   go_ret;exact⟨by rw[HG.out];rfl,below_drewN HB2.out _⟩
def cntS (l:List Int):Int:=l.foldl (fun n k=>n*k) 1
theorem cntS_snoc (l:List Int)(k:Int):cntS (l ++ [k])=cntS l*k:=by unfold cntS;rw[List.foldl_append];rfl
theorem cntS_le:∀ (n:Nat) (l:List Int),l.length=n→(∀k∈l,1≤k∧k≤32)→1≤cntS l∧cntS l≤(32:Int) ^ n:=by
 intro n
 induction n with
 |zero=>intro l hl _;obtain rfl:=List.eq_nil_of_length_eq_zero hl;decide
 | succ n ih =>
   intro l hl hk;obtain⟨l',k,rfl⟩:∃l' k,l=l' ++ [k]:=⟨l.dropLast,l.getLast (by intro h;rw[h]at hl;cases hl),(List.dropLast_concat_getLast _).symm⟩;rw[cntS_snoc];obtain⟨h1,h2⟩:=ih l' (by simp at hl;exact hl) fun k hk'=>hk k (by simp[hk'])
   obtain⟨h3,h4⟩:=hk k (by simp);refine⟨?_,?_⟩
   ·have:=Int.mul_le_mul h1 h3 (by omega) (by omega)
    omega
   ·rw[Int.pow_succ]
    exact Int.mul_le_mul h2 h4 (by omega) (by omega)
theorem cntS_big {l:List Int}(h6:l.length≤6)(hk:∀k∈l,1≤k∧k≤32):1≤cntS l∧cntS l≤1073741824:=by
 obtain⟨h1,h2⟩:=cntS_le _ l rfl hk;refine⟨h1,Int.le_trans h2 ?_⟩;have h3:l.length=0∨l.length=1∨l.length=2∨l.length=3∨l.length=4∨l.length=5∨l.length=6:=by omega
 rcases h3 with h3 | h3 | h3 | h3 | h3 | h3 | h3<;>rw[h3]<;>decide
set_option maxHeartbeats 4000000 in
theorem tcount_any {w:World}{g n:Nat}{F:Nat→Prop}{T:TpH}(hT:TpV w g F n T)(h6:T.sizes.length≤6)(hs:∀k∈T.sizes,1≤k∧k≤32) :
 Calls Tryz.prog 85 #[.pointer (some ⟨g,0,none⟩)] w fun e w'=>e = .returned (.int .i64 (cntS T.sizes))∧w=w':=by
 obtain⟨hFg,SA,sc,mb,D,hb,hown,hf,hm,hmb,hd⟩:=hT;obtain⟨q0,q1,q2,q3,-⟩:=Blk.four (t:=103) hb;have hr:=Reads.of_own hown;obtain⟨m,hm6⟩:∃m,T.sizes.length=m:=⟨_,rfl⟩;have HS:=Hd hs;rw[hm6]at hr q0 h6;have HM6:=Hd hm6;clear hFg hb hown hf hm hmb hd hs hm6
 go_enter Tryz.func85,Tryz.ntmps85
 go_wp2_with fail
 go_loopw [3,11] (fun cv iv wr => ∃i:Nat,iv = .int .i64 i∧i≤m∧cv = .int .i64 (cntS (T.sizes.take i))∧w=wr) (fun _ iv _=>m-(intOf iv).toNat)
 case atStart=>exact⟨0,rfl,Nat.zero_le _,rfl,rfl⟩
 case round =>
  obtain⟨i,rfl,hi,rfl,rfl⟩:=hrel;have hsz:1≤cntS (T.sizes.take i)∧cntS (T.sizes.take i)≤1073741824:=cntS_big (by simp;omega) fun k hk=>HS.out k (List.mem_of_mem_take hk)
  by_cases hlt:i<m
  ·obtain⟨ad,k,rfl,_,hk,hck⟩:=hr.num hlt
   have hkb:=HS.out k (List.mem_of_getElem? hk);have HN:Hid (cntS (T.sizes.take (i+1))=cntS (T.sizes.take i)*k):=by rw[Hid,List.take_add_one,hk];exact cntS_snoc _ _
   obtain⟨c,hc⟩:∃c,cntS (T.sizes.take i)=c:=⟨_,rfl⟩;rw[hc]at HN hsz ⊢;obtain⟨p,hp⟩:∃p,c*k=p:=⟨_,rfl⟩
   have hpb:0≤p∧p≤34359738368:=by
    rw[← hp];exact⟨Int.mul_nonneg (by omega) (by omega),by have:=Int.mul_le_mul hsz.2 hkb.2 (by omega) (by omega);omega⟩
   have hpw:wrap64 p=p:=by unfold wrap64;omega
   rw[hp]at HN;have i0:(0:Int)≤(i:Int):=Int.natCast_nonneg _;have i1:(i:Int)<(m:Int):=by omega
   clear hk hc hsz hkb;go_wp2_with fail;go_roundw
   case measure=>simp[intOf];omega
   case rel=>exact⟨i+1,by go_num,by omega,by rw[HN.out],by first | rfl | trivial⟩
  ·obtain rfl:i=m:=by omega
   rw[List.take_of_length_le (by rw[HM6.out];exact Nat.le_refl _)];clear hsz;go_wp2_with fail;go_ret;exact⟨rfl,rfl⟩
theorem law6:WideMaps.KeyLaw Tryz.prog 166:=deep_law_laid laid_out (m:=2) (by omega) (of_decide_eq_true (by kernel_rfl)) (by kernel_rfl) (by kernel_rfl)
theorem wpList_next_tup (w:World){ops:Array Oper}{rest:List Oper}{o:Oper}{a:Act}{Q:Exit→Act→World→Prop}(hg:o.guard=none)(it:Operand)(hop:o.op=Op.next it false)(e:TypeId)(he:Tryz.prog.underlying e=some (.int .i64))(m b r n:Nat)(D:DataW Unit)(left:Lit→Bool)(cnt:Nat)
 (hit:a.eval it = .pointer (some ⟨r,0,none⟩)) (h:w.ranges Tryz.prog 166 (plainElem Tryz.prog e) b r n D left cnt) (hD:∀kl,Maps.has D kl=true→∃t,Tpl_ m t∧kl=keyL (pad t))
 (hDone:cnt=0→(∀kl,left kl=false)→wpList Tryz.prog ops Q rest (a.put o.dst (.tuple #[.bool false])) w)
 (hMore:∀ (t:List Int) (c:Int) (w':World) (cnt':Nat),Tpl_ m t→left (keyL (pad t))=true→Maps.has D (keyL (pad t))=true→w'.ranges Tryz.prog 166 (plainElem Tryz.prog e) b r n D (fun z=>left z && !z.sameKey (keyL (pad t))) cnt'→cnt' < cnt →
  w.grownBy w' (some r)→w'.heap.size=w.heap.size→(Instr.entry (.pointer (some ⟨r,0,none⟩))).run Tryz.prog w' = .ok (.tuple #[keyV (pad t),.int .i64 c]) w'→wpList Tryz.prog ops Q rest (a.put o.dst (.tuple #[.bool true,keyV (pad t),.int .i64 c])) w') :
 wpList Tryz.prog ops Q (o::rest) a w:=by
 refine wpList_plain hg fun K' hK'=>?_
 unfold Oper.wp;rcases h.next keyed6 o.type with⟨h0,hl,hrun⟩ | ⟨key,v,kl,y,w',cnt',hkey,hlk,hv,hat,hrun,hrg,hlt,hgr,hsz,hen⟩
 ·simp[execOp,hop,hit,hrun,Result.andThen]
  exact hK' _ _ (hDone h0 hl)
 ·have hhas:=has_true_of_atKey hat
  obtain⟨t,ht,rfl⟩:=hD kl hhas;obtain rfl:key=keyV (pad t):=keyed6.inj hkey (keyOf6 ht.pad.1 ht.pad.2);obtain⟨c,rfl,_⟩:=plainElem_int_inv he hv;simp[execOp,hop,hit,hrun,Result.andThen];exact hK' _ _ (hMore t c w' cnt' ht hlk hhas hrg hlt hgr hsz hen)
theorem keys_list (m:Nat):∀es:List (Lit × DataW Unit),es.Pairwise (fun p q=>p.1≠q.1)→(∀p∈es,∃t,Tpl_ m t∧p.1=keyL (pad t))→∃L:List (List Int),L.Nodup∧(∀t,t∈L↔∃p∈es,Tpl_ m t∧p.1=keyL (pad t))∧L.length=es.length:=by
 intro es
 induction es with
 |nil=>intro _ _;exact⟨[],List.nodup_nil,fun t=>⟨(fun h=>by cases h),(fun⟨p,hp,_⟩=>by cases hp)⟩,rfl⟩
 | cons p es ih =>
   intro hp hk;obtain⟨h1,h2⟩:=List.pairwise_cons.1 hp;obtain⟨L,hn,hm,hl⟩:=ih h2 fun q hq=>hk q (List.mem_cons_of_mem _ hq)
   obtain⟨t,ht,hpt⟩:=hk p (by simp);refine⟨t::L,List.nodup_cons.2 ⟨fun hL=>?_,hn⟩,fun u=>⟨fun hu=>?_,fun⟨q,hq,hu,hqu⟩=>?_⟩,by simp[hl]⟩
   ·obtain⟨q,hq,_,hqt⟩:=(hm t).1 hL
    exact h1 q hq (hpt.trans hqt.symm)
   ·rcases List.mem_cons.1 hu with rfl | hu
    ·exact⟨p,by simp,ht,hpt⟩
    ·obtain⟨q,hq,h3⟩:=(hm u).1 hu
     exact⟨q,List.mem_cons_of_mem _ hq,h3⟩
   ·rcases List.mem_cons.1 hq with rfl | hq
    ·rw[hpt]at hqu
     rw[kl_inj hu ht hqu.symm];simp
    ·exact List.mem_cons_of_mem _ ((hm u).2 ⟨q,hq,hu,hqu⟩)
theorem nodup_le {α:Type} [DecidableEq α]:∀ (l m:List α),l.Nodup→(∀x∈l,x∈m)→l.length≤m.length:=by
 intro l
 induction l with
 |nil=>intro m _ _;exact Nat.zero_le _
 | cons a l ih =>
   intro m hn hm;obtain⟨h1,h2⟩:=List.nodup_cons.1 hn;have ha:=hm a (by simp)
   have:=ih (m.erase a) h2 fun x hx=>by
    have hne:x≠a:=fun e=>h1 (e ▸ hx)
    exact (List.mem_erase_of_ne hne).2 (hm x (List.mem_cons_of_mem _ hx))
   rw[List.length_erase_of_mem ha]at this;have:=List.length_pos_of_mem ha;simp only[List.length_cons];omega
theorem told_list {w:World}{e:TypeId}{b n m:Nat}{D:DataW Unit}(h:w.ownsMap Tryz.prog 166 (plainElem Tryz.prog e) b n D)(hk:∀kl,Maps.has D kl=true→∃t,Tpl_ m t∧kl=keyL (pad t)) :
 ∃L:List (List Int),L.Nodup∧(∀t,t∈L↔(Tpl_ m t∧Maps.has D (keyL (pad t))=true))∧L.length=Maps.size D:=by
 obtain⟨es,rfl,hp,hkl⟩:=h.entries keyed6
 have hhas:∀p∈es,Maps.has (.map es) p.1=true:=fun p hp=>by
  rw[has_eq,List.any_eq_true];exact⟨p,hp,WideAt.sameKey_self (hkl p hp)⟩
 obtain⟨L,h1,h2,h3⟩:=keys_list m es hp fun p hp=>hk _ (hhas p hp)
 refine⟨L,h1,fun t=>⟨fun ht=>?_,fun⟨ht,hh⟩=>?_⟩,by rw[h3,size_eq]⟩
 ·obtain⟨p,hp,h4,h5⟩:=(h2 t).1 ht
  exact⟨h4,by rw[← h5];exact hhas p hp⟩
 ·rw[has_eq,List.any_eq_true]at hh
  obtain⟨p,hp,h4⟩:=hh;exact (h2 t).2 ⟨p,hp,ht,WideAt.sameKey_eq h4⟩
def ToldP (Ta Tb:TpH)(t:List Int):Prop:=Tpl_ Ta.sizes.length t∧((Ta.f t).isSome=true∨(Tb.f t).isSome=true)
def SameP (Ta Tb:TpH):Prop:=Ta.sizes=Tb.sizes∧Ta.k=Tb.k∧(∀t,ToldP Ta Tb t→Ta.get t=Tb.get t)∧(Ta.other=Tb.other∨∃L:List (List Int),L.Nodup∧(∀t,t∈L↔ToldP Ta Tb t)∧(L.length:Int)=cntS Ta.sizes)
def SameR (w:World)(Ta Tb:TpH)(e:Ending)(w':World):Prop := ∃b:Bool,e = .returned (.bool b)∧(b=true↔SameP Ta Tb)∧Below w.heap.size w w'
set_option maxRecDepth 100000 in
set_option maxHeartbeats 8000000 in
theorem same_any {w:World}{ga gb na nb:Nat}{FA FB:Nat→Prop}{Ta Tb:TpH}(hA:TpV w ga FA na Ta)(hB:TpV w gb FB nb Tb)(oA:okT Ta)(oB:okT Tb)(hna:na≤1000000)(hnb:nb≤1000000)(hs:Ta.sizes=Tb.sizes) :
 Calls Tryz.prog 32 #[.pointer (some ⟨ga,0,none⟩),.pointer (some ⟨gb,0,none⟩)] w fun e w'=>SameR w Ta Tb e w':=by
 have HA:=Hd hA;have HB:=Hd hB;obtain⟨hFa,Aa,ca,ma,DA,hba,hoa,hfa,hma,hmba,hda⟩:=hA;obtain⟨hFb,Ab,cb,mb,DB,hbb,hob,hfb,hmb,hmbb,hdb⟩:=hB;obtain⟨p0,p1,p2,p3,-⟩:=Blk.four (t:=103) hba;obtain⟨q0,q1,q2,q3,-⟩:=Blk.four (t:=103) hbb;obtain⟨la,hla⟩:∃la,Ta.sizes.length=la:=⟨_,rfl⟩;obtain⟨lb,hlb⟩:∃lb,Tb.sizes.length=lb:=⟨_,rfl⟩;have heq:=equalI_any Aa Ab la lb ca cb Ta.sizes Tb.sizes;have l6a:=oA.1;have l6b:=oB.1;rw[hla]at p0 hoa l6a hfa hda hba;rw[hlb]at q0 hob l6b hfb hdb hbb;have HBA:=Hd hba;have HBB:=Hd hbb;have HOA:=Hd hoa;have HOB:=Hd hob;have HMA:=Hd hma;have HMB:=Hd hmb;have HDA:=Hd hda;have HDB:=Hd hdb;have HLA:=Hd (And.intro hla hlb);have heq2:=fun W (hW:Below w.heap.size w W)=>heq W (by omega) (by omega) ((Reads.of_own hoa).lift hW) ((Reads.of_own hob).lift hW)
 have HEQ:=Hd heq2;have hF1:Ta.k=Tb.k→¬ Ta.k≠Tb.k:=fun h h2=>h2 h
 have hab:(⟨ga,0,none⟩:Addr)=⟨gb,0,none⟩∨True := .inr trivial;clear hFa hba hoa hfa hma hmba hda hFb hbb hob hfb hmb hmbb hdb heq heq2 hla hlb hF1 hab
 go_enter Tryz.func32,Tryz.ntmps32
 have heqd:=HEQ.out w.drew ⟨rfl,rfl,rfl,Nat.le_refl _,fun _ _=>rfl⟩;go_upto_region 3 with fail;have hq:eqB Ta.sizes Tb.sizes=true:=decide_eq_true hs;by_cases hk:Ta.k=Tb.k
 ·have hkb:(Ta.k != Tb.k)=false:=by simp[hk]
  have HS:=Hd hs;have HK:=Hd hk;clear hs hk;have hmm:=@run_makeMap Tryz.prog
  go_region_held3 (fun W=>W.cell? ⟨ga,0,none⟩=some (.slice Aa la ca)∧W.cell? ⟨gb,0,none⟩=some (.slice Ab lb cb)∧W.cell? ⟨ga,1,none⟩=some (.int .i64 Ta.k)∧W.cell? ⟨gb,1,none⟩=some (.int .i64 Tb.k)) (first | exact⟨p0,q0,p1,q1⟩ | exact HS1) (first
   |(go_at_call 18;refine heqd.mono ?_;rintro e w1 ⟨rfl,hb1⟩;have hb1':Below w.heap.size w w1:=⟨hb1.os,hb1.tape,hb1.output,hb1.size,hb1.block⟩;have HB1:=Hd hb1';have HS1:w1.cell? ⟨ga,0,none⟩=some (.slice Aa la ca)∧w1.cell? ⟨gb,0,none⟩=some (.slice Ab lb cb)∧w1.cell? ⟨ga,1,none⟩=some (.int .i64 Ta.k)∧w1.cell? ⟨gb,1,none⟩=some (.int .i64 Tb.k):=(by obtain⟨a0,a1,a2,a3,-⟩:=Blk.four (t:=103) (Blk.under HBA.out hb1');obtain⟨c0,c1,c2,c3,-⟩:=Blk.four (t:=103) (Blk.under HBB.out hb1');exact⟨a0,c0,a1,c1⟩);rw[hq];clear hb1 hb1'))
  go_wp2_with fail;obtain⟨b5,hb5⟩:∃b5,w1.heap.size=b5:=⟨_,rfl⟩;have hs1:=HB1.out.size;have hm0:((w1.alloc (.map #[] 0)).alloc (.cells #[.pointer (some ⟨ga,0,none⟩),.pointer (some ⟨gb,0,none⟩)] 35)).ownsMap Tryz.prog 166 (plainElem (H:=Unit) Tryz.prog 3) w1.heap.size 0 (.map []):=(World.ownsMap_made _ _ _ _).alloc _
  have hrow:Blk ((w1.alloc (.map #[] 0)).alloc (.cells #[.pointer (some ⟨ga,0,none⟩),.pointer (some ⟨gb,0,none⟩)] 35)) (w1.heap.size+1) 35 #[.pointer (some ⟨ga,0,none⟩),.pointer (some ⟨gb,0,none⟩)]:=by
   have:=Blk.new (w1.alloc (.map #[] 0)) 35 #[.pointer (some ⟨ga,0,none⟩),.pointer (some ⟨gb,0,none⟩)];rw[show (w1.alloc (.map #[] 0)).heap.size=w1.heap.size+1 by simp]at this;exact this
  have hBW:Below w.heap.size w ((w1.alloc (.map #[] 0)).alloc (.cells #[.pointer (some ⟨ga,0,none⟩),.pointer (some ⟨gb,0,none⟩)] 35)):=bnew (bnew HB1.out _) _;have hsW:((w1.alloc (.map #[] 0)).alloc (.cells #[.pointer (some ⟨ga,0,none⟩),.pointer (some ⟨gb,0,none⟩)] 35)).heap.size=w1.heap.size+2:=by simp
  obtain⟨W,hW⟩:∃W,((w1.alloc (.map #[] 0)).alloc (.cells #[.pointer (some ⟨ga,0,none⟩),.pointer (some ⟨gb,0,none⟩)] 35))=W:=⟨_,rfl⟩;rw[hW]at hm0 hrow hBW hsW ⊢;rw[hb5]at hm0 hrow hsW hs1 ⊢;have hga:ga<w.heap.size:=Blk.lt HBA.out;have hgb:gb<w.heap.size:=Blk.lt HBB.out;have hma:ma<w.heap.size:=World.ownsMap.lt (H:=Unit) HMA.out;have hmb:mb<w.heap.size:=World.ownsMap.lt (H:=Unit) HMB.out;have HR:=Hd hrow;have HM0:=Hd hm0;have HBW:=Hd hBW;clear hrow hm0 hBW hW hb5 HS1
  go_loopw [45] (fun iv wr => ∃ (i n5:Nat) (D5:DataW Unit),iv = .int .i64 i∧i≤2∧n5≤i*1000000∧Tch W wr (fun k=>k=b5)∧wr.ownsMap Tryz.prog 166 (plainElem Tryz.prog 3) b5 n5 D5∧∀kl,Maps.has D5 kl=(decide (0<i) && Maps.has DA kl || decide (1<i) && Maps.has DB kl)) (fun iv _=>2-(intOf iv).toNat)
  case atStart=>exact⟨0,0,.map [],rfl,by omega,by omega,Tch.refl _ _,HM0.out,fun kl=>rfl⟩
  case round =>
   obtain⟨i,n5,D5,rfl,hi,hn5,ht,hm5,hD5⟩:=hrel;have hi3:i=0∨i=1∨i=2:=by omega
   have hrw:=ht.blk HR.out (by omega);have r0:=(Blk.cell hrw 0).trans rfl;have r1:=(Blk.cell hrw 1).trans rfl;have HTR:=Hd ht;have HM5:=Hd hm5;have HD5:=Hd hD5;clear hrw ht hm5 hD5;rcases hi3 with rfl | rfl | rfl
   ·have hx:=HTR.out.blk (Blk.under HBA.out HBW.out) (by omega)
    obtain⟨y0,y1,y2,y3,-⟩:=Blk.four (t:=103) hx;have hmx:wr.ownsMap Tryz.prog 166 (plainElem Tryz.prog 2) ma na DA:=map_tch (map_tch HMA.out (Tch.of_below HBW.out (fun _=>False)) id) HTR.out (by omega);have hle:=hmx.size_le
    go_wp2_with (first | (at_range;refine wpList_range_own _ rfl _ 101 rfl 166 2 keyed6 Tryz.underlying101 _ ma na DA rfl hmx ?_;intro w0 hrg0 hg0 hs0) | fail)
    go_frame
    obtain⟨rz,hrz⟩:∃rz,wr.heap.size=rz:=⟨_,rfl⟩;rw[hrz]at hrg0 ⊢;have hrzs:W.heap.size≤rz:=by have:=HTR.out.size;omega
    go_loopw [8] (fun _ wz => ∃ (left:Lit→Bool) (cnt n6:Nat) (D6:DataW Unit),wz.ranges Tryz.prog 166 (plainElem Tryz.prog 2) ma rz na DA left cnt∧n6+cnt≤n5+na∧Tch W wz (fun k=>k=b5)∧wz.ownsMap Tryz.prog 166 (plainElem Tryz.prog 3) b5 n6 D6∧∀kl,Maps.has D6 kl=(Maps.has D5 kl || (Maps.has DA kl && !left kl))) (fun _ wz=>wz.rangeLeft ma rz)
    case atStart =>
     refine⟨_,_,n5,D5,hrg0,by omega,HTR.out.trans (Tch.of_grown hg0 (S:=fun k=>k=b5) fun q _ hq=>by cases hq) fun _ _ h=>h,HM5.out.kept hg0 (by simp),fun kl=>?_⟩
     cases Maps.has D5 kl<;>cases Maps.has DA kl<;>rfl
    case round =>
     obtain⟨left,cnt,n6,D6,hrg,hn6,ht6,hm6,hD6⟩:=hrel
     go_wp2_with (first | (at_next;refine wpList_next_tup _ rfl _ rfl 2 Tryz.underlying2 la ma rz na DA left cnt rfl hrg HDA.out.2 ?_ ?_) | fail)
     ·intro hc0 hl0
      go_wp2_with fail;go_roundw
      case rel=>exact⟨1,n6,D6,rfl,by omega,by omega,ht6,hm6,fun kl=>by rw[hD6,HD5.out,hl0];simp⟩
      case measure=>simp[intOf]
     ·intro t c w2 cnt2 htp hlk hhas hrg2 hlt hg2 hs2 hen
      obtain⟨a0,a1,a2,a3,a4,a5,hpd⟩:=six htp.pad.1;have hkv:keyV (pad t) = .agg #[.int .i8 a0,.int .i8 a1,.int .i8 a2,.int .i8 a3,.int .i8 a4,.int .i8 a5]:=by rw[hpd];rfl
      rw[hkv]at hen ⊢;have hkey:keyOf Tryz.prog 166 (.agg #[.int .i8 a0,.int .i8 a1,.int .i8 a2,.int .i8 a3,.int .i8 a4,.int .i8 a5])=some (keyL (pad t)):=by rw[← hkv];exact keyOf6 htp.pad.1 htp.pad.2
      have hK0:Blk (w2.alloc (.cells #[.int .i8 a0,.int .i8 a1,.int .i8 a2,.int .i8 a3,.int .i8 a4,.int .i8 a5] 166)) w2.heap.size 166 #[.int .i8 a0,.int .i8 a1,.int .i8 a2,.int .i8 a3,.int .i8 a4,.int .i8 a5]:=Blk.new _ _ _;have hM0:(w2.alloc (.cells #[.int .i8 a0,.int .i8 a1,.int .i8 a2,.int .i8 a3,.int .i8 a4,.int .i8 a5] 166)).ownsMap Tryz.prog 166 (plainElem Tryz.prog 3) b5 n6 D6:=(hm6.kept hg2 (by simp;omega)).alloc _;have hT0:Tch W (w2.alloc (.cells #[.int .i8 a0,.int .i8 a1,.int .i8 a2,.int .i8 a3,.int .i8 a4,.int .i8 a5] 166)) (fun k=>k=b5):=(ht6.trans (S':=fun k=>k=rz) (Tch.of_grown hg2 fun q _ hq=>Option.some.inj hq) fun q hq h=>by omega).trans (Tch.of_below (bone w2 _) (fun _=>False)) fun _ _ h=>h.elim
      have hR0:=hrg2.alloc (.cells #[.int .i8 a0,.int .i8 a1,.int .i8 a2,.int .i8 a3,.int .i8 a4,.int .i8 a5] 166);clear hs2;go_upto_region 12 with fail;obtain⟨wk,hwk⟩:∃wk,(w2.alloc (.cells #[.int .i8 a0,.int .i8 a1,.int .i8 a2,.int .i8 a3,.int .i8 a4,.int .i8 a5] 166))=wk:=⟨_,rfl⟩;rw[hwk]at hK0 hM0 hT0 hR0 ⊢;obtain⟨x0,x1,x2,x3,x4,x5,-⟩:=Blk.six (t:=166) hK0;have HT0:=Hd hT0;have HR0:=Hd hR0;have HKV:=Hd hkv;have HM6:=Hd hm6.isMap;have HRG:=Hd hrg.left_eq;clear hK0 hT0 hR0 hwk hg2 hen hrg2 hrg ht6 hm6 hkv hpd;obtain⟨c1,e1,hat1,hwc1⟩:=hM0.drew.lookup_int keyed6 Tryz.underlying162 Tryz.underlying3 (zeroI _) hkey;obtain⟨v0,st,w3,e2,hP,hg3⟩:=map_entry law6 Tryz.underlying162 Tryz.underlying3 (fun u=>zeroI u) hM0.drew (by simp only[maxLen];omega) hkey;obtain⟨D1,hD1,hat⟩:=hP.1;obtain⟨c2,e3,hat2,-⟩:=hD1.lookup_int keyed6 Tryz.underlying162 Tryz.underlying3 (zeroI _) hkey
      obtain rfl:c2=c1:=by
       rw[hat,hat1]at hat2;injection hat2 with h
       injection h with _ h
       exact h.symm
      obtain⟨w4,e4,hm4,hg4⟩:=hP.2 w3 rfl (wrap64 (c2+1)) (wrap64_wf _);have e2':(Instr.mapEntry 162 (.map (some b5)) (.agg #[.int .i8 a0,.int .i8 a1,.int .i8 a2,.int .i8 a3,.int .i8 a4,.int .i8 a5])).run Tryz.prog wk.drew = .ok (.tuple #[v0,.int .i64 st]) w3:=e2;have e4':(Instr.entryStore 162 (.map (some b5)) (.int .i64 st) (.int .i64 (wrap64 (c2+1)))).run Tryz.prog w3 = .ok () w4:=e4;have HM4:=Hd hm4;have HG3:=Hd hg3;have HG4:=Hd hg4;clear e2 e4 hP hg3 hg4 hm4 hat hat1 hat2 hwc1 hD1 hM0 hkey
      go_region
      all_goals
       go_wp2_with fail;refine⟨⟨_,_,_,_,_,_,_,_,_,_,_,?rel,rfl⟩,?measure⟩
       case rel =>
        have hgk:wk.grownBy w4 (some b5):=⟨HG4.out.os.trans HG3.out.os,HG4.out.tape.trans HG3.out.tape,HG4.out.output.trans HG3.out.output,Nat.le_trans HG3.out.size HG4.out.size,fun q hq hn=>(HG4.out.block q (Nat.lt_of_lt_of_le hq HG3.out.size) hn).trans (HG3.out.block q hq hn)⟩;refine⟨_,cnt2,n6+1,_,HR0.out.kept hgk (by simp;omega) (by simp;omega),by omega,HT0.out.trans (S':=fun k=>k=b5) (Tch.of_grown hgk fun q _ hq=>Option.some.inj hq) fun _ _ h=>h,HM4.out,fun kl=>?_⟩;by_cases e:kl=keyL (pad t)
        ·rw[e,has_put_same HM6.out (keyed6.key (keyOf6 htp.pad.1 htp.pad.2)),hhas,WideAt.sameKey_self (keyed6.key (keyOf6 htp.pad.1 htp.pad.2))]
         simp
        ·rw[has_put_other e,hD6,Maps.sameKey_ne e]
         simp
       case measure =>
        have hgk:wk.grownBy w4 (some b5):=⟨HG4.out.os.trans HG3.out.os,HG4.out.tape.trans HG3.out.tape,HG4.out.output.trans HG3.out.output,Nat.le_trans HG3.out.size HG4.out.size,fun q hq hn=>(HG4.out.block q (Nat.lt_of_lt_of_le hq HG3.out.size) hn).trans (HG3.out.block q hq hn)⟩;rw[(HR0.out.kept hgk (by simp;omega) (by simp;omega)).left_eq,HRG.out];exact hlt
   ·have hx:=HTR.out.blk (Blk.under HBB.out HBW.out) (by omega)
    obtain⟨y0,y1,y2,y3,-⟩:=Blk.four (t:=103) hx;have hmx:wr.ownsMap Tryz.prog 166 (plainElem Tryz.prog 2) mb nb DB:=map_tch (map_tch HMB.out (Tch.of_below HBW.out (fun _=>False)) id) HTR.out (by omega);have hle:=hmx.size_le
    go_wp2_with (first | (at_range;refine wpList_range_own _ rfl _ 101 rfl 166 2 keyed6 Tryz.underlying101 _ mb nb DB rfl hmx ?_;intro w0 hrg0 hg0 hs0) | fail)
    go_frame
    obtain⟨rz,hrz⟩:∃rz,wr.heap.size=rz:=⟨_,rfl⟩;rw[hrz]at hrg0 ⊢;have hrzs:W.heap.size≤rz:=by have:=HTR.out.size;omega
    go_loopw [8] (fun _ wz => ∃ (left:Lit→Bool) (cnt n6:Nat) (D6:DataW Unit),wz.ranges Tryz.prog 166 (plainElem Tryz.prog 2) mb rz nb DB left cnt∧n6+cnt≤n5+nb∧Tch W wz (fun k=>k=b5)∧wz.ownsMap Tryz.prog 166 (plainElem Tryz.prog 3) b5 n6 D6∧∀kl,Maps.has D6 kl=(Maps.has D5 kl || (Maps.has DB kl && !left kl))) (fun _ wz=>wz.rangeLeft mb rz)
    case atStart =>
     refine⟨_,_,n5,D5,hrg0,by omega,HTR.out.trans (Tch.of_grown hg0 (S:=fun k=>k=b5) fun q _ hq=>by cases hq) fun _ _ h=>h,HM5.out.kept hg0 (by simp),fun kl=>?_⟩
     cases Maps.has D5 kl<;>cases Maps.has DB kl<;>rfl
    case round =>
     obtain⟨left,cnt,n6,D6,hrg,hn6,ht6,hm6,hD6⟩:=hrel
     go_wp2_with (first | (at_next;refine wpList_next_tup _ rfl _ rfl 2 Tryz.underlying2 lb mb rz nb DB left cnt rfl hrg HDB.out.2 ?_ ?_) | fail)
     ·intro hc0 hl0
      go_wp2_with fail;go_roundw
      case rel=>exact⟨2,n6,D6,rfl,by omega,by omega,ht6,hm6,fun kl=>by rw[hD6,HD5.out,hl0];simp⟩
      case measure=>simp[intOf]
     ·intro t c w2 cnt2 htp hlk hhas hrg2 hlt hg2 hs2 hen
      obtain⟨a0,a1,a2,a3,a4,a5,hpd⟩:=six htp.pad.1;have hkv:keyV (pad t) = .agg #[.int .i8 a0,.int .i8 a1,.int .i8 a2,.int .i8 a3,.int .i8 a4,.int .i8 a5]:=by rw[hpd];rfl
      rw[hkv]at hen ⊢;have hkey:keyOf Tryz.prog 166 (.agg #[.int .i8 a0,.int .i8 a1,.int .i8 a2,.int .i8 a3,.int .i8 a4,.int .i8 a5])=some (keyL (pad t)):=by rw[← hkv];exact keyOf6 htp.pad.1 htp.pad.2
      have hK0:Blk (w2.alloc (.cells #[.int .i8 a0,.int .i8 a1,.int .i8 a2,.int .i8 a3,.int .i8 a4,.int .i8 a5] 166)) w2.heap.size 166 #[.int .i8 a0,.int .i8 a1,.int .i8 a2,.int .i8 a3,.int .i8 a4,.int .i8 a5]:=Blk.new _ _ _;have hM0:(w2.alloc (.cells #[.int .i8 a0,.int .i8 a1,.int .i8 a2,.int .i8 a3,.int .i8 a4,.int .i8 a5] 166)).ownsMap Tryz.prog 166 (plainElem Tryz.prog 3) b5 n6 D6:=(hm6.kept hg2 (by simp;omega)).alloc _;have hT0:Tch W (w2.alloc (.cells #[.int .i8 a0,.int .i8 a1,.int .i8 a2,.int .i8 a3,.int .i8 a4,.int .i8 a5] 166)) (fun k=>k=b5):=(ht6.trans (S':=fun k=>k=rz) (Tch.of_grown hg2 fun q _ hq=>Option.some.inj hq) fun q hq h=>by omega).trans (Tch.of_below (bone w2 _) (fun _=>False)) fun _ _ h=>h.elim
      have hR0:=hrg2.alloc (.cells #[.int .i8 a0,.int .i8 a1,.int .i8 a2,.int .i8 a3,.int .i8 a4,.int .i8 a5] 166);clear hs2;go_upto_region 12 with fail;obtain⟨wk,hwk⟩:∃wk,(w2.alloc (.cells #[.int .i8 a0,.int .i8 a1,.int .i8 a2,.int .i8 a3,.int .i8 a4,.int .i8 a5] 166))=wk:=⟨_,rfl⟩;rw[hwk]at hK0 hM0 hT0 hR0 ⊢;obtain⟨x0,x1,x2,x3,x4,x5,-⟩:=Blk.six (t:=166) hK0;have HT0:=Hd hT0;have HR0:=Hd hR0;have HKV:=Hd hkv;have HM6:=Hd hm6.isMap;have HRG:=Hd hrg.left_eq;clear hK0 hT0 hR0 hwk hg2 hen hrg2 hrg ht6 hm6 hkv hpd;obtain⟨c1,e1,hat1,hwc1⟩:=hM0.drew.lookup_int keyed6 Tryz.underlying162 Tryz.underlying3 (zeroI _) hkey;obtain⟨v0,st,w3,e2,hP,hg3⟩:=map_entry law6 Tryz.underlying162 Tryz.underlying3 (fun u=>zeroI u) hM0.drew (by simp only[maxLen];omega) hkey;obtain⟨D1,hD1,hat⟩:=hP.1;obtain⟨c2,e3,hat2,-⟩:=hD1.lookup_int keyed6 Tryz.underlying162 Tryz.underlying3 (zeroI _) hkey
      obtain rfl:c2=c1:=by
       rw[hat,hat1]at hat2;injection hat2 with h
       injection h with _ h
       exact h.symm
      obtain⟨w4,e4,hm4,hg4⟩:=hP.2 w3 rfl (wrap64 (c2+1)) (wrap64_wf _);have e2':(Instr.mapEntry 162 (.map (some b5)) (.agg #[.int .i8 a0,.int .i8 a1,.int .i8 a2,.int .i8 a3,.int .i8 a4,.int .i8 a5])).run Tryz.prog wk.drew = .ok (.tuple #[v0,.int .i64 st]) w3:=e2;have e4':(Instr.entryStore 162 (.map (some b5)) (.int .i64 st) (.int .i64 (wrap64 (c2+1)))).run Tryz.prog w3 = .ok () w4:=e4;have HM4:=Hd hm4;have HG3:=Hd hg3;have HG4:=Hd hg4;clear e2 e4 hP hg3 hg4 hm4 hat hat1 hat2 hwc1 hD1 hM0 hkey
      go_region
      all_goals
       go_wp2_with fail;refine⟨⟨_,_,_,_,_,_,_,_,_,_,_,?rel,rfl⟩,?measure⟩
       case rel =>
        have hgk:wk.grownBy w4 (some b5):=⟨HG4.out.os.trans HG3.out.os,HG4.out.tape.trans HG3.out.tape,HG4.out.output.trans HG3.out.output,Nat.le_trans HG3.out.size HG4.out.size,fun q hq hn=>(HG4.out.block q (Nat.lt_of_lt_of_le hq HG3.out.size) hn).trans (HG3.out.block q hq hn)⟩;refine⟨_,cnt2,n6+1,_,HR0.out.kept hgk (by simp;omega) (by simp;omega),by omega,HT0.out.trans (S':=fun k=>k=b5) (Tch.of_grown hgk fun q _ hq=>Option.some.inj hq) fun _ _ h=>h,HM4.out,fun kl=>?_⟩;by_cases e:kl=keyL (pad t)
        ·rw[e,has_put_same HM6.out (keyed6.key (keyOf6 htp.pad.1 htp.pad.2)),hhas,WideAt.sameKey_self (keyed6.key (keyOf6 htp.pad.1 htp.pad.2))]
         simp
        ·rw[has_put_other e,hD6,Maps.sameKey_ne e]
         simp
       case measure =>
        have hgk:wk.grownBy w4 (some b5):=⟨HG4.out.os.trans HG3.out.os,HG4.out.tape.trans HG3.out.tape,HG4.out.output.trans HG3.out.output,Nat.le_trans HG3.out.size HG4.out.size,fun q hq hn=>(HG4.out.block q (Nat.lt_of_lt_of_le hq HG3.out.size) hn).trans (HG3.out.block q hq hn)⟩;rw[(HR0.out.kept hgk (by simp;omega) (by simp;omega)).left_eq,HRG.out];exact hlt
   ·have hle:=(HM5.out).size_le
    have hm5:=HM5.out
    have hkeys:∀kl,Maps.has D5 kl=true→∃t,Tpl_ la t∧kl=keyL (pad t):=fun kl hk=>by
     rw[HD5.out]at hk;simp only[show decide (0<2)=true from rfl,show decide (1<2)=true from rfl,Bool.true_and,Bool.or_eq_true]at hk;rcases hk with hk | hk
     ·exact HDA.out.2 kl hk
     ·have:lb=la:=by rw[← HLA.out.1,← HLA.out.2,HS.out]
      rw[← this];exact HDB.out.2 kl hk
    have htold:∀t,Tpl_ la t→(Maps.has D5 (keyL (pad t))=true↔((Ta.f t).isSome=true∨(Tb.f t).isSome=true)):=fun t ht=>by
     have hb:lb=la:=by rw[← HLA.out.1,← HLA.out.2,HS.out]
     rw[HD5.out,(HDA.out.1 t ht).1,(HDB.out.1 t (by rw[hb];exact ht)).1];simp
    have HTD:=Hd htold;have HKS:=Hd hkeys;clear htold
    go_wp2_with (first | (at_range;refine wpList_range_own _ rfl _ 162 rfl 166 3 keyed6 Tryz.underlying162 _ b5 n5 D5 rfl hm5 ?_;intro w0 hrg0 hg0 hs0) | fail)
    go_frame
    obtain⟨rz,hrz⟩:∃rz,wr.heap.size=rz:=⟨_,rfl⟩;rw[hrz]at hrg0 ⊢;have hrzs:W.heap.size≤rz:=by have:=HTR.out.size;omega
    have hB0:Below w.heap.size w w0:=HBW.out.trans ((HTR.out.trans (Tch.of_grown hg0 (S:=fun k=>k=b5) fun q _ hq=>by cases hq) fun _ _ h=>h).below HBW.out.size fun q hq h=>by omega)
    go_loopw [9] (fun _ wz => ∃ (left:Lit→Bool) (cnt:Nat),wz.ranges Tryz.prog 166 (plainElem Tryz.prog 3) b5 rz n5 D5 left cnt∧Below w.heap.size w wz∧∀t,Tpl_ la t→Maps.has D5 (keyL (pad t))=true→left (keyL (pad t))=false→Ta.get t=Tb.get t) (fun _ wz=>wz.rangeLeft b5 rz)
    case atStart=>exact⟨_,_,hrg0,hB0,fun t _ h1 h2=>by rw[h1]at h2;cases h2⟩
    case round =>
     obtain⟨left,cnt,hrg,hBz,hdone⟩:=hrel
     go_wp2_with (first | (at_next;refine wpList_next_tup _ rfl _ rfl 3 Tryz.underlying3 la b5 rz n5 D5 left cnt rfl hrg HKS.out ?_ ?_) | fail)
     ·intro hc0 hl0
      have hall:∀t,ToldP Ta Tb t→Ta.get t=Tb.get t:=fun t ht=>by
       have h0:=ht.1;rw[HLA.out.1]at h0;exact hdone t h0 ((HTD.out t h0).2 ht.2) (hl0 _)
      obtain⟨_,_,ya,_,-⟩:=Blk.four (t:=103) (Blk.under HBA.out hBz);obtain⟨_,_,yb,_,-⟩:=Blk.four (t:=103) (Blk.under HBB.out hBz);have hmz:=hrg.owns;obtain⟨L,hL1,hL2,hL3⟩:=told_list hmz HKS.out
      have hL4:∀t,t∈L↔ToldP Ta Tb t:=fun t=>by
       rw[hL2];unfold ToldP;rw[HLA.out.1];exact⟨fun⟨h1,h2⟩=>⟨h1,(HTD.out t h1).1 h2⟩,fun⟨h1,h2⟩=>⟨h1,(HTD.out t h1).2 h2⟩⟩
      have hlen:=fun (k:Nat) ty=>(show (wr.drewN k).ownsMap Tryz.prog 166 (plainElem Tryz.prog 3) b5 n5 D5 from hmz).len Tryz.underlying162 ty
      rw[← hL3]at hlen;have hLn:(L.length:Int)=cntS Ta.sizes→SameP Ta Tb:=fun h=>⟨HS.out,HK.out,hall,.inr ⟨L,hL1,hL4,h⟩⟩
      have hLn2:Ta.other≠Tb.other→SameP Ta Tb→(L.length:Int)=cntS Ta.sizes:=fun hne h=>by
       rcases h.2.2.2 with h | ⟨L2,h1,h2,h3⟩
       ·exact absurd h hne
       ·rw[← h3]
        have e1:=nodup_le L L2 hL1 fun x hx=>(h2 x).2 ((hL4 x).1 hx)
        have e2:=nodup_le L2 L h1 fun x hx=>(hL4 x).2 ((h2 x).1 hx)
        omega
      have hTz:=HA.out.keep (Tch.of_below hBz (fun _=>False)) (fun _ _ h=>h);have hcn:=fun k:Nat=>tcount_any (show TpV (wr.drewN k) ga FA na Ta from hTz) oA.1 oA.2.1
      have HBZ:=Hd hBz;obtain⟨q,hq⟩:∃q,L.length=q:=⟨_,rfl⟩;obtain⟨cn,hcnt⟩:∃cn,cntS Ta.sizes=cn:=⟨_,rfl⟩;rw[hq]at hlen hLn hLn2;rw[hcnt]at hcn hLn hLn2;have HL1:=Hd hLn;have HL2:=Hd hLn2;have HALL:=Hd hall;clear hLn hLn2 hall hL1 hL2 hL3 hL4 hq hcnt hBz hmz hrg hdone hTz;by_cases ho:Ta.other=Tb.other
      ·have hob:(Ta.other==Tb.other)=true:=by simp[ho]
       have HO:=Hd ho;clear ho hcn hlen;go_upto_region 19 with fail
       go_quiet (fail)
       go_wp2
       go_ret;exact⟨true,rfl,⟨fun _=>⟨HS.out,HK.out,HALL.out,.inl HO.out⟩,fun _=>rfl⟩,below_drewN HBZ.out _⟩
      ·have hob:(Ta.other==Tb.other)=false:=by simp[ho]
       have HO:=Hd ho;clear ho;by_cases hqc:(q:Int)=cn
       ·have hqb:((q:Int)==cn)=true:=by simp[hqc]
        have HQ:=Hd hqc;clear hqc;go_upto_region 19 with fail
        go_quiet (first | (go_at_call 85;exact quiet_left (hcn _)))
        go_wp2
        go_ret;exact⟨true,rfl,⟨fun _=>HL1.out HQ.out,fun _=>rfl⟩,below_drewN HBZ.out _⟩
       ·have hqb:((q:Int)==cn)=false:=by simp[hqc]
        have HQ:=Hd hqc;clear hqc;go_upto_region 19 with fail
        go_quiet (first | (go_at_call 85;exact quiet_left (hcn _)))
        go_wp2
        go_ret;exact⟨false,rfl,⟨(fun h=>by cases h),fun h=>absurd (HL2.out HO.out h) HQ.out⟩,below_drewN HBZ.out _⟩
     ·intro t c w2 cnt2 htp hlk hhas hrg2 hlt hg2 hs2 hen
      obtain⟨a0,a1,a2,a3,a4,a5,hpd⟩:=six htp.pad.1;have hkv:keyV (pad t) = .agg #[.int .i8 a0,.int .i8 a1,.int .i8 a2,.int .i8 a3,.int .i8 a4,.int .i8 a5]:=by rw[hpd];rfl
      rw[hkv]at hen ⊢;have hK0:Blk (w2.alloc (.cells #[.int .i8 a0,.int .i8 a1,.int .i8 a2,.int .i8 a3,.int .i8 a4,.int .i8 a5] 166)) w2.heap.size 166 #[.int .i8 a0,.int .i8 a1,.int .i8 a2,.int .i8 a3,.int .i8 a4,.int .i8 a5]:=Blk.new _ _ _;have hsw:=HBW.out.size;have hB0':Below w.heap.size w (w2.alloc (.cells #[.int .i8 a0,.int .i8 a1,.int .i8 a2,.int .i8 a3,.int .i8 a4,.int .i8 a5] 166)):=bnew (hBz.grown hg2 hBz.size (fun q hq=>by cases hq;omega)) _;have hR0:=hrg2.alloc (.cells #[.int .i8 a0,.int .i8 a1,.int .i8 a2,.int .i8 a3,.int .i8 a4,.int .i8 a5] 166);clear hs2;go_upto_region 17 with fail;obtain⟨wk,hwk⟩:∃wk,(w2.alloc (.cells #[.int .i8 a0,.int .i8 a1,.int .i8 a2,.int .i8 a3,.int .i8 a4,.int .i8 a5] 166))=wk:=⟨_,rfl⟩;rw[hwk]at hK0 hB0' hR0 ⊢;obtain⟨x0,x1,x2,x3,x4,x5,-⟩:=Blk.six (t:=166) hK0;have HBK:=Hd hB0';have HR0:=Hd hR0;have HRG:=Hd hrg.left_eq;have HK0:=Hd hK0;have htb:Tpl_ Tb.sizes.length t:=by rw[← HS.out,HLA.out.1];exact htp
      have hofA:=fun (V:World) (hV:Below w.heap.size w V)=>of_any (HA.out.keep (Tch.of_below hV (fun _=>False)) (fun _ _ h=>h)) t (by rw[HLA.out.1];exact htp)
      have hofB:=fun (V:World) (hV:Below w.heap.size w V)=>of_any (HB.out.keep (Tch.of_below hV (fun _=>False)) (fun _ _ h=>h)) t htb
      rw[hkv]at hofA hofB;have HOFA:=Hd hofA;have HOFB:=Hd hofB;have ha1:=HOFA.out wk.drew ⟨HBK.out.os,HBK.out.tape,HBK.out.output,HBK.out.size,HBK.out.block⟩;have hb1:=HOFB.out wk.drew ⟨HBK.out.os,HBK.out.tape,HBK.out.output,HBK.out.size,HBK.out.block⟩;have HDONE:=Hd hdone;clear hK0 hB0' hR0 hwk hg2 hen hrg2 hrg hkv hpd hofA hofB htb hdone
      have hsk:∀V:World,Below wk.heap.size wk V→V.cell? ⟨w2.heap.size,0,none⟩=some (.int .i8 a0)∧V.cell? ⟨w2.heap.size,1,none⟩=some (.int .i8 a1)∧V.cell? ⟨w2.heap.size,2,none⟩=some (.int .i8 a2)∧V.cell? ⟨w2.heap.size,3,none⟩=some (.int .i8 a3)∧V.cell? ⟨w2.heap.size,4,none⟩=some (.int .i8 a4)∧V.cell? ⟨w2.heap.size,5,none⟩=some (.int .i8 a5):=fun V hV=>by
       obtain⟨z0,z1,z2,z3,z4,z5,-⟩:=Blk.six (t:=166) (Blk.under HK0.out hV);exact⟨z0,z1,z2,z3,z4,z5⟩
      by_cases hge:Ta.get t=Tb.get t
      ·have hgb:(Ta.get t != Tb.get t)=false:=by simp[hge]
       have HGE:=Hd hge;clear hge
       go_region_held3 (fun V=>V.cell? ⟨w2.heap.size,0,none⟩=some (.int .i8 a0)∧V.cell? ⟨w2.heap.size,1,none⟩=some (.int .i8 a1)∧V.cell? ⟨w2.heap.size,2,none⟩=some (.int .i8 a2)∧V.cell? ⟨w2.heap.size,3,none⟩=some (.int .i8 a3)∧V.cell? ⟨w2.heap.size,4,none⟩=some (.int .i8 a4)∧V.cell? ⟨w2.heap.size,5,none⟩=some (.int .i8 a5)) (first | exact⟨x0,x1,x2,x3,x4,x5⟩ | exact HS5 | exact HS6) (first
        |(go_at_call 84;refine ha1.mono ?_;rintro e w5 ⟨rfl,hb5⟩;have hk5:Below wk.heap.size wk w5:=⟨hb5.os,hb5.tape,hb5.output,hb5.size,hb5.block⟩;have HS5:=hsk w5 hk5;have hb2:=HOFB.out w5 (bto HBK.out hk5);have HK5:=Hd hk5;clear hb5 hk5 ha1 hb1)
        |(go_at_call 84;refine hb2.mono ?_;rintro e w6 ⟨rfl,hb6⟩;have hk6:Below wk.heap.size wk w6:=bto HK5.out hb6;have HS6:=hsk w6 hk6;have HK6:=Hd hk6;clear hb6 hk6 hb2)
        |(go_at_call 84;refine hb1.mono ?_;rintro e w5 ⟨rfl,hb5⟩;have hk5:Below wk.heap.size wk w5:=⟨hb5.os,hb5.tape,hb5.output,hb5.size,hb5.block⟩;have HS5:=hsk w5 hk5;have ha2:=HOFA.out w5 (bto HBK.out hk5);have HK5:=Hd hk5;clear hb5 hk5 ha1 hb1)
        |(go_at_call 84;refine ha2.mono ?_;rintro e w6 ⟨rfl,hb6⟩;have hk6:Below wk.heap.size wk w6:=bto HK5.out hb6;have HS6:=hsk w6 hk6;have HK6:=Hd hk6;clear hb6 hk6 ha2))
       all_goals
        go_wp2_with fail;refine⟨⟨_,_,_,_,_,_,_,_,_,_,_,_,_,?rel,rfl⟩,?measure⟩
        case rel =>
         refine⟨_,cnt2,HR0.out.kept (only_of_below HK6.out none) (by simp) (by simp),bto HBK.out HK6.out,fun u hu h1 h2=>?_⟩;simp only[Bool.and_eq_false_iff,Bool.not_eq_false']at h2;rcases h2 with h2 | h2
         ·exact HDONE.out u hu h1 h2
         ·obtain rfl:=kl_inj hu htp (WideAt.sameKey_eq h2)
          exact HGE.out
        case measure =>
         rw[(HR0.out.kept (only_of_below HK6.out none) (by simp) (by simp)).left_eq,HRG.out];exact hlt
      ·have hgb:(Ta.get t != Tb.get t)=true:=by simp[hge]
       have HN:Hid (¬ SameP Ta Tb):=fun h=>hge (h.2.2.1 t ⟨by rw[HLA.out.1];exact htp,(HTD.out t htp).1 hhas⟩)
       clear hge
       go_region_held3 (fun V=>V.cell? ⟨w2.heap.size,0,none⟩=some (.int .i8 a0)∧V.cell? ⟨w2.heap.size,1,none⟩=some (.int .i8 a1)∧V.cell? ⟨w2.heap.size,2,none⟩=some (.int .i8 a2)∧V.cell? ⟨w2.heap.size,3,none⟩=some (.int .i8 a3)∧V.cell? ⟨w2.heap.size,4,none⟩=some (.int .i8 a4)∧V.cell? ⟨w2.heap.size,5,none⟩=some (.int .i8 a5)) (first | exact⟨x0,x1,x2,x3,x4,x5⟩ | exact HS5 | exact HS6) (first
        |(go_at_call 84;refine ha1.mono ?_;rintro e w5 ⟨rfl,hb5⟩;have hk5:Below wk.heap.size wk w5:=⟨hb5.os,hb5.tape,hb5.output,hb5.size,hb5.block⟩;have HS5:=hsk w5 hk5;have hb2:=HOFB.out w5 (bto HBK.out hk5);have HK5:=Hd hk5;clear hb5 hk5 ha1 hb1)
        |(go_at_call 84;refine hb2.mono ?_;rintro e w6 ⟨rfl,hb6⟩;have hk6:Below wk.heap.size wk w6:=bto HK5.out hb6;have HS6:=hsk w6 hk6;have HK6:=Hd hk6;clear hb6 hk6 hb2)
        |(go_at_call 84;refine hb1.mono ?_;rintro e w5 ⟨rfl,hb5⟩;have hk5:Below wk.heap.size wk w5:=⟨hb5.os,hb5.tape,hb5.output,hb5.size,hb5.block⟩;have HS5:=hsk w5 hk5;have ha2:=HOFA.out w5 (bto HBK.out hk5);have HK5:=Hd hk5;clear hb5 hk5 ha1 hb1)
        |(go_at_call 84;refine ha2.mono ?_;rintro e w6 ⟨rfl,hb6⟩;have hk6:Below wk.heap.size wk w6:=bto HK5.out hb6;have HS6:=hsk w6 hk6;have HK6:=Hd hk6;clear hb6 hk6 ha2))
       all_goals
        go_wp2_with fail;go_ret;exact⟨false,rfl,⟨(fun h=>by cases h),fun h=>absurd h HN.out⟩,bto HBK.out HK6.out⟩
 ·have hkb:(Ta.k != Tb.k)=true:=by simp[hk]
  have HN:Hid (¬ SameP Ta Tb):=fun h=>hk h.2.1
  clear hs hk
  go_region_held3 (fun W=>W.cell? ⟨ga,0,none⟩=some (.slice Aa la ca)∧W.cell? ⟨gb,0,none⟩=some (.slice Ab lb cb)∧W.cell? ⟨ga,1,none⟩=some (.int .i64 Ta.k)∧W.cell? ⟨gb,1,none⟩=some (.int .i64 Tb.k)) (first | exact⟨p0,q0,p1,q1⟩ | exact HS1) (first
   |(go_at_call 18;refine heqd.mono ?_;rintro e w1 ⟨rfl,hb1⟩;have hb1':Below w.heap.size w w1:=⟨hb1.os,hb1.tape,hb1.output,hb1.size,hb1.block⟩;have HB1:=Hd hb1';have HS1:w1.cell? ⟨ga,0,none⟩=some (.slice Aa la ca)∧w1.cell? ⟨gb,0,none⟩=some (.slice Ab lb cb)∧w1.cell? ⟨ga,1,none⟩=some (.int .i64 Ta.k)∧w1.cell? ⟨gb,1,none⟩=some (.int .i64 Tb.k):=(by obtain⟨a0,a1,a2,a3,-⟩:=Blk.four (t:=103) (Blk.under HBA.out hb1');obtain⟨c0,c1,c2,c3,-⟩:=Blk.four (t:=103) (Blk.under HBB.out hb1');exact⟨a0,c0,a1,c1⟩);rw[hq];clear hb1 hb1'))
  all_goals
   go_wp2_with fail;go_ret;exact⟨false,rfl,⟨(fun h=>by cases h),fun h=>absurd h HN.out⟩,HB1.out⟩
end Go.Proofs.YtjpkkkphhaajgaaGreatDoor.wcp
