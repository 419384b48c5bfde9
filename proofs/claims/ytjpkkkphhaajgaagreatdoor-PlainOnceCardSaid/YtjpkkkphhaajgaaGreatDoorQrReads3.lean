/- Reads3. -/
import Derived.StillTailTactics
import Derived.Orders
import Derived.Laws.Sem
set_option linter.all false
namespace Go.Proofs.YtjpkkkphhaajgaaGreatDoor.rdw
open Go
def Rd3 {α:Type}(P:Program)(s:Sem α):Prop := ∀w,(∃a,s.run P w = .ok a w)∨∃h w',s.run P w = .halt h w'
section
variable {P:Program}
theorem rd_pure3 {α:Type}(a:α):Rd3 P (pure a):=fun w => .inl ⟨a,by simp⟩
theorem rd_bind3 {α β:Type}{s:Sem α}{f:α→Sem β}(hs:Rd3 P s)(hf:∀a,Rd3 P (f a)):Rd3 P (s >>= f):=fun w=>by
 rcases hs w with⟨a,h⟩ | ⟨h,w',e⟩
 ·rcases hf a w with⟨b,h2⟩ | ⟨h2,w2,e2⟩
  ·exact .inl ⟨b,by simp[h,h2]⟩
  ·exact .inr ⟨h2,w2,by simp[h,e2]⟩
 ·exact .inr ⟨h,w',by simp[e]⟩
theorem rd_halts3 {α β:Type}{s:Sem α}{f:α→Sem β}(hf:∀a w,∃h w',(f a).run P w = .halt h w'):Rd3 P (s >>= f):=fun w=>by
 cases h:s.run P w with
 | ok a w1 =>
   obtain⟨h2,w2,e2⟩:=hf a w1
   exact .inr ⟨h2,w2,by simp[h,e2]⟩
 |halt h1 w1=>exact .inr ⟨h1,w1,by simp[h]⟩
theorem rd_stuck3 {α:Type}(m:String):Rd3 P (stuck m:Sem α):=fun w => .inr ⟨_,_,rfl⟩
theorem rd_unsup3 {α:Type}(m:Unsupported):Rd3 P (unsupported m:Sem α):=fun w => .inr ⟨_,_,rfl⟩
theorem panic_bounds3 {α:Type}(x y:Int)(b:Bool)(c:BoundsCode)(w:World):∃h w',(runtimePanic (.bounds x y b c):Sem α).run P w = .halt h w':=⟨_,_,rfl⟩
theorem rd_nil3 {α:Type}:Rd3 P (runtimePanic .nilDeref:Sem α):=fun w => .inr ⟨_,_,rfl⟩
theorem rd_bounds3 {α:Type}(k:IntKind)(x y:Int)(c:BoundsCode):Rd3 P (boundsPanic k x y c:Sem α):=by
 unfold boundsPanic;dsimp only;split
 ·exact rd_halts3 fun a w=>panic_bounds3 _ _ _ _ w
 ·exact rd_halts3 fun a w=>panic_bounds3 _ _ _ _ w
theorem rd_program3:Rd3 P program:=fun w => .inl ⟨P,rfl⟩
theorem rd_load3 (a:Addr)(m:Mode):Rd3 P (load a m):=fun w=>by
 unfold load;simp only[Sem.run];split
 ·exact .inl ⟨_,rfl⟩
 ·split
  ·exact .inl ⟨_,rfl⟩
  ·exact .inr ⟨_,_,rfl⟩
theorem rd_shape3 (r:Nat):Rd3 P (shape r):=fun w => .inl ⟨_,rfl⟩
theorem rd_ite3 {α:Type}{c:Prop} [Decidable c] {a b:Sem α}(ha:Rd3 P a)(hb:Rd3 P b):Rd3 P (if c then a else b):=by split<;>assumption
theorem rd_typeInfo3 (t:TypeId):Rd3 P (typeInfo t):=by
 unfold typeInfo;refine rd_bind3 rd_program3 fun p=>?_
 split
 ·exact rd_pure3 _
 ·exact rd_stuck3 _
theorem rd_underlying3 (t:TypeId):Rd3 P (underlying t):=by
 unfold underlying;refine rd_bind3 rd_program3 fun p=>?_
 split
 ·exact rd_pure3 _
 ·exact rd_stuck3 _
theorem rd_sizeOf3 (t:TypeId):Rd3 P (sizeOf t):=rd_bind3 (rd_typeInfo3 t) fun _=>rd_pure3 _
theorem rd_isAgg3 (t:TypeId):Rd3 P (isAgg t):=by
 unfold isAgg;refine rd_bind3 (rd_underlying3 t) fun p=>?_
 split<;>exact rd_pure3 _
theorem rd_cellsFrom3 (a:Addr):∀ (n i:Nat) (acc:Array Value),Rd3 P (loadCellsFrom a i n acc)
 |0,_,_=>rd_pure3 _
 |n+1,i,acc=>rd_bind3 (rd_load3 _ _) fun v=>rd_cellsFrom3 a n _ _
theorem rd_loadVar3 (t:TypeId)(a:Addr):Rd3 P (loadVar t a):=by
 unfold loadVar;refine rd_bind3 (rd_isAgg3 t) fun b=>?_
 refine rd_ite3 ?_ (rd_load3 _ _);exact rd_bind3 (rd_sizeOf3 t) fun n=>rd_bind3 (rd_cellsFrom3 a _ _ _) fun _=>rd_pure3 _
theorem rd_sure3 (v:Value):Rd3 P (Instr.sureAddr v):=by
 unfold Instr.sureAddr;split
 ·exact rd_pure3 _
 ·exact rd_stuck3 _
theorem rd_loadAt3 (t:TypeId)(v:Value):Rd3 P (Instr.loadAt t v):=rd_bind3 (rd_sure3 v) fun a=>rd_loadVar3 t a
theorem rd_asIntOf3 (v:Value):Rd3 P (asIntOf v):=by
 unfold asIntOf;split
 ·exact rd_pure3 _
 ·exact rd_unsup3 _
 ·exact rd_stuck3 _
theorem rd_bound3 (x:Value)(y:Nat)(c:BoundsCode):Rd3 P (Instr.sliceBound x y c):=by
 unfold Instr.sliceBound;refine rd_bind3 (rd_asIntOf3 x) fun k=>?_
 exact rd_ite3 (rd_pure3 _) (rd_bounds3 _ _ _ _)
theorem rd_boundsOf3 (b:Bool)(len cap:Nat)(lo hi mx:Option Value):Rd3 P (Instr.sliceBounds b len cap lo hi mx):=by
 unfold Instr.sliceBounds
 repeat' (first | exact rd_pure3 _ | exact rd_stuck3 _ | exact rd_bound3 _ _ _ | refine rd_bind3 ?_ (fun _=>?_) | split)
theorem rd_getObj3 (r:Nat):Rd3 P (getObj r):=fun w=>by
 unfold getObj;simp only[Sem.run];split
 ·exact .inr ⟨_,_,rfl⟩
 ·exact .inl ⟨_,rfl⟩
 ·exact .inr ⟨_,_,rfl⟩
theorem rd_viewAt3 (b:Nat):Rd3 P (viewAt b):=by
 unfold viewAt
 repeat' (first | exact rd_pure3 _ | exact rd_shape3 _ | exact rd_getObj3 _ | refine rd_bind3 ?_ (fun _=>?_) | split)
theorem rd_noView3 (a:Addr):Rd3 P (noView a):=by
 unfold noView;exact rd_bind3 (rd_viewAt3 _) fun v=>rd_ite3 (rd_unsup3 _) (rd_pure3 _)
theorem rd_byteOf3 (a:Addr):Rd3 P (byteOf a):=by
 unfold byteOf;split
 ·exact rd_pure3 _
 ·refine rd_bind3 rd_program3 fun p=>?_
  refine rd_bind3 (rd_noView3 a) fun _=>?_
  refine rd_bind3 (rd_shape3 _) fun s=>?_
  split
  ·refine rd_ite3 (rd_pure3 _) ?_
   split
   ·exact rd_pure3 _
   ·exact rd_stuck3 _
  ·exact rd_stuck3 _
theorem rd_fieldPlace3 (a:Addr)(f:Field):Rd3 P (fieldPlace a f):=by
 unfold fieldPlace;refine rd_bind3 (rd_sizeOf3 _) fun n=>rd_ite3 ?_ (rd_pure3 _)
 unfold partAt;exact rd_bind3 (rd_byteOf3 _) fun b=>rd_bind3 (rd_byteOf3 _) fun c=>rd_pure3 _
theorem rd_fieldAt3 (s:TypeId)(v:Value)(f:Nat):Rd3 P (Instr.fieldAt s v f):=by
 unfold Instr.fieldAt;refine rd_bind3 (rd_underlying3 s) fun d=>?_
 split
 ·split
  ·exact rd_bind3 (rd_sure3 v) fun a=>rd_bind3 (rd_fieldPlace3 a _) fun _=>rd_pure3 _
  ·exact rd_stuck3 _
 ·exact rd_stuck3 _
theorem rd_asAddr3 (v:Value):Rd3 P (asAddr v):=by
 unfold asAddr
 repeat' (first | exact rd_pure3 _ | exact rd_stuck3 _ | exact rd_nil3 | split)
theorem rd_slice3 (t:TypeId)(x:Value)(lo hi mx:Option Value):Rd3 P (Instr.slice t x lo hi mx):=by
 unfold Instr.slice
 repeat' (first | exact rd_pure3 _ | exact rd_stuck3 _ | exact rd_underlying3 _ | exact rd_boundsOf3 _ _ _ _ _ _ | exact rd_sizeOf3 _ | exact rd_asAddr3 _ | refine rd_bind3 ?_ (fun _=>?_) | split)
theorem rd_sliceAt3 (t:TypeId)(x:Value)(lo hi mx:Option Value):Rd3 P (Instr.sliceAt t x lo hi mx):=by
 unfold Instr.sliceAt
 repeat' (first | exact rd_pure3 _ | exact rd_stuck3 _ | exact rd_slice3 _ _ _ _ _ | exact rd_underlying3 _ | exact rd_boundsOf3 _ _ _ _ _ _ | exact rd_sizeOf3 _ | exact rd_sure3 _ | refine rd_bind3 ?_ (fun _=>?_) | split)
theorem rd_part3 (t:TypeId)(cs:Array Value)(off:Nat):Rd3 P (part t cs off):=by
 unfold part
 repeat' (first | exact rd_pure3 _ | exact rd_stuck3 _ | exact rd_isAgg3 _ | exact rd_sizeOf3 _ | refine rd_bind3 ?_ (fun _=>?_) | split)
theorem rd_follow3:∀ (ss:List FieldStep) (t:TypeId) (x:Option Value),Rd3 P (followBlind ss t x)
 | [],_,_=>rd_pure3 _
 | s::rest,_,x=>by
   unfold followBlind
   repeat' (first | exact rd_pure3 _ | exact rd_stuck3 _ | exact rd_underlying3 _ | exact rd_part3 _ _ _ | exact rd_follow3 rest _ _ | refine rd_bind3 ?_ (fun _=>?_) | split)
theorem rd_nilAhead3:∀ (n:Nat) (t:TypeId) (v:Value) (m:String),Rd3 P (nilAhead n t v m)
 |0,_,_,_=>rd_pure3 _
 | n+1,t,v,m=>by
   unfold nilAhead
   repeat' (first | exact rd_pure3 _ | exact rd_stuck3 _ | exact rd_typeInfo3 _ | exact rd_underlying3 _ | exact rd_follow3 _ _ _ | exact rd_nilAhead3 n _ _ _ | refine rd_bind3 ?_ (fun _=>?_) | split)
theorem rd_indexAt3 (t:TypeId)(x i:Value):Rd3 P (Instr.indexAt t x i):=by
 unfold Instr.indexAt
 repeat' (first | exact rd_pure3 _ | exact rd_stuck3 _ | exact rd_unsup3 _ | exact rd_underlying3 _ | exact rd_sizeOf3 _ | exact rd_sure3 _ | exact rd_asIntOf3 _ | exact rd_bounds3 _ _ _ _ | refine rd_ite3 ?_ ?_ | refine rd_bind3 ?_ (fun _=>?_) | split)
def readsOp3 (o:Oper):Bool:=match o.op with | .load _ _ | .move _ | .indexAddr _ _ _ | .fieldAddr _ _ _ | .nilCheck _ | .slice _ _ _ _ _=>true | _=>false
theorem reads_run3 {o:Oper}(h:readsOp3 o=true)(ρ:Operand→Value)(w:World):(∃v,(execOp ρ o).run P w = .ok (.value v) w)∨∃x w',(execOp ρ o).run P w = .halt x w':=by
 have key:∀s:Sem Value,Rd3 P s→(∃v,(do pure (Next.value (← s)):Sem Next).run P w = .ok (.value v) w)∨∃x w',(do pure (Next.value (← s)):Sem Next).run P w = .halt x w':=fun s hs=>by
  rcases hs w with⟨a,e⟩ | ⟨x,w',e⟩
  ·exact .inl ⟨a,by simp[e]⟩
  ·exact .inr ⟨x,w',by simp[e]⟩
 unfold readsOp3 at h;unfold execOp;split at h
 ·rename_i he;rw[he];exact key _ (rd_loadAt3 _ _)
 ·rename_i he;rw[he];exact .inl ⟨_,rfl⟩
 ·rename_i he;rw[he];exact key _ (rd_indexAt3 _ _ _)
 ·rename_i he;rw[he];exact key _ (rd_fieldAt3 _ _ _)
 ·rename_i he
  rw[he]
  have:∀s:Sem Next,Rd3 P s→(∀w a w',s.run P w = .ok a w'→∃v,a = .value v)→(∃v,s.run P w = .ok (.value v) w)∨∃x w',s.run P w = .halt x w':=fun s hs hv=>by
   rcases hs w with⟨a,e⟩ | h
   ·obtain⟨v,rfl⟩:=hv w a w e;exact .inl ⟨v,e⟩
   ·exact .inr h
  dsimp only;split
  ·exact .inr ⟨_,_,rfl⟩
  ·exact .inr ⟨_,_,rfl⟩
  ·exact .inr ⟨_,_,rfl⟩
  ·split
   ·exact .inr ⟨_,_,rfl⟩
   ·simp only[Sem.run_bind,program,Sem.run,Result.andThen_ok]
    generalize hx:Sem.run P (nilAhead _ _ _ _) w=r;have hr:(∃a,r = .ok a w)∨∃h w',r = .halt h w':=hx ▸ rd_nilAhead3 _ _ _ _ w;rcases hr with⟨a,rfl⟩ | ⟨h1,w',rfl⟩
    ·simp only[Result.andThen_ok]
     split
     ·exact .inr ⟨_,_,rfl⟩
     ·exact .inl ⟨_,rfl⟩
    ·exact .inr ⟨_,_,rfl⟩
   ·exact .inl ⟨_,rfl⟩
  ·exact .inl ⟨_,rfl⟩
 ·rename_i he;rw[he];exact key _ (rd_sliceAt3 _ _ _ _ _)
 ·cases h
variable {ops:Array Oper} {md:Region.Mode} {Q:Exit→Act→World→Prop} {w:World}
theorem stOp_of_wpOp3 {j:Nat}{oj:Oper}(hj:ops[j]?=some oj)(hr:readsOp3 oj=true)(hNP:∀c a w,¬ Q (.panic c) a w)(hLO:¬ LetsOut Q){K:Act→World→Prop}{a:Act}(h:wpOp P ops Q j K a w):stOp P ops w j (fun a'=>K a' w) a:=by
 unfold wpOp at h;unfold stOp;simp only[hj]at h ⊢;split
 ·rename_i hw
  simp only[hw,if_true]at h;rcases h with h | ⟨_,h⟩
  ·unfold Oper.wp at h
   unfold Oper.still;rcases reads_run3 (P:=P) hr a.eval w with⟨v,e⟩ | ⟨x,w',e⟩
   ·rw[e]at h ⊢
    simp only[Oper.stillUpon];exact⟨trivial,h⟩
   ·rw[e]at h
    exfalso
    cases x<;>first | exact hNP _ _ _ h | exact h
  ·exact absurd h hLO
 ·rename_i hw
  simp only[hw]at h;exact h
inductive Tw3 (md:Region.Mode) (ops:Array Oper) (i:Nat):Nat→Prop
 |here {j:Nat} {oj:Oper} {e:Edge} (hj:ops[j]?=some oj) (he:e∈oj.after) (hb:Region.binds md e=true) (h:e.on=i):Tw3 md ops i j
 |there {j:Nat} {oj:Oper} {e:Edge} (hj:ops[j]?=some oj) (he:e∈oj.after) (hb:Region.binds md e=true) (h:Tw3 md ops i e.on):Tw3 md ops i j
def Closed3 (md:Region.Mode)(ops:Array Oper)(listed:Array Bool):Prop := ∀ (j:Nat) (oj:Oper),ops[j]?=some oj→listed.getD j false=true→∀e∈oj.after,Region.binds md e=true→listed.getD e.on false=true
theorem Tw3.listed {i j:Nat}{listed:Array Bool}(h:Tw3 md ops i j)(hc:Closed3 md ops listed)(hd:∀oj,ops[j]?=some oj→∀e∈oj.after,Region.binds md e=true→listed.getD e.on false=true):listed.getD i false=true:=by
 induction h with
 |here hj he hb h=>rw[← h];exact hd _ hj _ he hb
 |there hj he hb h ih=>exact ih fun oj hoj e' he' hb'=>hc _ _ hoj (hd _ hj _ he hb) _ he' hb'
theorem Closed3.set {listed:Array Bool}(hc:Closed3 md ops listed){i:Nat}(hi:i∈Region.ready md ops listed):Closed3 md ops (listed.setIfInBounds i true):=by
 obtain⟨_,oi,hoi,hall⟩:=mem_ready.1 hi;intro j oj hj hl e he hb;by_cases hij:i=j
 ·subst hij
  have:oj=oi:=Option.some.inj (hj.symm.trans hoi);subst this;exact getD_set_true (hall e he hb)
 ·rw[getD_set_ne false hij]at hl
  exact getD_set_true (hc j oj hj hl e he hb)
theorem wpAny_first_read3 {i:Nat}{oi:Oper}{v:Value}(hi:ops[i]?=some oi)(hsel:∀ (j:Nat) (o:Oper) cs b,ops[j]?=some o→o.op ≠ .select cs b)(hNP:∀c a w,¬ Q (.panic c) a w)(hLO:¬ LetsOut Q)
 (hst:∀ (j:Nat) (oj:Oper),ops[j]?=some oj→readsOp3 oj=true∨Tw3 md ops i j) :
 ∀ (fuel:Nat) (listed:Array Bool) (a:Act),Closed3 md ops listed →
  (∀ (j:Nat) (oj:Oper),ops[j]?=some oj→j≠i→listed.getD j true=false→(∀e∈oj.after,Region.binds md e=true→e.on≠i)→oi.apart ops oj=true) →
  i∈Region.ready md ops listed→YieldsAt P ops w oi v a →
  wpAny P md ops Q fuel (listed.setIfInBounds i true) (a.put oi.dst v) w→wpAny P md ops Q (fuel+1) listed a w:=by
 intro fuel
 induction fuel with
 | zero =>
   intro listed a _ _ hr hy H;refine⟨fun h=>(by rw[h]at hr;cases hr),fun j hj=>?_⟩;by_cases hji:j=i
   ·subst hji;exact wpOp_of_stOp (fun a' h=>h) (hy.stOp (K:=fun a'=>wpAny P md ops Q 0 (listed.setIfInBounds j true) a' w) hi H)
   ·have:=ready_mono hj hji
    rw[H.1]at this
    cases this
 | succ fuel ih =>
   intro listed a hcl hfree hr hy H;refine⟨fun h=>(by rw[h]at hr;cases hr),fun j hj=>?_⟩;by_cases hji:j=i
   ·subst hji;exact wpOp_of_stOp (fun a' h=>h) (hy.stOp (K:=fun a'=>wpAny P md ops Q (fuel+1) (listed.setIfInBounds j true) a' w) hi H)
   ·obtain⟨hjun,oj,hoj,hall⟩:=mem_ready.1 hj
    have hnot:∀e∈oj.after,Region.binds md e=true→e.on≠i:=fun e he hb heq=>by
     have h1:=hall e he hb;rw[heq,getD_both (mem_ready.1 hr).1]at h1
     cases h1
    have hrd:readsOp3 oj=true:=by
     rcases hst j oj hoj with h | h
     ·exact h
     ·have h0:=h.listed hcl fun oj' hoj' e he hb=>by
       have:oj'=oj:=Option.some.inj (hoj'.symm.trans hoj);subst this;exact hall e he hb
      rw[getD_both (mem_ready.1 hr).1]at h0
      cases h0
    have h1:=stOp_of_wpOp3 hoj hrd hNP hLO (H.2 j (ready_mono hj hji));have h2:=stOp_put hoj (hfree j oj hoj hji hjun hnot) (fun cs b=>hsel i oi cs b hi) (fun cs b=>hsel j oj cs b hoj) hy h1
    have hfree':∀ (k:Nat) (ok:Oper),ops[k]?=some ok→k≠i→(listed.setIfInBounds j true).getD k true=false →
     (∀e∈ok.after,Region.binds md e=true→e.on≠i)→oi.apart ops ok=true:=fun k ok hk hki hun hno=>by
     refine hfree k ok hk hki ?_ hno;by_cases hjk:j=k
     ·subst hjk;exact hjun
     ·rw[getD_set_ne true hjk]at hun;exact hun
    refine wpOp_of_stOp (fun a' h=>h) (stOp_mono (K':=fun a'=>wpAny P md ops Q (fuel+1) (listed.setIfInBounds j true) a' w) (fun a' h3=>ih (listed.setIfInBounds j true) a' (hcl.set hj) hfree' (ready_mono hr (Ne.symm hji)) h3.1 ?_) h2);rw[Array.setIfInBounds_comm _ _ hji];exact h3.2
def twB3 (md:Region.Mode)(ops:Array Oper)(i:Nat):Nat→Nat→Bool
 |0,_=>false
 | f+1,j=>match ops[j]? with
   |some oj=>oj.after.any fun e=>Region.binds md e && (e.on==i || twB3 md ops i f e.on)
   |none=>false
theorem twB_spec3 {i:Nat}:∀ (f j:Nat),twB3 md ops i f j=true→Tw3 md ops i j
 |0,_,h=>by cases h
 | f+1,j,h=>by
   unfold twB3 at h;split at h
   ·rename_i oj hj
    obtain⟨e,he,hb⟩:=Array.any_eq_true'.1 h;simp only[Bool.and_eq_true,Bool.or_eq_true,beq_iff_eq]at hb;rcases hb.2 with h1 | h1
    ·exact .here hj he hb.1 h1
    ·exact .there hj he hb.1 (twB_spec3 f _ h1)
   ·cases h
def stB3 (md:Region.Mode)(ops:Array Oper)(i:Nat):Bool:=(List.range ops.size).all fun j=>match ops[j]? with | some oj=>readsOp3 oj || twB3 md ops i 8 j | none=>true
theorem stB_spec3 {i:Nat}(h:stB3 md ops i=true)(j:Nat)(oj:Oper)(hj:ops[j]?=some oj):readsOp3 oj=true∨Tw3 md ops i j:=by
 have h1:=List.all_eq_true.1 h j (List.mem_range.2 (Array.getElem?_eq_some_iff.1 hj).1);simp only[hj,Bool.or_eq_true]at h1;rcases h1 with h1 | h1
 ·exact .inl h1
 ·exact .inr (twB_spec3 _ _ h1)
def lexR3 (md:Region.Mode)(ops:Array Oper):List Nat→Array Bool→Bool
 | [],_=>true
 |i::is,L=>decide (i<ops.size) && (Region.ready md ops L).contains i && Region.free md ops L i && stB3 md ops i && lexR3 md ops is (L.setIfInBounds i true)
theorem wpAny_reads3 (hsel:Region.noSelect ops=true)(hNP:∀c a w,¬ Q (.panic c) a w)(hLO:¬ LetsOut Q){g:Nat}{Lq:Act→Prop}:∀ (is:List Nat) (listed:Array Bool) (a:Act),Closed3 md ops listed→lexR3 md ops is listed=true →
 wpStill P ops w Lq (is.filterMap fun i=>ops[i]?) a→(∀a',Lq a'→wpAny P md ops Q g (is.foldl (fun L i=>L.setIfInBounds i true) listed) a' w)→wpAny P md ops Q (is.length+g) listed a w
 | [],listed,a,_,_,h,hL=>by
   rw[List.length_nil,Nat.zero_add];exact hL a h
 | i::is,listed,a,hcl,hB,h,hL=>by
   simp only[lexR3,Bool.and_eq_true,decide_eq_true_eq]at hB;obtain⟨⟨⟨⟨hlt,hr⟩,hf⟩,hs⟩,hB'⟩:=hB;have hi:ops[i]?=some (ops[i]'hlt):=Array.getElem?_eq_getElem hlt;rw[List.filterMap_cons,hi]at h;have hst:stOp P ops w i (wpStill P ops w Lq (is.filterMap fun i=>ops[i]?)) a:=by unfold stOp;simp only[hi];exact h
   obtain⟨v,hy,hK⟩:=yieldsAt_of_stOp hi hst;rw[List.length_cons,show is.length+1+g=is.length+g+1 by omega];exact wpAny_first_read3 hi (Region.noSelect_spec hsel) hNP hLO (stB_spec3 hs) (is.length+g) listed a hcl (Region.free_spec hi hf) (by simpa using hr) hy (wpAny_reads3 hsel hNP hLO is _ _ (hcl.set (by simpa using hr)) hB' hK hL)
theorem closed_none3 (n:Nat):Closed3 md ops (Array.replicate n false):=fun j oj _ hl=>by rw[getD_replicate_false]at hl;cases hl
theorem wpAny_br3 {rs:List Nat}{fuel:Nat}{listed:Array Bool}{a:Act}(hr:Region.ready md ops listed=rs)(hne:rs ≠ [])(h:∀i∈rs,∀K:Act→World→Prop,(∀a w,wpAny P md ops Q fuel (listed.setIfInBounds i true) a w→K a w)→wpOp P ops Q i K a w):wpAny P md ops Q (fuel+1) listed a w :=
 wpAny_all hr hne fun i hi=>h i hi _ fun _ _ h=>h
end
end Go.Proofs.YtjpkkkphhaajgaaGreatDoor.rdw
