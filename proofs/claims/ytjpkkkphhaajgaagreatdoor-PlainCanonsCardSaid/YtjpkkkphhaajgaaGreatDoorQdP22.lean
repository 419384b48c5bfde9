/- a part -/
import Derived.RangeFuncBox
import Derived.RangeFuncCalls
import Derived.WalkKit
set_option linter.all false
namespace Go.Proofs.YtjpkkkphhaajgaaGreatDoor.told
open Go RowKit
variable {n:Nat} {P:Program}
def SeqTold {α:Type}(n:Nat)(P:Program)(g:Nat)(lb:Array Value)(encs:α→Array Value)(Y:List α→α→World→World→Prop)(Kp:World→World→Prop)(S Sp:List α→Prop)(N:Nat)(w:World):Prop :=
 ∀ (l:Nat) (J Jx:List α→World→Prop) (W:World),Below w.heap.size w W→AbidesFrom W.heap.size J→AbidesFrom W.heap.size Jx →
  (∀pre x W0 W1,J pre W0→Y pre x W0 W1→pre.length<N→YieldAt Fence.wide (n-1) P l (encs x) W1 fun e W' =>
   (e = .returned (.bool true)∧J (pre ++ [x]) W'∧Kp W1 W')∨(e = .returned (.bool false)∧Jx (pre ++ [x]) W')) →
  J [] W →
  CallsIn Fence.wide n P g (#[.func (.yield l) #[] #[]]++lb) W fun e W'=>(∃v,e = .returned v)∧((∃xs,S xs∧J xs W')∨(∃pre,Sp pre∧Jx pre W'))
def Book (B:Nat)(r:Loop)(W:World):Prop:=W.heap[B]?=some (.deferred (some []))∧W.heap[B+1]?=some (.loop r)
theorem Book.lt {B:Nat}{r:Loop}{W:World}(h:Book B r W):B+1<W.heap.size:=(Array.getElem?_eq_some_iff.1 h.2).1
theorem Book.put {B:Nat}{r:Loop}{W:World}(h:Book B r W)(r':Loop):Book B r' (W.putObj (B+1) (.loop r')) :=
 ⟨(World.putObj_heap_other (by omega)).trans h.1,World.putObj_heap_same h.lt⟩
theorem Book.keep {B:Nat}{r:Loop}{W W':World}(h:Book B r W)(hk:KeepsFrom B W W'):Book B r W' :=
 ⟨hk.same _ _ (Nat.le_refl _) h.1 rfl,hk.same _ _ (by omega) h.2 rfl⟩
theorem Book.walk {B:Nat}{r:Loop}{W W':World}{row:Option Nat}(h:Book B r W)(hg:W.grownBy W' row)(hr:∀i,row=some i→∃o:Obj,W.heap[i]?=some o∧o.isWalk=true):Book B r W' :=
 ⟨(grownBy_keeps hg hr h.1 rfl).trans h.1,(grownBy_keeps hg hr h.2 rfl).trans h.2⟩
theorem OwnFrom.loop {β:Type}{B:Nat}{I:β→World→Prop}(hI:OwnFrom B I){s:β}{W:World}{r:Loop}(h:Book B r W)(r':Loop)(hs:I s W):I s (W.putObj (B+1) (.loop r')) :=
 hI.putObj _ hs (by omega) h.2 rfl
def RoundEnds {α:Type}(B:Nat)(Kp:World→World→Prop)(I:List α→World→Prop)(Ix:Code→List α→World→Prop)(xs:List α)(W:World):Exit→Act→World→Prop:=ownPostG B Kp I Ix xs W
theorem range_told {α:Type}{g:Operand}{ps:Array Tmp}{assign body:Code}{Q:Exit→Act→World→Prop}{a:Act}{w:World}
 (h1:1≤n) {gf:Nat} {lb:Array Value} (hg:a.eval g = .func (.func gf) #[] lb) (eg:∀args w,(callFunc gf args).run P w = .ok (.enter gf args) w)
 {encs:α→Array Value} {Y:List α→α→World→World→Prop} {Kp:World→World→Prop} {S Sp:List α→Prop} {N:Nat} {w0:World} (hseq:SeqTold (n-1) P gf lb encs Y Kp S Sp N w0)
 (hKt:∀ {A B C:World},Kp A B→Kp B C→Kp A C) (hKb:∀ (W:World) (l:Nat) (o o':Obj),w.heap.size≤l→W.heap[l]?=some o→o.isCells=false→o.isWalk=false→Kp W (W.putObj l o'))
 (hb0:Below w0.heap.size w0 w) (hps:∀x,(encs x).size=ps.size)
 (I:List α→World→Prop) (Ix:Code→List α→World→Prop) (hI:OwnFrom w.heap.size I) (hIx:∀c,OwnFrom w.heap.size (Ix c)) (hYb:∀pre x W0 W1,Y pre x W0 W1→Below W0.heap.size W0 W1)
 (Z:List α→α→World→Prop) (hZ:∀pre x,OwnFrom w.heap.size (fun (_:Unit) W=>Z pre x W)) (hIZ:∀pre x W0 W1,I pre W0→Y pre x W0 W1→w.heap.size≤W0.heap.size→Z pre x W1) (h0:I [] w) (a₁:α→Act)
 (hassign:∀ (l:Nat) (x:α) (W:World) (K:Act→World→Prop),K (a₁ x) W →
  assign.wpIn (Fence.wide.inRound l) (n-1-1) P (Exit.then K (fun _ _ _=>False)) { tmps:=(ps.zip (encs x)).foldl (fun t (p,v)=>t.setIfInBounds p v) a.tmps,defers := [] } W)
 (hbody:∀ (l:Nat) (pre:List α) (x:α) (W:World),w.heap.size≤l→Z pre x W→pre.length<N→body.wpIn (Fence.wide.inRound l) (n-1-1) P (RoundEnds w.heap.size Kp I Ix (pre ++ [x]) W) (a₁ x) W)
 (hdone:∀ (D:Nat) (xs:List α) (W:World),w.heap.size≤D→S xs→I xs W→W.heap[D]?=some (.deferred (some []))→Q .normal { a with defers:={ target := .collected D,args := #[] }::a.defers } W)
 (hstop:∀ (D:Nat) (c:Code) (pre:List α) (W:World),w.heap.size≤D→Sp pre→Ix c pre W→W.heap[D]?=some (.deferred (some []))→c.wpIn Fence.wide n P Q { a with defers:={ target := .collected D,args := #[] }::a.defers } W) :
 (Code.rangeFunc g ps assign body).wpIn Fence.wide n P Q a w:=by
 refine wpIn_rangeFunc fun fn hfn=>?_
 generalize hB:w.heap.size=B at *;obtain⟨r,hr⟩:∃r:LoopState→Option Code→Loop,∀s p,r s p = { state:=s,pending:=p,fn:=fn,tmps:=a.tmps,params:=ps,assign:=assign,body:=body,defers:=B }:=⟨_,fun _ _=>rfl⟩;obtain⟨V,hV⟩:∃V,(w.alloc (.deferred (some []))).alloc (.loop (r .ready none))=V:=⟨_,rfl⟩;have hVs:V.heap.size=B+2:=by rw[← hV];simp;omega
 have hbk:Book B (r .ready none) V:=by
  rw[← hV];refine⟨(Below.heap_alloc _ _ _ (by simp;omega)).trans ?_,?_⟩
  ·have:=World.alloc_heap_new w (.deferred (some []));rwa [hB]at this
  ·have:=World.alloc_heap_new (w.alloc (.deferred (some []))) (.loop (r .ready none));rwa [World.size_alloc,hB]at this
 have hwV:Below w0.heap.size w0 V:=by
  rw[← hV];have h1:Below w0.heap.size w0 (w.alloc (.deferred (some []))):=hb0.alloc hb0.size _;exact h1.alloc h1.size _
 have hIV:I [] V:=by rw[← hV];exact hI.alloc _ (hI.alloc _ h0)
 refine⟨B+1,[{ target := .collected B,args := #[] }],V,{ target := .fn (.func gf) lb,args := #[.func (.yield (B+1)) #[] #[]] },V,gf,#[.func (.yield (B+1)) #[] #[]]++lb,V,?_,?_,?_,?_,fun _=>h1,?_⟩
 ·have:=run_enterLoop_outer (P:=P) (w:=w) fn a.tmps ps assign body
  rw[hB,← hr,hV]at this;exact this
 ·simp only[resolve,hg]
  simp[go_sem]
 ·intro f' _;trivial
 ·simp[invoke,go_sem,eg]
 have hlow:∀ {A:World} {row:Option Nat},(∀i,row=some i→V.heap.size≤i∧∃o:Obj,A.heap[i]?=some o∧o.isWalk=true)→(∀i,row=some i→B≤i∧∃o:Obj,A.heap[i]?=some o∧o.isCells=false):=fun h i e=>by
  obtain⟨h2,o,h3,h4⟩:=h i e;exact⟨by omega,o,h3,Obj.not_cells_of_walk h4⟩
 refine (hseq (B+1) (fun pre W=>I pre W∧Book B (r .ready none) W) (fun pre W => ∃c,Ix c pre W∧Book B (r .done (some c)) W) V hwV
  (fun s A A' row hs hgr hrow=>⟨hI s A A' row hs.1 hgr (hlow hrow),hs.2.walk hgr fun i e=>(hrow i e).2⟩)
  (fun s A A' row ⟨c,hc,hk⟩ hgr hrow=>⟨c,hIx c s A A' row hc hgr (hlow hrow),hk.walk hgr fun i e=>(hrow i e).2⟩) ?round ⟨hIV,hbk⟩).mono ?behind
 case round =>
  rintro pre x W0 W ⟨hi,hk0⟩ hy hlen;have hbl:=hYb _ _ _ _ hy;have hk:Book B (r .ready none) W:=⟨(hbl.block _ (by have:=hk0.lt;omega)).trans hk0.1,(hbl.block _ hk0.lt).trans hk0.2⟩;have hz:=hIZ _ _ _ _ hi hy (by have:=hk0.lt;omega);refine⟨fn,_,assign,body,(run_yield hk.2 (by rw[hr];exact hps x)).trans (by rw[hr]),roundIn_of_wpIn hfn ?_⟩;refine hassign _ x W _ ⟨_,run_beginRound hk.2 (by rw[hr]),?_⟩;have e1:({ r .ready none with state := .busy }:Loop)=r .busy none:=by rw[hr,hr]
  rw[e1];have hkb:=hk.put (r .busy none);have hw1:Kp W (W.putObj (B+1) (.loop (r .busy none))):=hKb _ _ _ _ (by omega) hk.2 rfl rfl;refine wpIn_mono (hbody _ pre x _ (by omega) (OwnFrom.loop (hZ pre x) (s:=()) hk _ hz) hlen) ?_
  have fin:∀ (j:Option Code) (W3:World),KeepsFrom B (W.putObj (B+1) (.loop (r .busy none))) W3→Book B (r .busy none) W3 ∧
   (Instr.endRound (B+1) j).run P W3 = .ok (.bool j.isNone) (W3.putObj (B+1) (.loop (r (if j.isNone then .ready else .done) j))):=fun j W3 hk3=>by
   have h3:=hkb.keep hk3;exact⟨h3,(run_endRound (P:=P) j h3.2).trans (by rw[hr,hr])⟩
  have leave:∀ (c:Code) (W3:World),KeepsFrom B (W.putObj (B+1) (.loop (r .busy none))) W3→Ix c (pre ++ [x]) W3 →
   ∃v W',(Instr.endRound (B+1) (some c)).run P W3 = .ok v W'∧((Ending.returned v = .returned (.bool true)∧(I (pre ++ [x]) W'∧Book B (r .ready none) W')∧Kp W W')∨(Ending.returned v = .returned (.bool false)∧∃c,Ix c (pre ++ [x]) W'∧Book B (r .done (some c)) W')):=fun c W3 hk3 hi3=>by
   obtain⟨h3,h4⟩:=fin (some c) W3 hk3;exact⟨_,_,h4,.inr ⟨rfl,c,OwnFrom.loop (hIx c) h3 _ hi3,h3.put _⟩⟩
  rintro e a3 W3 hp
  cases e with
  | normal =>
    obtain⟨hk3,hkp3,hi3⟩:=hp;obtain⟨h3,h4⟩:=fin none W3 hk3
    exact⟨_,_,h4,.inl ⟨rfl,⟨OwnFrom.loop hI h3 _ hi3,h3.put _⟩,hKt (hKt hw1 hkp3) (hKb _ _ _ _ (by omega) h3.2 rfl rfl)⟩⟩
  |ret=>exact leave .ret W3 hp.1 hp.2
  |exit id=>exact leave (.exit id) W3 hp.1 hp.2
  |goto t=>exact leave (.goto t) W3 hp.1 hp.2
  |panic c=>exact hp.elim
  |outgrown=>exact hp.elim
 case behind =>
  rintro e W2 ⟨⟨v,rfl⟩,⟨xs,hS,hi,hk⟩ | ⟨pre,hSp,c,hi,hk⟩⟩
  ·refine⟨none,_,(run_endLoop hk.2 (by rw[hr];simp)).trans (by rw[hr]),?_⟩
   exact hdone B xs _ (Nat.le_refl _) hS (OwnFrom.loop hI hk _ hi) ((World.putObj_heap_other (by omega)).trans hk.1)
  ·refine⟨some c,_,(run_endLoop hk.2 (by rw[hr];simp)).trans (by rw[hr]),?_⟩
   exact hstop B c pre _ (Nat.le_refl _) hSp (OwnFrom.loop (hIx c) hk _ hi) ((World.putObj_heap_other (by omega)).trans hk.1)
end Go.Proofs.YtjpkkkphhaajgaaGreatDoor.told
namespace Go.Proofs.YtjpkkkphhaajgaaGreatDoor.told
open Go RowKit
variable {n:Nat} {P:Program}
theorem range_told2 {α:Type}{g:Operand}{ps:Array Tmp}{assign body:Code}{Q:Exit→Act→World→Prop}{a:Act}{w:World}
 (h1:1≤n) {gf:Nat} {lb:Array Value} (hg:a.eval g = .func (.func gf) #[] lb) (eg:∀args w,(callFunc gf args).run P w = .ok (.enter gf args) w)
 {encs:α→Array Value} {Y:List α→α→World→World→Prop} {Kp:World→World→Prop} {S Sp:List α→Prop} {N:Nat} {w0:World} (hseq:SeqTold (n-1) P gf lb encs Y Kp S Sp N w0)
 (hKt:∀ {A B C:World},Kp A B→Kp B C→Kp A C) (hKb:∀ (W:World) (l:Nat) (o o':Obj),w.heap.size≤l→W.heap[l]?=some o→o.isCells=false→o.isWalk=false→Kp W (W.putObj l o'))
 (hb0:Below w0.heap.size w0 w) (hps:∀x,(encs x).size=ps.size)
 (I:List α→World→Prop) (Ix:Code→List α→World→Prop) (hI:OwnFrom w.heap.size I) (hIx:∀c,OwnFrom w.heap.size (Ix c)) (hYb:∀pre x W0 W1,Y pre x W0 W1→Below W0.heap.size W0 W1)
 (Z:List α→α→World→Prop) (hZ:∀pre x,OwnFrom w.heap.size (fun (_:Unit) W=>Z pre x W)) (hIZ:∀pre x W0 W1,I pre W0→Y pre x W0 W1→w.heap.size≤W0.heap.size→Z pre x W1) (h0:I [] w) (A:List α→α→Act→World→Prop) (hA:∀pre x a,OwnFrom w.heap.size (fun (_:Unit) W=>A pre x a W))
 (hassign:∀ (l:Nat) (pre:List α) (x:α) (W:World) (K:Act→World→Prop),w.heap.size≤l→Z pre x W→(∀a₁ W1,A pre x a₁ W1→Kp W W1→KeepsFrom w.heap.size W W1→K a₁ W1) →
  assign.wpIn (Fence.wide.inRound l) (n-1-1) P (Exit.then K (fun _ _ _=>False)) { tmps:=(ps.zip (encs x)).foldl (fun t (p,v)=>t.setIfInBounds p v) a.tmps,defers := [] } W)
 (hbody:∀ (l:Nat) (pre:List α) (x:α) (a₁:Act) (W:World),w.heap.size≤l→A pre x a₁ W→pre.length<N→body.wpIn (Fence.wide.inRound l) (n-1-1) P (RoundEnds w.heap.size Kp I Ix (pre ++ [x]) W) a₁ W)
 (hdone:∀ (D:Nat) (xs:List α) (W:World),w.heap.size≤D→S xs→I xs W→W.heap[D]?=some (.deferred (some []))→Q .normal { a with defers:={ target := .collected D,args := #[] }::a.defers } W)
 (hstop:∀ (D:Nat) (c:Code) (pre:List α) (W:World),w.heap.size≤D→Sp pre→Ix c pre W→W.heap[D]?=some (.deferred (some []))→c.wpIn Fence.wide n P Q { a with defers:={ target := .collected D,args := #[] }::a.defers } W) :
 (Code.rangeFunc g ps assign body).wpIn Fence.wide n P Q a w:=by
 refine wpIn_rangeFunc fun fn hfn=>?_
 generalize hB:w.heap.size=B at *;obtain⟨r,hr⟩:∃r:LoopState→Option Code→Loop,∀s p,r s p = { state:=s,pending:=p,fn:=fn,tmps:=a.tmps,params:=ps,assign:=assign,body:=body,defers:=B }:=⟨_,fun _ _=>rfl⟩;obtain⟨V,hV⟩:∃V,(w.alloc (.deferred (some []))).alloc (.loop (r .ready none))=V:=⟨_,rfl⟩;have hVs:V.heap.size=B+2:=by rw[← hV];simp;omega
 have hbk:Book B (r .ready none) V:=by
  rw[← hV];refine⟨(Below.heap_alloc _ _ _ (by simp;omega)).trans ?_,?_⟩
  ·have:=World.alloc_heap_new w (.deferred (some []));rwa [hB]at this
  ·have:=World.alloc_heap_new (w.alloc (.deferred (some []))) (.loop (r .ready none));rwa [World.size_alloc,hB]at this
 have hwV:Below w0.heap.size w0 V:=by
  rw[← hV];have h1:Below w0.heap.size w0 (w.alloc (.deferred (some []))):=hb0.alloc hb0.size _;exact h1.alloc h1.size _
 have hIV:I [] V:=by rw[← hV];exact hI.alloc _ (hI.alloc _ h0)
 refine⟨B+1,[{ target := .collected B,args := #[] }],V,{ target := .fn (.func gf) lb,args := #[.func (.yield (B+1)) #[] #[]] },V,gf,#[.func (.yield (B+1)) #[] #[]]++lb,V,?_,?_,?_,?_,fun _=>h1,?_⟩
 ·have:=run_enterLoop_outer (P:=P) (w:=w) fn a.tmps ps assign body
  rw[hB,← hr,hV]at this;exact this
 ·simp only[resolve,hg]
  simp[go_sem]
 ·intro f' _;trivial
 ·simp[invoke,go_sem,eg]
 have hlow:∀ {A:World} {row:Option Nat},(∀i,row=some i→V.heap.size≤i∧∃o:Obj,A.heap[i]?=some o∧o.isWalk=true)→(∀i,row=some i→B≤i∧∃o:Obj,A.heap[i]?=some o∧o.isCells=false):=fun h i e=>by
  obtain⟨h2,o,h3,h4⟩:=h i e;exact⟨by omega,o,h3,Obj.not_cells_of_walk h4⟩
 refine (hseq (B+1) (fun pre W=>I pre W∧Book B (r .ready none) W) (fun pre W => ∃c,Ix c pre W∧Book B (r .done (some c)) W) V hwV
  (fun s A A' row hs hgr hrow=>⟨hI s A A' row hs.1 hgr (hlow hrow),hs.2.walk hgr fun i e=>(hrow i e).2⟩)
  (fun s A A' row ⟨c,hc,hk⟩ hgr hrow=>⟨c,hIx c s A A' row hc hgr (hlow hrow),hk.walk hgr fun i e=>(hrow i e).2⟩) ?round ⟨hIV,hbk⟩).mono ?behind
 case round =>
  rintro pre x W0 W ⟨hi,hk0⟩ hy hlen;have hbl:=hYb _ _ _ _ hy;have hk:Book B (r .ready none) W:=⟨(hbl.block _ (by have:=hk0.lt;omega)).trans hk0.1,(hbl.block _ hk0.lt).trans hk0.2⟩;have hz:=hIZ _ _ _ _ hi hy (by have:=hk0.lt;omega);refine⟨fn,_,assign,body,(run_yield hk.2 (by rw[hr];exact hps x)).trans (by rw[hr]),roundIn_of_wpIn hfn ?_⟩;refine hassign _ pre x W _ (by omega) hz ?_;intro a1 W1 hA1 hkp1 hkf1;have hk:=hk.keep hkf1;refine⟨_,run_beginRound hk.2 (by rw[hr]),?_⟩;have e1:({ r .ready none with state := .busy }:Loop)=r .busy none:=by rw[hr,hr]
  rw[e1];have hkb:=hk.put (r .busy none);have hw1:Kp W1 (W1.putObj (B+1) (.loop (r .busy none))):=hKb _ _ _ _ (by omega) hk.2 rfl rfl;refine wpIn_mono (hbody _ pre x a1 _ (by omega) (OwnFrom.loop (hA pre x a1) (s:=()) hk _ hA1) hlen) ?_
  have fin:∀ (j:Option Code) (W3:World),KeepsFrom B (W1.putObj (B+1) (.loop (r .busy none))) W3→Book B (r .busy none) W3 ∧
   (Instr.endRound (B+1) j).run P W3 = .ok (.bool j.isNone) (W3.putObj (B+1) (.loop (r (if j.isNone then .ready else .done) j))):=fun j W3 hk3=>by
   have h3:=hkb.keep hk3;exact⟨h3,(run_endRound (P:=P) j h3.2).trans (by rw[hr,hr])⟩
  have leave:∀ (c:Code) (W3:World),KeepsFrom B (W1.putObj (B+1) (.loop (r .busy none))) W3→Ix c (pre ++ [x]) W3 →
   ∃v W',(Instr.endRound (B+1) (some c)).run P W3 = .ok v W'∧((Ending.returned v = .returned (.bool true)∧(I (pre ++ [x]) W'∧Book B (r .ready none) W')∧Kp W W')∨(Ending.returned v = .returned (.bool false)∧∃c,Ix c (pre ++ [x]) W'∧Book B (r .done (some c)) W')):=fun c W3 hk3 hi3=>by
   obtain⟨h3,h4⟩:=fin (some c) W3 hk3;exact⟨_,_,h4,.inr ⟨rfl,c,OwnFrom.loop (hIx c) h3 _ hi3,h3.put _⟩⟩
  rintro e a3 W3 hp
  cases e with
  | normal =>
    obtain⟨hk3,hkp3,hi3⟩:=hp;obtain⟨h3,h4⟩:=fin none W3 hk3
    exact⟨_,_,h4,.inl ⟨rfl,⟨OwnFrom.loop hI h3 _ hi3,h3.put _⟩,hKt (hKt (hKt hkp1 hw1) hkp3) (hKb _ _ _ _ (by omega) h3.2 rfl rfl)⟩⟩
  |ret=>exact leave .ret W3 hp.1 hp.2
  |exit id=>exact leave (.exit id) W3 hp.1 hp.2
  |goto t=>exact leave (.goto t) W3 hp.1 hp.2
  |panic c=>exact hp.elim
  |outgrown=>exact hp.elim
 case behind =>
  rintro e W2 ⟨⟨v,rfl⟩,⟨xs,hS,hi,hk⟩ | ⟨pre,hSp,c,hi,hk⟩⟩
  ·refine⟨none,_,(run_endLoop hk.2 (by rw[hr];simp)).trans (by rw[hr]),?_⟩
   exact hdone B xs _ (Nat.le_refl _) hS (OwnFrom.loop hI hk _ hi) ((World.putObj_heap_other (by omega)).trans hk.1)
  ·refine⟨some c,_,(run_endLoop hk.2 (by rw[hr];simp)).trans (by rw[hr]),?_⟩
   exact hstop B c pre _ (Nat.le_refl _) hSp (OwnFrom.loop (hIx c) hk _ hi) ((World.putObj_heap_other (by omega)).trans hk.1)
end Go.Proofs.YtjpkkkphhaajgaaGreatDoor.told
