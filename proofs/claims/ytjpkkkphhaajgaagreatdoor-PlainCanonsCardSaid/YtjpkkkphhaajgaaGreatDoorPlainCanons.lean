/- For every input PlainCanons returns true; its argument reads as before. No condition; the tables of Go's library are tied to the program's text. -/
import Derived.Test.YtjpkkkphhaajgaaGreatDoorCards
import Derived.Test.YtjpkkkphhaajgaaGreatDoorTie
import Derived.Deep.DeepHandedRow
import Derived.Lib.LaidTab
import Derived.Stop.LaidErr
import Derived.WalkKit
import Derived.ProofKit
import Derived.OpenShut
import Derived.ShutString
import Derived.ChangeOld
import Derived.Below
import Derived.Test.YtjpkkkphhaajgaaGreatDoorQdP02
import Derived.Test.YtjpkkkphhaajgaaGreatDoorQdP51
import Derived.SizedLaws
namespace Go.Proofs.YtjpkkkphhaajgaaGreatDoor.plainCanons
open Go.Proofs.YtjpkkkphhaajgaaGreatDoor.wcp Go.Proofs.YtjpkkkphhaajgaaGreatDoor.scn Go.Proofs.YtjpkkkphhaajgaaGreatDoor.words
open Go.ChangeShapes Go.WideShapes Go.ChangeAt Go.RowKit
open Go.ChangeMaps (open_string shut_string)
set_option linter.unusedVariables false
theorem own:ownKnob Tryz.prog.godebug=none:=by kernel_rfl
theorem laidOut:laidOutB Tryz.prog=true:=by kernel_rfl
def pw:List Int := [1,10,100,1000,10000,100000,1000000,10000000,100000000,1000000000,10000000000,100000000000,1000000000000,10000000000000,100000000000000,1000000000000000,10000000000000000,100000000000000000,1000000000000000000,10000000000000000000]
theorem pow_eq:pw=Lib.pow10Tab:=by decide +kernel
theorem pow_tab {W:World}(h:Lib.TabIs Tryz.prog W "internal/strconv.uint64pow10" .u64 pw):Tab W:=by
 unfold Tab;rw[← pow_eq];exact h
theorem len_reach {H:Type}{enc:TypeId × Value→H}{P:Program}{W:World}{spare:Nat→Bool}{held:Bool}{t e:TypeId}{a:Option Addr}{len cap:Nat}{d:DataW H}{p:List MemPlace}(ht:P.underlying t=some (.slice e))(h:DataW.Trod enc P W 0 spare held t (.slice a len cap) d p):len=0∨∃es rs,d = .slice es rs∧es.length=len:=by
 obtain⟨fuel,hf⟩:=h
 rcases DataW.trod_slice ht (by simpa [Value.cells] using hf) with⟨h1,-⟩ | ⟨ad,l,c,elems,rest,n,-,h1,h2,-,-,-,hl,-⟩
 ·simp at h1
  exact .inl h1.2.1
 ·simp at h1
  obtain⟨rfl,rfl,rfl⟩:=h1
  injection h2 with h2
  exact .inr ⟨_,_,h2,by rw[List.length_map];exact hl⟩
def tab0:List Int := [1,10,100,1000,10000,100000,1000000,10000000,100000000,1000000000,10000000000,100000000000,1000000000000,10000000000000,100000000000000,1000000000000000,10000000000000000,100000000000000000,1000000000000000000,10000000000000000000]
theorem gTab0:Tryz.prog.globalNamed "internal/strconv.uint64pow10" = some 0:=by kernel_rfl
theorem gTabType0:(Tryz.prog.globals[0]?).map (·.type)=some 312:=by kernel_rfl
theorem cellsA0:Tryz.prog.cellsOf 312=tab0.length:=by kernel_rfl
theorem cellsE0:Tryz.prog.cellsOf 135=1:=by kernel_rfl
theorem table0 {W:World}(h:laidMetH Tryz.prog Rows.plainCanonsRow.laid W):Lib.TabIs Tryz.prog W "internal/strconv.uint64pow10" .u64 tab0 :=
 Lib.tabIs_of_head gTab0 gTabType0 Tryz.underlying312 Tryz.underlying135 cellsE0 cellsA0 (laidMet.tail (laidMet.tail h))
theorem walk (a0:Option Addr)(len0 cap0:Nat)(z0:List Int)(w:World)(w0:z0.length=len0∧Reads w w.heap.size 1 a0 len0 (z0.map (Value.int .u8))∧(∀x∈z0,(Lit.int .u8 x).wf=true)∧len0≤cap0∧len0≤140737488351232)(ht:Tab w) :
 Calls Tryz.prog 4 #[.slice a0 len0 cap0] w fun e w'=>e = .returned (.bool true)∧Below w.heap.size w w':=by
 obtain⟨_,hr,hwf,hc,hl⟩:=w0
 obtain⟨bs0,hbs⟩:=bytes_of hwf
 rw[hbs]at hr
 exact canons_core a0 len0 cap0 bs0 w hl hc hr (pow_tab ht)
set_option maxRecDepth 100000 in
theorem contract (H:Type)(enc:TypeId × Value→H)(W:World)(base:Nat)(args:Array Value)(ds gs:List (DataW H))(before:List MemPlace)
 (hval0:∀ (j:Nat) t v,Tryz.f4.params[j]?=some t→args[j]?=some v→Value.okWide Tryz.prog W .any base t v)
 (hW:DataW.Whole enc Tryz.prog Tryz.f4.params.toList Rows.plainCanonsSpec.vars false W args.toList ds gs before) (hsz:(DataW.weightsEach Tryz.prog (Tryz.f4.params.toList++(OpenSpec.ofChange Rows.plainCanonsSpec).bare.plain.varTypes Tryz.prog) (ds++gs)).all (· ≤ reachBytes)=true) (hL:laidMetH Tryz.prog Rows.plainCanonsRow.laid W) :
 Calls Tryz.prog 4 args W fun e W' => ∃v,e = .returned v∧Rows.plainCanonsSpec.post enc Tryz.prog Tryz.f4 false true false false W args v W':=by
 have hval:∀ (j:Nat) t v,Tryz.f4.params[j]?=some t→args[j]?=some v→Value.okWide Tryz.prog W .any base t v:=hval0
 have hW':=hW
 obtain⟨p,q,hA0,hV,rfl,hfz,hnd⟩:=hW
 have hA:DataW.TrodAll enc Tryz.prog W 0 (fun _=>true) true Tryz.f4.params.toList args.toList ds p:=hA0
 rw[Tryz.params4]at hA hval
 obtain⟨v0,vs0,d0,ds0,p0,q0,hargs,rfl,rfl,h0,r0⟩:=trodAll_cons hA
 obtain⟨rfl,rfl,rfl⟩:=trodAll_nil r0
 obtain rfl:args = #[v0]:=by cases args;simp_all
 obtain⟨rfl,rfl⟩:=trodVars_none hV
 obtain⟨a0,len0,cap0,rfl⟩:=okWide_slice Tryz.underlying22 (hval 0 22 v0 rfl rfl)
 have k0:=h0
 have lt0:∀x∈p0,x.block<W.heap.size:=by obtain⟨m,hm⟩:=k0;exact DataW.trod_lt m _ _ _ hm
 obtain⟨z0,w0⟩:=open_ones (Value.int .u8) (fun x=>(Lit.int .u8 x).wf=true) Tryz.underlying22 (by kernel_rfl) (dec_int Tryz.underlying5) h0
 have hl2:len0≤140737488351232:=by
  rcases len_reach Tryz.underlying22 k0 with h | ⟨es,rs,rfl,h⟩
  ·omega
  ·have h3:=sized_slice hsz (j:=0) (t:=22) (e:=5) rfl rfl Tryz.underlying22
   rw[show Tryz.prog.bytesOf 5=1 by kernel_rfl]at h3
   unfold reachBytes at h3
   omega
 obtain⟨u1,u2,u3,u4,-⟩:=w0
 clear hA0 hval0
 have htab:Tab W:=(pow_tab (table0 hL))
 refine (walk a0 len0 cap0 z0 W ⟨u1,u2,u3,u4,hl2⟩ htab).mono fun e W' ⟨he,bel⟩=>?_
 subst he
 exact⟨_,rfl,_,_,_,[],_,[],hW',trodAll_mk1 (shut_bool Tryz.underlying4 _),(trodAll_cons_mk (Below.trod laidOut (by kernel_rfl) (of_decide_eq_true (by kernel_rfl)) k0 bel lt0) trodAll_mk0),rfl,bel.frame _,fun h=>by cases h⟩
noncomputable def laidWorld (os:Os):World :=
 { World.holding Tryz.prog os ⟨#[],#[],[]⟩ with heap:=((((World.holding Tryz.prog os ⟨#[],#[],[]⟩).heap.modify 2 (fun | .cells _ t frozen => .cells #[.int .u8 0,.int .u8 1,.int .u8 28,.int .u8 2,.int .u8 29,.int .u8 14,.int .u8 24,.int .u8 3,.int .u8 30,.int .u8 22,.int .u8 20,.int .u8 15,.int .u8 25,.int .u8 17,.int .u8 4,.int .u8 8,.int .u8 31,.int .u8 27,.int .u8 13,.int .u8 23,.int .u8 21,.int .u8 19,.int .u8 16,.int .u8 7,.int .u8 26,.int .u8 12,.int .u8 18,.int .u8 6,.int .u8 11,.int .u8 5,.int .u8 10,.int .u8 9] t frozen | o=>o)).modify 3 (fun | .cells _ t frozen => .cells #[.int .u8 0,.int .u8 1,.int .u8 56,.int .u8 2,.int .u8 57,.int .u8 49,.int .u8 28,.int .u8 3,.int .u8 61,.int .u8 58,.int .u8 42,.int .u8 50,.int .u8 38,.int .u8 29,.int .u8 17,.int .u8 4,.int .u8 62,.int .u8 47,.int .u8 59,.int .u8 36,.int .u8 45,.int .u8 43,.int .u8 51,.int .u8 22,.int .u8 53,.int .u8 39,.int .u8 33,.int .u8 30,.int .u8 24,.int .u8 18,.int .u8 12,.int .u8 5,.int .u8 63,.int .u8 55,.int .u8 48,.int .u8 27,.int .u8 60,.int .u8 41,.int .u8 37,.int .u8 16,.int .u8 46,.int .u8 35,.int .u8 44,.int .u8 21,.int .u8 52,.int .u8 32,.int .u8 23,.int .u8 11,.int .u8 54,.int .u8 26,.int .u8 40,.int .u8 15,.int .u8 34,.int .u8 20,.int .u8 31,.int .u8 10,.int .u8 25,.int .u8 14,.int .u8 19,.int .u8 9,.int .u8 13,.int .u8 8,.int .u8 7,.int .u8 6] t frozen | o=>o)).modify 0 (fun | .cells _ t frozen => .cells #[.int .u64 1,.int .u64 10,.int .u64 100,.int .u64 1000,.int .u64 10000,.int .u64 100000,.int .u64 1000000,.int .u64 10000000,.int .u64 100000000,.int .u64 1000000000,.int .u64 10000000000,.int .u64 100000000000,.int .u64 1000000000000,.int .u64 10000000000000,.int .u64 100000000000000,.int .u64 1000000000000000,.int .u64 10000000000000000,.int .u64 100000000000000000,.int .u64 1000000000000000000,.int .u64 10000000000000000000] t frozen | o=>o)) }
theorem laid_met (os:Os):laidMet Tryz.prog Rows.plainCanonsRow.laid ((laidWorld os).forCall (fun _ _=>0) ⟨#[],#[.slice none 0 0],[]⟩).memory :=
 laidMet_of_run' 8 (by kernel_rfl) (by kernel_rfl)
theorem reads (os:Os){H:Type}(enc:TypeId × Value→H):∃places,DataW.whole enc Tryz.prog ((laidWorld os).forCall (fun _ _=>0) ⟨#[],#[.slice none 0 0],[]⟩).memory Tryz.f4.params.toList Rows.plainCanonsSpec.vars false (#[.slice none 0 0]:Array Value).toList 8=some ([.nil],[],places) :=
 ⟨[],by kernel_rfl⟩
set_option maxRecDepth 100000 in
theorem lifted (os:Os)(started:os.Started)(H:Type)(enc:TypeId × Value→H)(F:Stop.Interp) :
 ReturnsInHanded {} Tryz.checked os 4 .any ((OpenSpec.ofChange Rows.plainCanonsSpec).preRow enc Tryz.prog Tryz.f4 Rows.plainCanonsRow.domain false Rows.plainCanonsRow.laid) (((OpenSpec.ofChange Rows.plainCanonsSpec).at F).post enc Tryz.prog Tryz.f4 false true false false):=by
 obtain⟨places,hx⟩:=reads os enc
 refine returnsInHanded_of_row (C:=Tryz.checked) (s:=OpenSpec.ofChange Rows.plainCanonsSpec) own started (by kernel_rfl) Tryz.func4
  (witness_row_at (enc:=enc) (C:=Tryz.checked) false (laidWorld os) #[.slice none 0 0] rfl (by kernel_rfl) (by kernel_rfl) (by kernel_rfl)
   (OpenSpec.preRow_of_cond 8 hx (by kernel_rfl) (fun k hk=>by cases hk) (by kernel_rfl) (laid_met os))) ?_
 intro W base args ds gs before hval hW _ _ hsz hL _ _
 exact contract H enc W base args ds gs before hval hW hsz hL
theorem said:Rows.PlainCanonsSaid :=
 OpenClaim.holds_of_cond 4 Tryz.f4 rfl rfl rfl rfl rfl rfl rfl ⟨rfl,rfl,rfl,rfl,rfl⟩ rfl rfl rfl rfl rfl (by kernel_rfl) Tryz.func4 (by kernel_rfl)
  (of_decide_eq_true (by kernel_rfl)) (by unfold Func.isWrapper;first | (rw[if_pos (by decide +kernel)];kernel_rfl) | (rw[if_neg (by decide +kernel)];exact⟨rfl,rfl⟩))
  (fun os started H enc _ F=>by rw[OpenClaim.pre_eq_preRow];exact lifted os started H enc F)
theorem plain (f:FuncId)(fn:Func)(hf:Tryz.pinned.checked.prog.funcNamed "pennyweight/pennyweightlaw08.PlainCanons" = some f)(hfn:Tryz.pinned.checked.prog.funcs[f]?=some fn) :
 true=Tryz.pinned.checked.prog.looks []∧∀ (j:Nat) t,fn.params[j]?=some t→Tryz.pinned.checked.prog.wantsStandIn t=false:=by
 obtain rfl:f=4:=Option.some.inj ((show Tryz.prog.funcNamed "pennyweight/pennyweightlaw08.PlainCanons" = some 4 by kernel_rfl).symm.trans hf) |>.symm
 obtain rfl:fn=Tryz.f4:=(Option.some.inj (Tryz.func4.symm.trans hfn)).symm
 refine⟨by kernel_rfl,fun j t ht=>?_⟩
 rw[Tryz.params4]at ht
 have hm:=Array.mem_of_getElem? ht
 simp only[Array.mem_def,List.mem_cons,List.not_mem_nil,or_false]at hm
 rcases hm with rfl<;>(show Tryz.prog.wantsStandIn _=false;kernel_rfl)
theorem proved:Rows.PlainCanonsCardSaid :=
 Claim7.holds_tied_plain_at .later [] _ _ _ _ said (fun _ h=>by cases h) (by kernel_rfl) (fun _ h=>by cases h) plainCanons_row_tie rfl ⟨rfl,rfl⟩ (by kernel_rfl) rfl plain (by kernel_rfl)
end Go.Proofs.YtjpkkkphhaajgaaGreatDoor.plainCanons
