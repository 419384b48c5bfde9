/- a part -/
import Derived.Test.YtjpkkkphhaajgaaGreatDoorQdWords
import Derived.Maps.RangeWalk
import Derived.WideKeyEntry
set_option linter.all false
namespace Go.Proofs.YtjpkkkphhaajgaaGreatDoor.words
open Go Maps Go.WideMaps Go.ChangeMaps
section
variable {P:Program} {k e t:TypeId} {w:World} {b n:Nat} {D:DataW Unit}
def Pend (P:Program)(t k e:TypeId)(w:World)(b n:Nat)(D:DataW Unit)(kl:Lit)(st:Nat):Prop :=
 (∃D1,w.ownsMap P k (plainElem P e) b (n+1) D1∧D1.atKey kl (.lit (.int .i64 0))=D.atKey kl (.lit (.int .i64 0))) ∧
 ∀w2:World,w2.heap[b]?=w.heap[b]?→∀c:Int,(Lit.int .i64 c).wf=true→∃w3,(Instr.entryStore t (.map (some b)) (goInt st) (.int .i64 c)).run P w2 = .ok () w3∧w3.ownsMap P k (plainElem P e) b (n+1) (D.put kl (.lit (.int .i64 c)))∧w2.grownBy w3 (some b)
theorem entry_shape (K:KeyLaw P k)(ht:P.underlying t=some (.map k e)){z:Value}(hz:∀u:World,(zeroValue e).run P u = .ok z u){es:Array MapEntry}{clock:Nat}(hb:w.heap[b]?=some (.map es clock))(F:WideElems.Fit P k (plainElem (H:=Unit) P e) es clock){key:Value}{kl:Lit}(hkey:keyOf P k key=some kl) :
 (∃r,(Instr.mapEntry t (.map (some b)) key).run P w = .ok r (setBlock w b (.map es clock))) ∨
 (∃r w',(Instr.mapEntry t (.map (some b)) key).run P w = .ok r w'∧(Instr.mapUpdate t (.map (some b)) key z).run P w = .ok () w'∧∀x∈es.toList,x.key≠key):=by
 rcases K.find w hkey es.toList F.keys with⟨h1,h2⟩ | ⟨j,e0,h1,h2,h3⟩
 ·refine .inr ⟨.tuple #[z,goInt clock],setBlock w b (.map (es.push ⟨key,z,clock⟩) (clock+1)),?_,?_,h2⟩
  ·simp[Instr.mapEntry,run_underlying ht,MapKept.run_getObj_map hb,K.check w false hkey,h1,hz,MapKept.run_setObj_map _ hb,Result.andThen,setBlock]
  ·simp[Instr.mapUpdate,run_underlying ht,MapKept.run_getObj_map hb,K.check w false hkey,h1,MapKept.run_setObj_map _ hb,Result.andThen,setBlock]
 ·have hj:es[j]?=some e0:=by simpa using h2
  obtain⟨_,_,_,_,hr,_⟩:=WideElems.entry_then_store (R:=plainElem (H:=Unit) P e) K ht hz hb F hkey
  have hsame:es.modify j (fun e => { e with key:=key })=es:=by
   apply Array.ext'
   rw[Array.toList_modify,modify_eq_set _ _ _ _ h2];have:({ e0 with key:=key }:MapEntry)=e0:=by rw[← h3]
   rw[this];exact WideElems.set_self _ _ _ h2
  refine .inl ⟨.tuple #[e0.val,goInt e0.born],?_⟩;simp[Instr.mapEntry,run_underlying ht,MapKept.run_getObj_map hb,K.check w false hkey,h1,hj,h3,K.stays w hkey,hsame,MapKept.run_setObj_map _ hb,Result.andThen,setBlock]
theorem own_same {w w2:World}(h:w.ownsMap P k (plainElem (H:=Unit) P e) b n D)(hb:w2.heap[b]?=w.heap[b]?):w2.ownsMap P k (plainElem P e) b n D:=by
 obtain⟨es,clock,h1,h2⟩:=h;exact⟨es,clock,hb.trans h1,h2⟩
theorem map_entry (K:KeyLaw P k)(ht:P.underlying t=some (.map k e))(he:P.underlying e=some (.int .i64))(hz:∀u:World,(zeroValue e).run P u = .ok (.int .i64 0) u)(h:w.ownsMap P k (plainElem P e) b n D)(hn:n<maxLen){key:Value}{kl:Lit}(hkey:keyOf P k key=some kl) :
 ∃ (v0:Value) (st:Nat) (w':World),(Instr.mapEntry t (.map (some b)) key).run P w = .ok (.tuple #[v0,goInt st]) w'∧Pend P t k e w' b n D kl st∧w.grownBy w' (some b):=by
 have hown:=h;obtain⟨es,clock,hb,F,hs,hD⟩:=h;obtain⟨v0,st,es1,clock1,hrun,_,hst⟩:=WideElems.entry_then_store (R:=plainElem (H:=Unit) P e) K ht hz hb F hkey;have hg:w.grownBy (setBlock w b (.map es1 clock1)) (some b):=⟨rfl,rfl,rfl,by simp[setBlock],fun i _ hi=>heap_setBlock_other hb _ (fun e=>hi (by rw[e]))⟩;have hw1:(setBlock w b (.map es1 clock1)).heap[b]?=some (.map es1 clock1):=heap_setBlock_same hb _;refine⟨v0,st,_,hrun,⟨?_,fun w2 hw2 c hc=>?_⟩,hg⟩
 ·rcases entry_shape K ht hz hb F hkey with⟨r,hr⟩ | ⟨r,w',hr,hu,hno⟩
  ·rw[hrun]at hr
   injection hr with _ hr
   rw[hr];exact⟨D,(own_same hown ((heap_setBlock_same hb _).trans hb.symm)).mono (Nat.le_succ _),rfl⟩
  ·rw[hrun]at hr
   injection hr with _ hr
   rw[hr];obtain⟨w'',hu2,ho,_⟩:=hown.update (Keyed.of_law K) ht hn hkey (plainElem_int (a:=0) he (by decide));rw[hu]at hu2;injection hu2 with _ hu2
   subst hu2;refine⟨_,ho,?_⟩;rw[atKey_put_same hown.isMap ((Keyed.of_law K).key hkey)];rcases Maps.fit_look false (Keyed.of_law K) ht (hz w) hb F hkey with⟨_,_,hat⟩ | ⟨e0,y,he0,hk0,_⟩
   ·rw[hD];exact (hat _).symm
   ·exact absurd hk0 (hno e0 he0)
 ·obtain⟨es',clock',hr2,hu⟩:=hst w2 (.int .i64 c) (hw2.trans hw1)
  obtain⟨w'',hu2,ho,_⟩:=hown.update (Keyed.of_law K) ht hn hkey (plainElem_int he hc);rw[hu]at hu2;injection hu2 with _ hu2
  subst hu2;have hb2:=hw2.trans hw1;exact⟨_,hr2,own_same ho ((heap_setBlock_same hb2 _).trans (heap_setBlock_same hb _).symm),⟨rfl,rfl,rfl,by simp[setBlock],fun i _ hi=>heap_setBlock_other hb2 _ (fun e=>hi (by rw[e]))⟩⟩
end
end Go.Proofs.YtjpkkkphhaajgaaGreatDoor.words
