/- a part -/
import Derived.StillTailTactics
set_option linter.all false
namespace Go.Proofs.YtjpkkkphhaajgaaGreatDoor.words
open Go
section
variable {P:Program}
variable {ops:Array Oper} {md:Region.Mode} {Q:Exit→Act→World→Prop} {w:World}
inductive Tw (md:Region.Mode) (ops:Array Oper) (i:Nat):Nat→Prop
 |here {j:Nat} {oj:Oper} {e:Edge} (hj:ops[j]?=some oj) (he:e∈oj.after) (hb:Region.binds md e=true) (h:e.on=i):Tw md ops i j
 |there {j:Nat} {oj:Oper} {e:Edge} (hj:ops[j]?=some oj) (he:e∈oj.after) (hb:Region.binds md e=true) (h:Tw md ops i e.on):Tw md ops i j
def Closed (md:Region.Mode)(ops:Array Oper)(listed:Array Bool):Prop := ∀ (j:Nat) (oj:Oper),ops[j]?=some oj→listed.getD j false=true→∀e∈oj.after,Region.binds md e=true→listed.getD e.on false=true
theorem Tw.listed {i j:Nat}{listed:Array Bool}(h:Tw md ops i j)(hc:Closed md ops listed)(hd:∀oj,ops[j]?=some oj→∀e∈oj.after,Region.binds md e=true→listed.getD e.on false=true):listed.getD i false=true:=by
 induction h with
 |here hj he hb h=>rw[← h];exact hd _ hj _ he hb
 |there hj he hb h ih=>exact ih fun oj hoj e' he' hb'=>hc _ _ hoj (hd _ hj _ he hb) _ he' hb'
theorem Closed.set {listed:Array Bool}(hc:Closed md ops listed){i:Nat}(hi:i∈Region.ready md ops listed):Closed md ops (listed.setIfInBounds i true):=by
 obtain⟨_,oi,hoi,hall⟩:=mem_ready.1 hi;intro j oj hj hl e he hb;by_cases hij:i=j
 ·subst hij
  have:oj=oi:=Option.some.inj (hj.symm.trans hoi);subst this;exact getD_set_true (hall e he hb)
 ·rw[getD_set_ne false hij]at hl
  exact getD_set_true (hc j oj hj hl e he hb)
end
end Go.Proofs.YtjpkkkphhaajgaaGreatDoor.words
