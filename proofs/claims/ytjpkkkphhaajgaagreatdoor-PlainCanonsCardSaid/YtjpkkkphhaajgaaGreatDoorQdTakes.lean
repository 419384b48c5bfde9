/- a part -/
import Derived.OrdersHeld
import Derived.Below
set_option linter.all false
namespace Go
theorem Hd {p:Prop}(h:p):Go.RowKit.Hid p:=h
section
variable {P:Program} {ops:Array Oper} {Q:Exit→Act→World→Prop} {md:Region.Mode} {S:World→Prop}
def okT (md:Region.Mode)(ops:Array Oper):List Nat→Nat→Array Bool→Bool
 | [],_,_=>true
 |_::_,0,_=>false
 |i::is,n+1,l=>Region.free md ops l i && (Region.ready md ops l).contains i && okT md ops is n (l.setIfInBounds i true)
def lisT:List Nat→Array Bool→Array Bool
 | [],l=>l
 |i::is,l=>lisT is (l.setIfInBounds i true)
def fuelT:List Nat→Nat→Nat
 | [],n=>n
 |_::is,n=>fuelT is n.pred
def nthO:List Oper→Nat→Option Oper
 | [],_=>none
 |o::_,0=>some o
 |_::l,n+1=>nthO l n
theorem nthO_is:∀ (l:List Oper) (i:Nat),nthO l i=l[i]?
 | [],_=>rfl
 |o::l,0=>rfl
 |o::l,n+1=>nthO_is l n
def Yt (P:Program)(ops:Array Oper)(S:World→Prop):List Nat→Act→(Act→Prop)→Prop
 | [],a,K=>K a
 |i::is,a,K=>match nthO ops.toList i with | none=>False | some oi => ∃v,YieldsIf P ops S oi v a∧Yt P ops S is (a.put oi.dst v) K
theorem Yt.nil {a:Act}{K:Act→Prop}(h:K a):Yt P ops S [] a K:=h
theorem takes_go (hQ:∀c t t' d w,Q (.panic c) ⟨t,d⟩ w→Q (.panic c) ⟨t',d⟩ w)(hs:Region.noSelect ops=true){w:World}(hS:S w):∀ (is:List Nat) (n:Nat) (listed:Array Bool) (a:Act),okT md ops is n listed=true →
 Yt P ops S is a (fun a'=>wpAnyH P md ops Q S (fuelT is n) (lisT is listed) a' w)→wpAnyH P md ops Q S n listed a w:=by
 intro is
 induction is with
 |nil=>exact fun n listed a _ h=>h
 | cons i is ih =>
   intro n listed a hk h
   cases n with
   |zero=>cases hk
   | succ n =>
     unfold okT at hk;rw[Bool.and_eq_true,Bool.and_eq_true]at hk;unfold Yt at h;rw[nthO_is,Array.getElem?_toList]at h
     cases hi:ops[i]? with
     |none=>rw[hi]at h;exact h.elim
     | some oi =>
       rw[hi]at h;obtain⟨v,hy,h⟩:=h;exact wpAnyH_take hi hs hk.1.1 hk.1.2 (fun c a' w' hp=>by obtain⟨t,d⟩:=a';cases hd:oi.dst<;>(rw[hd]at hp;exact hQ c _ _ _ _ hp)) hy hS (ih n _ _ hk.2 h)
theorem takes (is:List Nat){n:Nat}{listed:Array Bool}{a:Act}{w:World}(hS:S w)(hk:(Region.noSelect ops && okT md ops is n listed)=true)(hQ:∀c t t' d w,Q (.panic c) ⟨t,d⟩ w→Q (.panic c) ⟨t',d⟩ w)
 (h:Yt P ops S is a (fun a'=>wpAnyH P md ops Q S (fuelT is n) (lisT is listed) a' w)):wpAnyH P md ops Q S n listed a w:=by
 rw[Bool.and_eq_true]at hk;exact takes_go hQ hk.1 hS is n listed a hk.2 h
end
theorem ya {α : Type _} (l : List α) (i : Nat) (a : α) : l.toArray.setIfInBounds i a = (l.set i a).toArray := List.setIfInBounds_toArray ..
theorem yb {α : Type _} {x : α} {l : List α} {a : α} : (x :: l).set 0 a = a :: l := rfl
theorem yc {α : Type _} {x : α} {l : List α} {n : Nat} {a : α} : (x :: l).set (n + 1) a = x :: l.set n a := rfl
end Go
