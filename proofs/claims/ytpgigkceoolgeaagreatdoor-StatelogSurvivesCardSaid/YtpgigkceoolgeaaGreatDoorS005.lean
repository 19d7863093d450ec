import Derived.Test.YtpgigkceoolgeaaGreatDoorS004
import Derived.Test.YtpgigkceoolgeaaGreatDoorRows
import Derived.ChangeSlices
import Derived.Deep.Grids
set_option linter.all false
namespace Go.Proofs.YtpgigkceoolgeaaGreatDoor.Fd
open Go
set_option maxRecDepth 100000
theorem FK:(true == true)=true:=_root_.id rfl
theorem FL:(false == false)=true:=_root_.id rfl
attribute [push_cast] FK FL
theorem k8 {w:World}{a:Addr}{n:Nat}{V:Nat→Value}(h : ∀i,i<n→w.cell? (a.add i)=some (V i))(hn:0<n) :
 ∃b o,a=⟨b,o,none⟩∧b<w.heap.size∧∀j,j<n→w.cell? ⟨b,o+j,none⟩=some (V j):=by
 have h0:=h 0 hn;obtain⟨b,o,s⟩:=a;have e0:(Addr.add ⟨b,o,s⟩ 0)=⟨b,o,s⟩:=_root_.id rfl;rw[e0] at h0;have hb:b<w.heap.size:=by
  unfold World.cell? at h0;by_cases hb:b<w.heap.size
  ·exact hb
  ·simp[hb] at h0
 have hs:s=none:=by
  cases s with
  | none=>rfl
  | some x=>
   unfold World.cell? at h0;simp only[Option.isSome_some,if_true] at h0;split at h0 <;> cases h0
 subst hs;refine⟨b,o,rfl,hb,fun j hj=>?_⟩;have:=h j hj;unfold Addr.add at this;by_cases hj0:j=0
 ·subst hj0; exact this
 ·simpa[hj0] using this
def SlT (w:World)(F:Nat→Prop)(v:Value)(l:List Bool):Prop:=∃a c,v = .slice a l.length c∧(l≠[]→∃b o,a=some ⟨b,o,none⟩∧b<w.heap.size∧(∀j,j<l.length→w.cell? ⟨b,o+j,none⟩=(l[j]?).map Value.bool)∧¬F b)
section
variable {H : Type} {enc : TypeId × Value → H} {P : Program} {w : World} {v : Value} {r : Reach} {b0 : Nat} {d : DataW H} {ps : List MemPlace}
theorem FM {t e:TypeId}{n:Nat}{x:DataW H×List MemPlace}(ht:P.underlying t=some (.slice e))(he:P.underlying e=some .bool)(hc:P.cellsOf e=1)(h:DataW.trod enc P w 0 (fun _=>true) true n t [v]=some x) :
 ∃l,SlT w (fun b=>w.heap.size≤b) v l:=by
 rcases Go.Deep.open_bools ht he hc h with ⟨h1,_⟩ | ⟨a,len,cap,B,h1,_,hl,_,_,hx⟩
 ·have h1:v=_:=(List.cons.inj h1).1;exact⟨[],none,0,h1,fun h=>absurd rfl h⟩
 ·have h1:v=_:=(List.cons.inj h1).1;refine⟨(List.range len).map B,some a,cap,by simpa using h1,fun h0=>?_⟩;have hp:0<len:=by
   rcases Nat.eq_zero_or_pos len with e | e
   ·subst e; exact absurd rfl h0
   ·exact e
  obtain⟨b,o,e1,e2,e3⟩:=k8 (V:=fun i=>.bool (B i)) (fun i hi=>hx i hi) (Nat.lt_of_lt_of_le hp hl);refine⟨b,o,by rw[e1],e2,fun j hj=>?_,fun hb=>by omega⟩;have hj':j<len:=by simpa using hj
  rw[e3 j (by omega)];simp[hj']
theorem FP {t e:TypeId}{n:Nat}{x:DataW H×List MemPlace}(ht:P.underlying t=some (.slice e))(he:P.underlying e=some (.int .u8))(hc:P.cellsOf e=1)(h:DataW.trod enc P w 0 (fun _=>true) true n t [v]=some x) :
 ∃l,SlB w (fun b=>w.heap.size≤b) v l∧∀x∈l,(Lit.int .u8 x).wf=true:=by
 rcases Go.ChangeShapes.open_ints ht he hc h with ⟨h1,_⟩ | ⟨a,len,cap,zs,h1,_,hl,_,hz,_,hx,hw⟩
 ·have h1:v=_:=(List.cons.inj h1).1;exact⟨[],⟨none,0,h1,fun h=>absurd rfl h⟩,by simp⟩
 ·have h1:v=_:=(List.cons.inj h1).1;simp only[if_true] at hz;have hzl:(zs.take len).length=len:=by rw[List.length_take]; omega
  refine⟨zs.take len,⟨some a,cap,by rw[hzl]; exact h1,fun h0=>?_⟩,fun x hx=>hw x (List.mem_of_mem_take hx)⟩;have hp:0<len:=by
   rcases Nat.eq_zero_or_pos len with e | e
   ·subst e; exact absurd (List.take_zero) h0
   ·exact e
  obtain⟨b,o,e1,e2,e3⟩:=k8 (V:=fun i=>.int .u8 (zs.getD i 0)) (fun i hi=>hx i hi) (by omega);refine⟨b,o,by rw[e1],fun j hj=>?_,fun hb=>by omega⟩;have hj':j<len:=by rw[aQ,hzl] at hj; exact hj
  rw[e3 j (by omega)];simp[by8,hj',List.getElem?_take_of_lt,List.getD_eq_getElem?_getD,show j<zs.length by omega]
end
theorem calls_of_ok {P:Program}{f:FuncId}{args:Array Value}{w:World}{x:Value}(h:Ok (den P f args w) fun v w'=>v=x∧Upd (fun _=>False) w w') :
 Calls P f args w fun e w'=>e = .returned x∧RowKit.Below w.heap.size w w':=by
 obtain⟨v,w1,h1,rfl,hu⟩:=fU.1 h;refine(fO P _ _ _ _ _ h1).mono ?_;rintro e w' ⟨rfl,rfl⟩;exact⟨rfl,hu.os,hu.tape,hu.output,hu.size,fun k hk=>hu.block k hk (fun h=>h)⟩
end Go.Proofs.YtpgigkceoolgeaaGreatDoor.Fd
