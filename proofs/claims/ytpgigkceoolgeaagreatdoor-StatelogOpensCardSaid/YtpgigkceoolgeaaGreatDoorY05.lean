import Derived.Test.YtpgigkceoolgeaaGreatDoorY04
import Derived.Test.YtpgigkceoolgeaaGreatDoorRows
import Derived.ChangeSlices
import Derived.Deep.Grids
set_option linter.all false
namespace Go.Proofs.YtpgigkceoolgeaaGreatDoor.Fd
open Go
set_option maxRecDepth 100000
def SlT (w:World) (F:Nat→Prop) (v:Value) (l:List Bool):Prop:=∃a c,v = .slice a l.length c∧(l≠[]→∃b o,a=some ⟨b,o,none⟩∧b<w.heap.size∧(∀j,j<l.length→w.cell? ⟨b,o+j,none⟩=(l[j]?).map Value.bool)∧¬F b)
section
variable {H : Type} {enc : TypeId × Value → H} {P : Program} {w : World} {v : Value} {r : Reach} {b0 : Nat} {d : DataW H} {ps : List MemPlace}
end
theorem calls_of_ok {P:Program} {f:FuncId} {args:Array Value} {w:World} {x:Value} (h:Ok (den P f args w) fun v w'=>v=x∧Upd (fun _=>False) w w') :
   Calls P f args w fun e w'=>e = .returned x∧RowKit.Below w.heap.size w w':=by
 obtain ⟨v,w1,h1,rfl,hu⟩:=Ok_iff.1 h
 refine (den_sound P _ _ _ _ _ h1).mono ?_
 rintro e w' ⟨rfl,rfl⟩
 exact ⟨rfl,hu.os,hu.tape,hu.output,hu.size,fun k hk=>hu.block k hk (fun h=>h)⟩
end Go.Proofs.YtpgigkceoolgeaaGreatDoor.Fd
