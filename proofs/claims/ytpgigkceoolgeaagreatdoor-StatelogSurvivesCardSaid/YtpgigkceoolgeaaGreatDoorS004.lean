import Derived.Test.YtpgigkceoolgeaaGreatDoorS003
set_option linter.all false
namespace Go.Proofs.YtpgigkceoolgeaaGreatDoor.Fd
open Go
section
variable {P : Program} {D : Den} {ρ : Env} {w : World} {K : Out → Prop}
theorem BH {id:Nat}{l:List Oper}{keep:List Nat}:W P D (.region id l.toArray false) (.reg keep) ρ w K=WL P D l.toArray l ρ w (KR keep ρ K):=xY
theorem BI {id:Nat}{l:List Oper}{keep effs:List Nat}{fwd bwd:List (Nat×List Nat)} :
 W P D (.region id l.toArray true) (.drw keep effs fwd bwd) ρ w K=WD P D l.toArray effs fwd bwd 0 l ρ w.drew [] (KR keep ρ K):=xZ
def yV (v:Value):Option Bool:=
 match v with
 | .bool b=>some b
 | _=>none
def yD (d:Option Nat)(ρ:Env):Option Bool:=
 match d with
 | some d=>yV (ρ d)
 | none=>none
def yL (l:List Oper)(ρ:Env)(j:Nat):Option Bool:=
 match l,j with
 | [],_=>none
 | o :: _,0=>yD o.dst ρ
 | _ :: r,j+1=>yL r ρ j
theorem BJ {l:List Oper}{j:Nat}:yE l.toArray ρ j=yL l ρ j:=by
 unfold yE;rw[List.getElem?_toArray];induction l generalizing j with
 | nil=>simp[yL]
 | cons o r ih=>
  cases j with
  | zero=>
   simp only[List.getElem?_cons_zero,Option.bind_some,yL,yD];cases o.dst <;> rfl
  | succ j=>simpa[yL] using ih
theorem BK {d:Option Nat}{op:Op}{ty:TypeId}{pos:String}{af:Array Edge}{g:Option (Nat×Bool)}{r:List Oper}:yL (⟨d,op,ty,pos,af,g⟩ :: r) ρ 0=yD d ρ:=_root_.id rfl
theorem BL {o:Oper}{r:List Oper}{j:Nat}:yL (o :: r) ρ (j+1)=yL r ρ j:=_root_.id rfl
theorem BM {d:Nat}:yD (some d) ρ=yV (ρ d):=_root_.id rfl
theorem BN {b:Bool}:yV (.bool b)=some b:=_root_.id rfl
theorem BO {l:List Oper}{d:Option Nat}{op:Op}{ty:TypeId}{pos:String}{af:Array Edge}{j:Nat}{b:Bool} :
 stepO P D l.toArray ⟨d,op,ty,pos,af,some (j,b)⟩ ρ w=WG (yL l ρ j) b (opX P D op ty (ev ρ) w) (some (undef,w)):=by
 rw[yP,BJ]
theorem BP {ops:Array Oper}{d:Option Nat}{op:Op}{ty:TypeId}{pos:String}{af:Array Edge}{g:Option (Nat×Bool)}{r:List Oper}{K:Env×World→Prop} :
 WL P D ops (⟨d,op,ty,pos,af,g⟩ :: r) ρ w K=Okk (stepO P D ops ⟨d,op,ty,pos,af,g⟩ ρ w) (KL P D ops r ρ d K):=yJ
theorem BQ {ops:Array Oper}{effs:List Nat}{fwd bwd:List (Nat×List Nat)}{k:Nat}{o:Oper}{r:List Oper}{ρ:Env}{w w':World}{h:List (Value×World×Env)}{K:Env×World→Prop}{v:Value} :
 KD P D ops effs fwd bwd k o r ρ w h K (v,w')=((k∈effs∨w'=w)∧
 (allP (lookL fwd k) fun i=>∃oi y,ops[i]? =some oi∧h[i]? =some y∧stepO P D ops oi y.2.2 w'=some (y.1,w'))∧
 (allP (lookL bwd k) fun j=>∃y,h[j]? =some y∧stepO P D ops o ρ y.2.1=some (v,y.2.1))∧
 WD P D ops effs fwd bwd (k+1) r (ρ.put o.dst v) w' (h ++ [(v,w,ρ)]) K):=_root_.id rfl
theorem BR {c:Code}{p:Plan}{ρ':Env}{w':World}(h1:ρ=ρ')(h2:w=w'):W P D c p ρ w K=W P D c p ρ' w' K:=by rw [h1,h2]
theorem BS {ops:Array Oper}{l:List Oper}{ρ':Env}{w':World}{K:Env×World→Prop}(h1:ρ=ρ')(h2:w=w'):WL P D ops l ρ w K=WL P D ops l ρ' w' K:=by rw [h1,h2]
theorem BT {ops:Array Oper}{r:List Oper}{d:Option Nat}{K:Env×World→Prop}{x y:Value×World}(h:x=y):KL P D ops r ρ d K x=KL P D ops r ρ d K y:=by rw [h]
theorem BU {b:Code}{q:Plan}{x y:Out}(h:x=y):KS P D b q K x=KS P D b q K y:=by rw [h]
theorem BV {id:Nat}{x y:Out}(h:x=y):KB id K x=KB id K y:=by rw [h]
theorem BW {v v':Value}{A B:Prop}(h:v=v'):WC v A B=WC v' A B:=by rw [h]
theorem BX {y y':Option Bool}{b:Bool}{A B:Option (Value×World)}(h:y=y'):WG y b A B=WG y' b A B:=by rw [h]
theorem BY {σ τ:Type}{body:σ→World→Option ((σ ⊕ τ)×World)}{s s':σ}{w w':World}(h1:s=s')(h2:w=w'):loopR body s w=loopR body s' w':=by rw [h1,h2]
theorem BZ {A B:Prop}:WC (.bool true) A B=A:=by simp [WC]
theorem B0 {A B:Prop}:WC (.bool false) A B=B:=by simp [WC]
theorem B1 {b:Bool}{A B:Option (Value×World)}:WG (some b) b A B=A:=by simp [WG]
theorem B2 {A B:Option (Value×World)}:WG (some true) false A B=B:=by simp [WG]
theorem B3 {A B:Option (Value×World)}:WG (some false) true A B=B:=by simp [WG]
theorem B4 {p:Prop}[Decidable p](h:p):decide p=true:=by simp [h]
theorem B5 {p:Prop}[Decidable p](h : ¬p):decide p=false:=by simp [h]
end
theorem B6 {α:Type}{a d:α}{l:List α}:(a :: l).getD 0 d=a:=_root_.id rfl
theorem B7 {α:Type}{a d:α}{l:List α}{n:Nat}:(a :: l).getD (n+1) d=l.getD n d:=_root_.id rfl
theorem B8 {α:Type}{l:List α}{i:Nat}:l.toArray[i]? =l[i]? :=by simp
theorem B9 {α:Type}{a:α}{l:List α}:(a :: l)[0]? =some a:=_root_.id rfl
theorem CA {α:Type}{a:α}{l:List α}{n:Nat}:(a :: l)[n+1]? =l[n]? :=_root_.id rfl
theorem CC {α β:Type}{a:α}{f:α→β}:(some a).map f=some (f a):=_root_.id rfl
theorem CD {α β:Type}{l:List α}{f:α→β}:l.toArray.map f=(l.map f).toArray:=by simp
theorem CE {α β:Type}{a:α}{l:List α}{f:α→β}:(a :: l).map f=f a :: l.map f:=_root_.id rfl
theorem CF {α β:Type}{f:α→β}:([]:List α).map f = []:=_root_.id rfl
attribute [congr] BR BS BT BU BV BW BX BY xV
attribute [push_cast] BG aD xW o5 xX BH BI x6 x7 x8 aC x9 yA yB yC yG yH yI BP yK yM yN yO BO BK BL BM BN yR yS yT yU yW yX yY yZ y7 y8 zA zB zC zD zE zF zG zH zI dU BZ B0 B1 B2 B3 B4 B5 zL zM zN zO zP zQ zR zS zT zU zV zW zX zY zZ AA AB AC AD AE AF AG AH AI AJ AQ AR AS AV AW AY A3 B6 B7 B8 B9 CA CC CD CE CF Nat.zero_add Nat.add_zero if_true if_false Bool.false_eq_true
attribute [push_cast] decide_true decide_false Bool.not_true Bool.not_false
def Blk (w:World)(b:Nat)(cs:List Value)(E:TypeId):Prop:=w.heap[b]? =some (.cells cs.toArray E (0,0))
theorem Blk.cell {w:World}{b:Nat}{cs:List Value}{E:TypeId}(h:Blk w b cs E)(o:Nat):w.cell? ⟨b,o,none⟩=cs[o]? :=by
 unfold Blk at h;simp[World.cell?,h]
theorem Blk.free {w:World}{b:Nat}{cs:List Value}{E:TypeId}(h:Blk w b cs E)(o:Nat):w.frozen? ⟨b,o,none⟩=false:=by
 unfold Blk at h;simp[World.frozen?,h]
theorem Blk.lt {w:World}{b:Nat}{cs:List Value}{E:TypeId}(h:Blk w b cs E):b<w.heap.size:=by
 unfold Blk at h;rw[Array.getElem?_eq_some_iff] at h;exact h.1
theorem Blk.set {w:World}{b:Nat}{cs:List Value}{E:TypeId}(h:Blk w b cs E)(o:Nat)(v:Value):Blk (w.setCell ⟨b,o,none⟩ v) b (cs.set o v) E:=by
 unfold Blk at h ⊢;simp only[World.setCell,Array.getElem?_modify,h];simp
theorem Blk.other {w:World}{b:Nat}{cs:List Value}{E:TypeId}(h:Blk w b cs E){a:Addr}(v:Value)(hn:a.block≠b):Blk (w.setCell a v) b cs E:=by
 unfold Blk at h ⊢;simp only[World.setCell,Array.getElem?_modify,h];simp[hn]
theorem Blk.alloc {w:World}{b:Nat}{cs:List Value}{E:TypeId}(h:Blk w b cs E)(o:Obj):Blk (w.alloc o) b cs E:=by
 have:=h.lt;unfold Blk at h ⊢;show(w.heap.push o)[b]? =_;rw[Array.getElem?_push,if_neg (by omega)];exact h
theorem Blk.new {w:World}{cs:List Value}{E:TypeId}:Blk (w.alloc (.cells cs.toArray E (0,0))) w.heap.size cs E:=by
 unfold Blk;show(w.heap.push _)[w.heap.size]? =_;rw[Array.getElem?_push,if_pos rfl]
theorem Blk.drew {w:World}{b:Nat}{cs:List Value}{E:TypeId}(h:Blk w b cs E):Blk w.drew b cs E:=h
section
variable {P : Program} {D : Den} {w : World} {ty : TypeId} {e : Operand → Value} {t : TypeId} {ox oy : Operand}
def selK {α:Type}(k:Option Bool)(A B C:α):α:=
 match k with
 | some false=>A
 | some true=>B
 | none=>C
theorem CG {α:Type}{A B C:α}:selK (some false) A B C=A:=_root_.id rfl
theorem CH {α:Type}{A B C:α}:selK (some true) A B C=B:=_root_.id rfl
theorem CI {α:Type}{k k':Option Bool}{A B C:α}(h:k=k'):selK k A B C=selK k' A B C:=by rw [h]
def orK {α β:Type}(x:Option α)(A:α→β)(B:β):β:=
 match x with
 | some v=>A v
 | none=>B
theorem kX {α β:Type}{v:α}{A:α→β}{B:β}:orK (some v) A B=A v:=_root_.id rfl
theorem CJ {α β:Type}{x y:Option α}{A:α→β}{B:β}(h:x=y):orK x A B=orK y A B:=by rw [h]
def iffK {β:Type}(x:Bool)(A B:β):β:=if x then A else B
theorem bU {β:Type}{A B:β}:iffK true A B=A:=_root_.id rfl
theorem bX {β:Type}{A B:β}:iffK false A B=B:=_root_.id rfl
theorem CK {β:Type}{x y:Bool}{A B:β}(h:x=y):iffK x A B=iffK y A B:=by rw [h]
open Classical in
noncomputable def iffP {β:Type}(p:Prop)(A B:β):β:=if p then A else B
theorem CL {β:Type}{A B:β}:iffP True A B=A:=by simp [iffP]
theorem CM {β:Type}{A B:β}:iffP False A B=B:=by simp [iffP]
theorem CN {β:Type}{p q:Prop}{A B:β}(h:p=q):iffP p A B=iffP q A B:=by rw [h]
theorem CP {id i:Nat}{ρ:Env}{w:World}{K:Out→Prop}:KB id K (.exit i,ρ,w)=iffP (i=id) (K (.normal,ρ,w)) (K (.exit i,ρ,w)):=by
 rw[yF];unfold iffP;by_cases h:i=id <;> simp[h]
theorem CQ {ρ:Env}{k:Nat}{v:Value}{t:Nat}:(ρ.set k v) t=iffP (t=k) v (ρ t):=by
 rw[yQ];unfold iffP;by_cases h:t=k <;> simp[h]
def cellsAt (w:World)(b o:Nat):Nat→Option (List Value)
 | 0=>some []
 | n+1=>orK (w.cell? ⟨b,o,none⟩) (fun v=>orK (cellsAt w b (o+1) n) (fun l=>some (v :: l)) none) none
theorem CR {b o:Nat}:cellsAt w b o 0=some []:=_root_.id rfl
theorem CT {b o n:Nat}:cellsAt w b o (n+1)=orK (w.cell? ⟨b,o,none⟩) (fun v=>orK (cellsAt w b (o+1) n) (fun l=>some (v :: l)) none) none:=_root_.id rfl
theorem CU {b:Nat} : ∀{n o:Nat} {l:List Value},cellsAt w b o n=some l→l.length=n∧∀j,j<n→w.cell? ⟨b,o+j,none⟩=l[j]? :=by
 intro n;induction n with
 | zero=>
  intro o l h;simp only[cellsAt,Option.some.injEq] at h;subst h;exact⟨rfl,fun j hj=>by omega⟩
 | succ n ih=>
  intro o l h;simp only[cellsAt] at h;cases hc:w.cell? ⟨b,o,none⟩ with
  | none=>rw[hc] at h; cases h
  | some v=>
   rw[hc] at h;simp only[orK] at h;cases hr:cellsAt w b (o+1) n with
   | none=>rw[hr] at h; cases h
   | some r=>
    rw[hr] at h;simp only[Option.some.injEq] at h;subst h;obtain⟨h1,h2⟩:=ih hr;refine⟨by simp[h1],fun j hj=>?_⟩;cases j with
    | zero=>simpa using hc
    | succ j=>
     have:=h2 j (by omega);rw[show o+(j+1)=o+1+j from by omega,this];simp
def ldFar (P:Program)(t:TypeId)(a:Addr)(w:World):Option (Value×World):=ldS P t (.pointer (some a)) w
theorem CX {b o:Nat}:ldS P t (.pointer (some ⟨b,o,none⟩)) w =
 selK (knd P t) (orK (w.cell? ⟨b,o,none⟩) (fun v=>some (v,w)) (ldFar P t ⟨b,o,none⟩ w))
  (orK (siz P t) (fun n=>orK (cellsAt w b o n) (fun l=>some (.agg l.toArray,w)) (ldFar P t ⟨b,o,none⟩ w)) (ldFar P t ⟨b,o,none⟩ w)) (ldFar P t ⟨b,o,none⟩ w):=by
 cases hk:knd P t with
 | none=>rfl
 | some k=>
  cases k with
  | false=>
   simp only[selK];cases hc:w.cell? ⟨b,o,none⟩ with
   | none=>rfl
   | some v=>simp only[orK]; exact AT hk hc
  | true=>
   simp only[selK];cases hs:siz P t with
   | none=>rfl
   | some n=>
    simp only[orK];cases hc:cellsAt w b o n with
    | none=>rfl
    | some l=>
     obtain⟨h1,h2⟩:=CU hc;refine kR hk (by rw[hs,h1]) fun j hj=>?_;rw[←h2 j (by omega)];congr 1;unfold Addr.add;split
     ·rename_i h0; rw[h0]; rfl
     ·rfl
def putAt (w:World)(b o:Nat):List Value→Option World
 | []=>some w
 | v :: r=>orK (w.cell? ⟨b,o,none⟩) (fun _=>iffK (w.frozen? ⟨b,o,none⟩) none (iffK v.oneCell' (putAt (w.setCell ⟨b,o,none⟩ v) b (o+1) r) none)) none
theorem CY {b o:Nat}:putAt w b o []=some w:=_root_.id rfl
theorem kY {b o:Nat}{v:Value}{r:List Value}:putAt w b o (v :: r) =
 orK (w.cell? ⟨b,o,none⟩) (fun _=>iffK (w.frozen? ⟨b,o,none⟩) none (iffK v.oneCell' (putAt (w.setCell ⟨b,o,none⟩ v) b (o+1) r) none)) none:=_root_.id rfl
theorem pD {b:Nat} : ∀{l:List Value} {w w':World} {o i:Nat},putAt w b (o+i) l=some w'→(storeCells ⟨b,o,none⟩ l i).run P w = .ok () w':=by
 intro l;induction l with
 | nil=>
  intro w w' o i h;simp only[putAt,Option.some.injEq] at h;subst h;simp[storeCells]
 | cons v r ih=>
  intro w w' o i h;simp only[putAt] at h;cases hc:w.cell? ⟨b,o+i,none⟩ with
  | none=>rw[hc] at h; cases h
  | some u=>
   rw[hc] at h;simp only[orK] at h;cases hf:w.frozen? ⟨b,o+i,none⟩ with
   | true=>rw[hf] at h; cases h
   | false=>
    rw[hf] at h;simp only[bX] at h;cases ho:v.oneCell' with
    | false=>rw[ho] at h; cases h
    | true=>
     rw[ho] at h;simp only[bU] at h;have ha:(⟨b,o,none⟩:Addr).add i=⟨b,o+i,none⟩:=by
      unfold Addr.add;split
      ·rename_i h0; rw[h0]; rfl
      ·rfl
     simp only[storeCells,Sem.run_bind,run_store P w _ v .plain ho,ha,hc,hf,Bool.false_eq_true,if_false,Result.andThen_ok];exact ih (i:=i+1) (by rw[show o+(i+1)=o+i+1 from by omega]; exact h)
def stFar (P:Program)(t:TypeId)(a:Addr)(v:Value)(w:World):Option (Value×World):=stS P t (.pointer (some a)) v w
theorem fX {b o:Nat}{v:Value}(hs:siz P t=some v.cells.size){w':World}(h:putAt w b o v.cells.toList=some w'):stS P t (.pointer (some ⟨b,o,none⟩)) v w=some (undef,w'):=by
 unfold siz at hs;cases hi:P.info? t with
 | none=>rw[hi] at hs; cases hs
 | some i=>
  rw[hi] at hs;simp only[Option.map_some,Option.some.injEq] at hs;have:=pD (P:=P) (i:=0) (o:=o) (by simpa using h);simp[stS,Instr.storeAt,Instr.sureAddr,storeVar,sizeOf,typeInfo,hi,hs,this]
theorem CZ {b o:Nat}{v:Value}:stS P t (.pointer (some ⟨b,o,none⟩)) v w =
 orK (siz P t) (fun n=>iffK (decide (n=v.cells.size)) (orK (putAt w b o v.cells.toList) (fun w'=>some (undef,w')) (stFar P t ⟨b,o,none⟩ v w)) (stFar P t ⟨b,o,none⟩ v w)) (stFar P t ⟨b,o,none⟩ v w):=by
 cases hs:siz P t with
 | none=>rfl
 | some n=>
  simp only[orK];by_cases hn:n=v.cells.size
  ·rw[show decide (n=v.cells.size)=true from by simp[hn],bU];cases hp:putAt w b o v.cells.toList with
   | none=>rfl
   | some w'=>exact fX (by rw[hs,hn]) hp
  ·rw[show decide (n=v.cells.size)=false from by simp[hn],bX];rfl
def fldFar (P:Program)(t:TypeId)(a:Addr)(f:Nat)(w:World):Option (Value×World):=fldS P t (.pointer (some a)) f w
theorem C0 {b o f:Nat}:fldS P t (.pointer (some ⟨b,o,none⟩)) f w=orK (fofs P t f) (fun n=>some (.pointer (some ⟨b,o+n,none⟩),w)) (fldFar P t ⟨b,o,none⟩ f w):=by
 cases h:fofs P t f with
 | none=>rfl
 | some n=>exact AX h
def idxFar (P:Program)(t:TypeId)(x i:Value)(w:World):Option (Value×World):=idxS P t x i w
theorem C1 {b o n c:Nat}{k:IntKind}{i:Int}(h0:0≤i)(h1:i<n):idxS P t (.slice (some ⟨b,o,none⟩) n c) (.int k i) w =
 orK (elt P t) (fun el=>orK (siz P el) (fun s=>some (.pointer (some ⟨b,o+i.toNat*s,none⟩),w)) (idxFar P t (.slice (some ⟨b,o,none⟩) n c) (.int k i) w)) (idxFar P t (.slice (some ⟨b,o,none⟩) n c) (.int k i) w):=by
 cases h:elt P t with
 | none=>rfl
 | some el=>
  simp only[orK];cases hs:siz P el with
  | none=>rfl
  | some s=>exact AZ h hs h0 h1
theorem C2 {b o:Nat}{k:IntKind}{i:Int}(h0:0≤i):idxS P t (.pointer (some ⟨b,o,none⟩)) (.int k i) w =
 orK (arrOf P t) (fun p=>orK (siz P p.2) (fun s=>iffK (decide (i<p.1)) (some (.pointer (some ⟨b,o+i.toNat*s,none⟩),w)) (idxFar P t (.pointer (some ⟨b,o,none⟩)) (.int k i) w)) (idxFar P t (.pointer (some ⟨b,o,none⟩)) (.int k i) w))
  (idxFar P t (.pointer (some ⟨b,o,none⟩)) (.int k i) w):=by
 cases h:arrOf P t with
 | none=>rfl
 | some p=>
  obtain⟨n,el⟩:=p;simp only[orK];cases hs:siz P el with
  | none=>rfl
  | some s=>
   dsimp only;by_cases h1:i<n
   ·rw[show decide (i<(n:Int))=true from by simp[h1],bU]; exact A0 h hs h0 h1
   ·rw[show decide (i<(n:Int))=false from by simp[h1],bX]; rfl
theorem aCz {x:Operand}:opX P D (.nilCheck x) ty e w=(match e x with | .pointer (some a)=>some (.pointer (some a),w) | _=>opX P D (.nilCheck x) ty e w):=by
 split
 ·rename_i a h; exact o7 h
 ·rfl
def nilK (P:Program)(D:Den)(x:Operand)(ty:TypeId)(e:Operand→Value)(v:Value)(w:World):Option (Value×World):=
 match v with
 | .pointer (some a)=>some (.pointer (some a),w)
 | _=>opX P D (.nilCheck x) ty e w
theorem C3 {x:Operand}{a:Addr}:nilK P D x ty e (.pointer (some a)) w=some (.pointer (some a),w):=_root_.id rfl
theorem C4 {x:Operand}{v v':Value}{w':World}(h:v=v')(h2:w=w'):nilK P D x ty e v w=nilK P D x ty e v' w':=by rw [h,h2]
theorem C5 {x:Operand}:opX P D (.nilCheck x) ty e w=nilK P D x ty e (e x) w:=by
 unfold nilK;split
 ·rename_i a h; exact o7 h
 ·rfl
def callFar (P:Program)(D:Den)(c:Call)(ty:TypeId)(e:Operand→Value)(w:World):Option (Value×World):=opX P D (.call c) ty e w
theorem C6 {args:Array Operand}{ats:Array TypeId}{g:FuncId}{ρ:Env}:opX P D (.call ⟨.value (.func g),args,ats⟩) ty (ev ρ) w =
 iffK (hasB P g) (D g (args.map (ev ρ)) w) (callFar P D ⟨.value (.func g),args,ats⟩ ty (ev ρ) w):=by
 cases h:hasB P g with
 | false=>rfl
 | true=>exact A2 h
def fnK (P:Program)(D:Den)(f:Value)(args:Array Value)(w:World)(B:Option (Value×World)):Option (Value×World):=
 match f with
 | .func (.func g) first cap=>iffK (hasB P g) (D g (first ++ args ++ cap) w) B
 | _=>B
theorem C7 {g:FuncId}{first cap args:Array Value}{B:Option (Value×World)}:fnK P D (.func (.func g) first cap) args w B=iffK (hasB P g) (D g (first ++ args ++ cap) w) B:=_root_.id rfl
theorem C8 {f f':Value}{args args':Array Value}{w':World}{B:Option (Value×World)}(h:f=f')(h2:args=args')(h3:w=w'):fnK P D f args w B=fnK P D f' args' w' B:=by rw [h,h2,h3]
theorem C9 {args:Array Operand}{ats:Array TypeId}{x:Nat}:opX P D (.call ⟨.value (.tmp x),args,ats⟩) ty e w =
 fnK P D (e (.tmp x)) (args.map e) w (callFar P D ⟨.value (.tmp x),args,ats⟩ ty e w):=by
 unfold fnK;split
 ·rename_i g first cap hf
  cases h:hasB P g with
  | false=>rfl
  | true=>exact o9 hf h
 ·rfl
def lenFar (P:Program)(t:TypeId)(x:Value)(w:World):Option (Value×World):=lenS P t x w
theorem DA {a:Option Addr}{n c:Nat}:lenS P t (.slice a n c) w=orK (elt P t) (fun _=>some (.int .i64 n,w)) (lenFar P t (.slice a n c) w):=by
 cases h:elt P t with
 | none=>rfl
 | some el=>exact A4 h
def binFar (P:Program)(op:BinOp)(t:TypeId)(ox oy:Operand)(x y:Value)(w:World):Option (Value×World):=binS P op t ox oy x y w
theorem DB {x y:Bool}:binS P .neq t ox oy (.bool x) (.bool y) w=iffK (decide (tag P t=1)) (some (.bool !(x == y),w)) (binFar P .neq t ox oy (.bool x) (.bool y) w):=by
 by_cases h:tag P t=1
 ·rw[show decide (tag P t=1)=true from by simp[h],bU]; exact AM h
 ·rw[show decide (tag P t=1)=false from by simp[h],bX]; rfl
theorem DC {a:Option Addr}:binS P .eql t ox oy (.pointer a) (.pointer none) w=iffK (decide (tag P t=2)) (some (.bool a.isNone,w)) (binFar P .eql t ox oy (.pointer a) (.pointer none) w):=by
 by_cases h:tag P t=2
 ·rw[show decide (tag P t=2)=true from by simp[h],bU]; exact AO h
 ·rw[show decide (tag P t=2)=false from by simp[h],bX]; rfl
theorem DD {a:Option Addr}:binS P .neq t ox oy (.pointer a) (.pointer none) w=iffK (decide (tag P t=2)) (some (.bool !a.isNone,w)) (binFar P .neq t ox oy (.pointer a) (.pointer none) w):=by
 by_cases h:tag P t=2
 ·rw[show decide (tag P t=2)=true from by simp[h],bU]; exact AP h
 ·rw[show decide (tag P t=2)=false from by simp[h],bX]; rfl
theorem DE {k:IntKind}{n:Int}:(Value.int k n).oneCell'=true:=_root_.id rfl
theorem DF {b:Bool}:(Value.bool b).oneCell'=true:=_root_.id rfl
theorem DG {a:Option Addr}{n c:Nat}:(Value.slice a n c).oneCell'=true:=_root_.id rfl
theorem DH {a:Option Addr}:(Value.pointer a).oneCell'=true:=_root_.id rfl
theorem DI {s:ByteArray}:(Value.string s).oneCell'=true:=_root_.id rfl
theorem DJ {k:IntKind}{n:Int}:(Value.int k n).cells = #[.int k n]:=_root_.id rfl
theorem DK {b:Bool}:(Value.bool b).cells = #[.bool b]:=_root_.id rfl
theorem DL {a:Option Addr}{n c:Nat}:(Value.slice a n c).cells = #[.slice a n c]:=_root_.id rfl
theorem DM {a:Option Addr}:(Value.pointer a).cells = #[.pointer a]:=_root_.id rfl
theorem DN {x:Array Value}:(Value.agg x).cells=x:=_root_.id rfl
end
theorem DO {n:Int}(h1 : -9223372036854775808≤n)(h2:n≤9223372036854775807):IntKind.i64.wrap n=n:=IntWalk.i64_in n ⟨h1,h2⟩
theorem pE {w:World}{b o b' o':Nat}{v:Value}:(w.setCell ⟨b,o,none⟩ v).cell? ⟨b',o',none⟩ =
 if b'=b∧o'=o then (w.cell? ⟨b,o,none⟩).map fun _=>v else w.cell? ⟨b',o',none⟩:=by
 simp only[World.cell?,World.setCell,Array.getElem?_modify];by_cases hb:b'=b
 ·subst hb;cases h:w.heap[b']? with
  | none=>simp
  | some ob=>
   cases ob <;> simp;rename_i c E fz;by_cases ho:o'=o
   ·subst ho;by_cases hlt:o'<c.size <;> simp[hlt]
   ·simp[ho,Array.getElem?_setIfInBounds_ne (Ne.symm ho)]
 ·simp[hb,Ne.symm hb]
theorem DP {w:World}{a a':Addr}{v:Value}:(w.setCell a v).frozen? a'=w.frozen? a':=by
 simp only[World.frozen?,World.setCell,Array.getElem?_modify];by_cases hb:a.block=a'.block
 ·rw[if_pos hb];cases h:w.heap[a'.block]? with
  | none=>simp
  | some ob=>cases ob <;> simp
 ·rw[if_neg hb]
theorem DQ {w:World}{a:Addr}:w.drew.cell? a=w.cell? a:=_root_.id rfl
theorem DR {w:World}{a:Addr}:w.drew.frozen? a=w.frozen? a:=_root_.id rfl
theorem DT {w:World}:w.drew.heap.size=w.heap.size:=_root_.id rfl
theorem bA {w:World}{a:Addr}{v:Value}:(w.setCell a v).heap.size=w.heap.size:=by simp [World.setCell]
theorem aI {w:World}{o:Obj}:(w.alloc o).heap.size=w.heap.size+1:=by
 show(w.heap.push o).size=_;simp
theorem DU {w:World}{ob:Obj}{b o:Nat}(h:b<w.heap.size):(w.alloc ob).cell? ⟨b,o,none⟩=w.cell? ⟨b,o,none⟩:=by
 have e:(w.alloc ob).heap[b]? =w.heap[b]? :=by
  show(w.heap.push ob)[b]? =_;rw[Array.getElem?_push,if_neg (by omega)]
 simp only[World.cell?,e]
theorem DV {w:World}{l:List Value}{E:TypeId}{o:Nat}:(w.alloc (.cells l.toArray E (0,0))).cell? ⟨w.heap.size,o,none⟩=l[o]? :=(Blk.new (w:=w) (cs:=l) (E:=E)).cell o
theorem DW {w:World}{ob:Obj}{b o:Nat}(h:b<w.heap.size):(w.alloc ob).frozen? ⟨b,o,none⟩=w.frozen? ⟨b,o,none⟩:=by
 have e:(w.alloc ob).heap[b]? =w.heap[b]? :=by
  show(w.heap.push ob)[b]? =_;rw[Array.getElem?_push,if_neg (by omega)]
 simp only[World.frozen?,e]
theorem DX {w:World}{l:List Value}{E:TypeId}{o:Nat}:(w.alloc (.cells l.toArray E (0,0))).frozen? ⟨w.heap.size,o,none⟩=false:=(Blk.new (w:=w) (cs:=l) (E:=E)).free o
theorem DY {α:Type}{a:α}:(some a).isNone=false:=_root_.id rfl
theorem DZ {α:Type}{l:List α}:l.toArray.size=l.length:=_root_.id rfl
theorem D0 {α:Type}{a:α}{l:List α}:(a :: l).length=l.length+1:=_root_.id rfl
theorem EA {α:Type}:([]:List α).length=0:=_root_.id rfl
theorem EB {α:Type}{l m:List α}:l.toArray ++ m.toArray=(l ++ m).toArray:=by simp
theorem EC {α:Type}{l:List α} : [] ++ l=l:=_root_.id rfl
theorem ED {α:Type}{a:α}{l m:List α}:(a :: l) ++ m=a :: (l ++ m):=_root_.id rfl
attribute [congr] CN CI CJ CK C4 C8
attribute [push_cast 500] CX CZ
attribute [push_cast] CP CL CM CQ CG CH kX bU bX CR CT CY kY C0 C1 C2 C3 C5 C6 C7 C9 DA DB DC DD DE DF DG DH DI DJ DK DL DM DN DO pE DP DQ DR DT bA aI DU DV DW DX DY DZ D0 EA true_and and_true and_false false_and EB EC ED
def nthK {α:Type}(l:List α)(i:Nat)(f:α→Prop):Prop:=
 match l[i]? with
 | some x=>f x
 | none=>False
theorem aE {α:Type}{x:α}{r:List α}{f:α→Prop}:nthK (x :: r) 0 f=f x:=_root_.id rfl
theorem aF {α:Type}{x:α}{r:List α}{f:α→Prop}{i:Nat}:nthK (x :: r) (i+1) f=nthK r i f:=_root_.id rfl
theorem pF {α:Type}{l:List α}{i:Nat}{f:α→Prop}:nthK l i f↔∃x,l[i]? =some x∧f x:=by
 unfold nthK;cases l[i]? <;> simp
def memN (l:List Nat)(k:Nat):Bool:=
 match l with
 | []=>false
 | a :: r=>iffK (a == k) true (memN r k)
theorem EE {k:Nat}:memN [] k=false:=_root_.id rfl
theorem EF {a k:Nat}{r:List Nat}:memN (a :: r) k=iffK (a == k) true (memN r k):=_root_.id rfl
theorem pG {l:List Nat}{k:Nat}:memN l k=true↔k∈l:=by
 induction l with
 | nil=>simp[memN]
 | cons a r ih=>
  simp only[memN,iffK];by_cases h:a=k
  ·simp[h]
  ·have:(a == k)=false:=by simp[h]
   simp[this,ih,Ne.symm h]
theorem EG {k:Nat}:lookL [] k = []:=_root_.id rfl
theorem EH {i k:Nat}{xs:List Nat}{r:List (Nat×List Nat)}:lookL ((i,xs) :: r) k=iffK (i == k) xs (lookL r k):=by
 simp only[lookL,iffK];by_cases h:i=k <;> simp[h]
def chkF (P:Program)(D:Den)(l:List Oper)(h:List (Value×World×Env))(w':World):List Nat→Prop
 | []=>True
 | i :: is=>(nthK l i fun oi=>nthK h i fun y=>stepO P D l.toArray oi y.2.2 w'=some (y.1,w'))∧chkF P D l h w' is
def chkB (P:Program)(D:Den)(l:List Oper)(h:List (Value×World×Env))(o:Oper)(ρ:Env)(v:Value):List Nat→Prop
 | []=>True
 | j :: js=>(nthK h j fun y=>stepO P D l.toArray o ρ y.2.1=some (v,y.2.1))∧chkB P D l h o ρ v js
section
variable {P : Program} {D : Den} {ρ : Env}
theorem EI {l:List Oper}{h:List (Value×World×Env)}{w':World}:chkF P D l h w' []=True:=_root_.id rfl
theorem EJ {l:List Oper}{h:List (Value×World×Env)}{w':World}{i:Nat}{is:List Nat} :
 chkF P D l h w' (i :: is)=((nthK l i fun oi=>nthK h i fun y=>stepO P D l.toArray oi y.2.2 w'=some (y.1,w'))∧chkF P D l h w' is):=_root_.id rfl
theorem EK {l:List Oper}{h:List (Value×World×Env)}{o:Oper}{v:Value}:chkB P D l h o ρ v []=True:=_root_.id rfl
theorem EL {l:List Oper}{h:List (Value×World×Env)}{o:Oper}{v:Value}{j:Nat}{js:List Nat} :
 chkB P D l h o ρ v (j :: js)=((nthK h j fun y=>stepO P D l.toArray o ρ y.2.1=some (v,y.2.1))∧chkB P D l h o ρ v js):=_root_.id rfl
theorem EM {l:List Oper}{h:List (Value×World×Env)}{w':World}{is:List Nat}:chkF P D l h w' is↔
 allP is fun i=>∃oi y,l.toArray[i]? =some oi∧h[i]? =some y∧stepO P D l.toArray oi y.2.2 w'=some (y.1,w'):=by
 induction is with
 | nil=>simp[chkF,allP]
 | cons i is ih=>
  simp only[chkF,allP,ih,pF,List.getElem?_toArray];constructor
  ·rintro⟨⟨oi,h1,y,h2,h3⟩,h4⟩; exact⟨⟨oi,y,h1,h2,h3⟩,h4⟩
  ·rintro⟨⟨oi,y,h1,h2,h3⟩,h4⟩; exact⟨⟨oi,h1,y,h2,h3⟩,h4⟩
theorem EN {l:List Oper}{h:List (Value×World×Env)}{o:Oper}{v:Value}{js:List Nat}:chkB P D l h o ρ v js↔
 allP js fun j=>∃y,h[j]? =some y∧stepO P D l.toArray o ρ y.2.1=some (v,y.2.1):=by
 induction js with
 | nil=>simp[chkB,allP]
 | cons i is ih=>simp only[chkB,allP,ih,pF]
theorem EO {l:List Oper}{effs:List Nat}{fwd bwd:List (Nat×List Nat)}{k:Nat}{d:Option Nat}{op:Op}{ty:TypeId}{pos:String}{af:Array Edge}{g:Option (Nat×Bool)}{r:List Oper}{w w':World}{h:List (Value×World×Env)}{K:Env×World→Prop}{v:Value} :
 KD P D l.toArray effs fwd bwd k ⟨d,op,ty,pos,af,g⟩ r ρ w h K (v,w')=(iffK (memN effs k) True (w'=w)∧chkF P D l h w' (lookL fwd k)∧chkB P D l h ⟨d,op,ty,pos,af,g⟩ ρ v (lookL bwd k)∧
  WD P D l.toArray effs fwd bwd (k+1) r (ρ.put d v) w' (h ++ [(v,w,ρ)]) K):=by
 rw[BQ];rw[←EM,←EN];congr 1;apply propext;by_cases hm:k∈effs
 ·simp[hm,pG.2 hm,iffK]
 ·have:memN effs k=false:=by
   cases he:memN effs k with
   | false=>rfl
   | true=>exact absurd (pG.1 he) hm
  simp[hm,this,iffK]
theorem EP {ops:Array Oper}{effs:List Nat}{fwd bwd:List (Nat×List Nat)}{k:Nat}{o:Oper}{r:List Oper}{w:World}{h:List (Value×World×Env)}{K:Env×World→Prop}{x y:Value×World}(e:x=y) :
 KD P D ops effs fwd bwd k o r ρ w h K x=KD P D ops effs fwd bwd k o r ρ w h K y:=by rw[e]
theorem EQ {ops:Array Oper}{effs:List Nat}{fwd bwd:List (Nat×List Nat)}{k k':Nat}{r:List Oper}{ρ':Env}{w w':World}{h h':List (Value×World×Env)}{K:Env×World→Prop}(e1:k=k')(e2:ρ=ρ')(e3:w=w')(e4:h=h') :
 WD P D ops effs fwd bwd k r ρ w h K=WD P D ops effs fwd bwd k' r ρ' w' h' K:=by rw[e1,e2,e3,e4]
end
attribute [congr] EP EQ
attribute [push_cast] aE aF EE EF EG EH EI EJ EK EL EO eq_self
open Go
structure Upd (F : Nat → Prop) (w w' : World) : Prop where
 os:w'.os=w.os
 tape:w'.tape=w.tape
 output:w'.output=w.output
 size:w.heap.size≤w'.heap.size
 block : ∀b,b<w.heap.size→¬F b→w'.heap[b]? =w.heap[b]?
 drawn:w.drawn≤w'.drawn
def GBy (w w':World)(r:Option Nat):Prop:=w.grownBy w' r∧w.drawn≤w'.drawn
theorem Upd.refl {F:Nat→Prop}{w:World}:Upd F w w:=⟨rfl,rfl,rfl,Nat.le_refl _,fun _ _ _=>rfl,Nat.le_refl _⟩
theorem Upd.trans {F G:Nat→Prop}{w w1 w2:World}(h:Upd F w w1)(k:Upd G w1 w2)(hg : ∀b,b<w.heap.size→G b→F b):Upd F w w2:=
 ⟨k.os.trans h.os,k.tape.trans h.tape,k.output.trans h.output,Nat.le_trans h.size k.size,fun b hb hF=>by
  have h1:=h.size;rw[k.block b (by omega) (fun hG=>hF (hg b hb hG)),h.block b hb hF],Nat.le_trans h.drawn k.drawn⟩
theorem Upd.mono {F G:Nat→Prop}{w w':World}(h:Upd F w w')(hg : ∀b,b<w.heap.size→F b→G b):Upd G w w':=
 ⟨h.os,h.tape,h.output,h.size,fun b hb hG=>h.block b hb fun hF=>hG (hg b hb hF),h.drawn⟩
theorem Upd.alloc {F:Nat→Prop}{w:World}{o:Obj}:Upd F w (w.alloc o):=
 ⟨rfl,rfl,rfl,by rw[aI]; omega,fun b hb _=>by
  show(w.heap.push o)[b]? =_;rw[Array.getElem?_push,if_neg (by omega)],Nat.le_refl _⟩
theorem Upd.drew {F:Nat→Prop}{w:World}:Upd F w w.drew:=⟨rfl,rfl,rfl,Nat.le_refl _,fun _ _ _=>rfl,Nat.le_succ _⟩
theorem Upd.set {F:Nat→Prop}{w:World}{a:Addr}{v:Value}(h:F a.block):Upd F w (w.setCell a v):=
 ⟨rfl,rfl,rfl,by rw[bA]; exact Nat.le_refl _,fun b hb hF=>by
  simp only[World.setCell,Array.getElem?_modify];rw[if_neg (fun e=>hF (by rw[←e]; exact h))],Nat.le_refl _⟩
theorem Upd.setRow {F:Nat→Prop}{w:World}{g:Nat}{cs:Array Value}(h:F g):Upd F w (w.setRow g cs):=
 ⟨rfl,rfl,rfl,by simp[World.setRow],fun b hb hF=>by
  simp only[World.setRow,Array.getElem?_modify];rw[if_neg (fun e=>hF (by rw[←e]; exact h))],Nat.le_refl _⟩
theorem Upd.grown {F:Nat→Prop}{w w':World}{r:Option Nat}(h:GBy w w' r)(hr : ∀k,r=some k→F k):Upd F w w':=
 ⟨h.1.os,h.1.tape,h.1.output,h.1.size,fun b hb hF=>h.1.block b hb fun e=>hF (hr b e.symm),h.2⟩
theorem Upd.alloc' {F:Nat→Prop}{w w1:World}{o:Obj}(h:Upd F w w1):Upd F w (w1.alloc o):=h.trans Upd.alloc fun _ _ h=>h
theorem Upd.drew' {F:Nat→Prop}{w w1:World}(h:Upd F w w1):Upd F w w1.drew:=h.trans Upd.drew fun _ _ h=>h
theorem Upd.setNew {F:Nat→Prop}{w w1:World}{a:Addr}{v:Value}(h:Upd F w w1)(ha:w.heap.size≤a.block):Upd F w (w1.setCell a v):=
 h.trans (Upd.set (F:=fun b=>b=a.block) rfl) fun b h1 h2=>by omega
theorem Upd.setIn {F:Nat→Prop}{w w1:World}{a:Addr}{v:Value}(h:Upd F w w1)(ha:F a.block):Upd F w (w1.setCell a v):=
 h.trans (Upd.set (F:=fun b=>b=a.block) rfl) fun b _ h2=>h2 ▸ ha
theorem Blk.upd {w w':World}{b:Nat}{cs:List Value}{E:TypeId}{F:Nat→Prop}(h:Blk w b cs E)(hu:Upd F w w')(hF : ¬F b):Blk w' b cs E:=by
 have:=hu.block b h.lt hF;unfold Blk at h ⊢;rw[this,h]
section
variable {P : Program} {D : Den} {w : World} {ty : TypeId} {e : Operand → Value} {t : TypeId}
def allS (P:Program)(t:TypeId)(w:World):Option (Value×World):=lift ((Instr.alloc t true (.tuple #[])).run P w)
theorem ER:opX P D (.alloc t) ty e w=allS P t w:=by
 simp only[opX,opS,execOp,allS,lift];generalize Instr.alloc t true (.tuple #[])=s;simp;cases s.run P w <;> simp
def allFar (P:Program)(t:TypeId)(w:World):Option (Value×World):=allS P t w
theorem ES:allS P t w=orK (zer P t) (fun z=>some (.pointer (some ⟨w.heap.size,0,none⟩),w.alloc (.cells z.cells t (0,0)))) (allFar P t w):=by
 unfold zer;cases hi:P.info? t with
 | none=>rfl
 | some i=>
  simp only[Option.bind_some];cases hz:i.zero with
  | none=>rfl
  | some z=>simp[orK,allS,lift,Instr.alloc,zeroValue,typeInfo,hi,hz,newVar,newRow]
def boxS (P:Program)(t:TypeId)(v:Value)(w:World):Option (Value×World):=lift ((Instr.box t v).run P w)
theorem ET {x:Operand}:opX P D (.box t x) ty e w=boxS P t (e x) w:=by
 simp only[opX,opS,execOp,boxS,lift];generalize Instr.box t (e x)=s;simp;cases s.run P w <;> simp
theorem EU {v:Value}:boxS P t v w=some (.pointer (some ⟨w.heap.size,0,none⟩),w.alloc (.cells v.cells t (0,0))):=by
 simp[boxS,lift,Instr.box,newVar,newRow]
def bldS (P:Program)(t:TypeId)(parts:Array (Nat×Value))(w:World):Option (Value×World):=lift ((Instr.build t parts).run P w)
theorem EV {parts:Array (Nat×Operand)}:opX P D (.build t parts) ty e w=bldS P t (parts.map fun p=>(p.1,e p.2)) w:=by
 simp only[opX,opS,execOp,bldS,lift];generalize Instr.build t (parts.map fun p=>(p.1,e p.2))=s;simp;cases s.run P w <;> simp
def bslS (P:Program)(t:TypeId)(n:Nat)(parts:Array (Nat×Value))(w:World):Option (Value×World):=lift ((Instr.buildSlice t n parts).run P w)
theorem EW {n:Nat}{parts:Array (Nat×Operand)}:opX P D (.buildSlice t n parts) ty e w=bslS P t n (parts.map fun p=>(p.1,e p.2)) w:=by
 simp only[opX,opS,execOp,bslS,lift];generalize Instr.buildSlice t n (parts.map fun p=>(p.1,e p.2))=s;simp;cases s.run P w <;> simp
def mkS (P:Program)(t:TypeId)(l c:Value)(w:World):Option (Value×World):=lift ((Instr.makeSlice t l c).run P w)
theorem EX {l c:Operand}:opX P D (.makeSlice t l c) ty e w=mkS P t (e l) (e c) w:=by
 simp only[opX,opS,execOp,mkS,lift];generalize Instr.makeSlice t (e l) (e c)=s;simp;cases s.run P w <;> simp
def mkFar (P:Program)(t:TypeId)(l c:Value)(w:World):Option (Value×World):=mkS P t l c w
theorem pH (z:Value)(n:Nat):madeCells #[z] n=(List.replicate n z).toArray:=by
 rw[←Array.toArray_toList (xs:=madeCells #[z] n),toList_madeCells_one]
theorem EY {el:TypeId}{n:Int}{by_:Nat}{z:Value}{k k':IntKind}(ht:elt P t=some el)(hb:byt P el=some by_)(hz:zer P el=some z)(hs:siz P el=some 1)(hc:z.cells = #[z])
 (h0:0≤n) (hn:(by_:Int)*n≤281474976710656) (h1:n≤281474976710656) :
 mkS P t (.int k n) (.int k' n) w=some (.slice (some ⟨w.heap.size,0,none⟩) n.toNat n.toNat,w.alloc (.cells (List.replicate n.toNat z).toArray el (0,0))):=by
 unfold elt at ht;unfold byt at hb;unfold zer at hz;unfold siz at hs;cases hi:P.info? el with
 | none=>rw[hi] at hs; cases hs
 | some i=>
  rw[hi] at hb hz hs;simp only[Option.map_some,Option.some.injEq,Option.bind_some] at hb hz hs;split at ht
  ·rename_i el' hu;simp only[Option.some.injEq] at ht;subst ht;have:=run_make (P:=P) w t el' i z hu hi hz k k' n n h0 (Int.le_refl _) (by rw[hb]; exact hn) (by omega);unfold mkS lift;rw[this,hs,Nat.mul_one,hc,pH]
  ·cases ht
def oneZ (z:Value):Bool:=
 match z with
 | .int .. | .bool _ | .slice .. | .pointer _ | .string _ | .map _=>true
 | _=>false
theorem EZ {z:Value}(h:oneZ z=true):z.cells = #[z]:=by cases z <;> simp_all [oneZ,Value.cells]
theorem E0 {n:Int}{k k':IntKind}(h0:0≤n)(h1:n≤281474976710656):mkS P t (.int k n) (.int k' n) w =
 orK (elt P t) (fun el=>orK (zer P el) (fun z=>iffK (oneZ z) (iffK (decide (siz P el=some 1)) (orK (byt P el) (fun by_=>iffK (decide ((by_:Int)*n≤281474976710656))
  (some (.slice (some ⟨w.heap.size,0,none⟩) n.toNat n.toNat,w.alloc (.cells (List.replicate n.toNat z).toArray el (0,0)))) (mkFar P t (.int k n) (.int k' n) w)) (mkFar P t (.int k n) (.int k' n) w)) (mkFar P t (.int k n) (.int k' n) w)) (mkFar P t (.int k n) (.int k' n) w)) (mkFar P t (.int k n) (.int k' n) w)) (mkFar P t (.int k n) (.int k' n) w):=by
 cases ht:elt P t with
 | none=>rfl
 | some el=>
  simp only[orK];cases hz:zer P el with
  | none=>rfl
  | some z=>
   dsimp only;cases ho:oneZ z with
   | false=>rfl
   | true=>
    rw[bU];by_cases hs:siz P el=some 1
    ·rw[show decide (siz P el=some 1)=true from by simp[hs],bU];cases hb:byt P el with
     | none=>rfl
     | some by_=>
      dsimp only;by_cases hn:(by_:Int)*n≤281474976710656
      ·rw[show decide ((by_:Int)*n≤281474976710656)=true from by simp[hn],bU];exact EY ht hb hz hs (EZ ho) h0 hn h1
      ·rw[show decide ((by_:Int)*n≤281474976710656)=false from by simp[hn],bX]; rfl
    ·rw[show decide (siz P el=some 1)=false from by simp[hs],bX]; rfl
def appS (P:Program)(ats:Array TypeId)(ty:TypeId)(x y:Value)(w:World):Option (Value×World):=lift ((Builtin.append_ ats ty #[x,y]).run P w)
theorem E1 {x y:Operand}{ats:Array TypeId}:opX P D (.call ⟨.builtin .append,#[x,y],ats⟩) ty e w=appS P ats ty (e x) (e y) w:=by
 simp only[opX,opS,execOp,appS,lift,resolve];simp[invoke,builtin];generalize Builtin.append_ ats ty #[e x,e y]=s;cases s.run P w <;> simp
theorem E2 {el:TypeId}{i:TypeInfo}{z:Value}{ty':TypeId}(ht:P.underlying t=some (.slice el))(hi:P.info? el=some i)(hz:i.zero=some z)
 {v:Value} {n:Nat} {xs:List Value} (hown:w.ownsRow 0 el i.size v n xs) {a:Addr} {m c:Nat} {news:List Value} (hl:news.length=m*i.size)
 (hnews : ∀j u,news[j]? =some u→w.cell? (a.add j)=some u) (h1 : ∀u∈news,u.oneCell'=true) (h63:n+m≤maxLen) (hbytes:(n+m)*i.bytes≤140737488355328)
 {v':Value} {w':World} (hr:(Builtin.append_ #[t,t] ty' #[v,.slice (some a) m c]).run P w = .ok v' w') :
 v'.ownBlock=v.ownBlock∨∃g,v'.ownBlock=some g∧w.heap.size≤g:=by
 have hsmall:n+m≤9223372036854775807:=by simp only[maxLen] at h63; omega
 rcases hown.2 with ⟨rfl,rfl⟩ | ⟨g,cap,cur,rfl,hbg,hg,hnc,hcm,hcs,htake⟩
 ·by_cases hm:m=0
  ·subst hm;have hn:news = []:=List.eq_nil_of_length_eq_zero (by simpa using hl);subst hn;simp[Builtin.append_,run_underlying ht,sizeOf,typeInfo,hi,Builtin.lenOf,Builtin.firstCells,loadCells,loadCellsFrom] at hr;exact .inl (by rw[←hr.1])
  ·have hr':=run_append_nil (P:=P) w t ty' el i z ht hi hz a m c news hl hnews (by omega) (by omega) (by have hb:=hbytes; simp only[Nat.zero_add] at hb; omega);rw[hr'] at hr;simp only[Result.ok.injEq] at hr;exact .inr ⟨w.heap.size,by rw[←hr.1]; rfl,Nat.le_refl _⟩
 ·by_cases hroom:n+m≤cap
  ·have hfit:n*i.size+news.length≤cur.size:=by rw[hl,hcs,←Nat.add_mul]; exact Nat.mul_le_mul_right _ hroom
   have hr':=run_append_room (P:=P) w t ty' el i ht hi g n cap cur hg a m c news hl hnews h1 hroom hfit;rw[hr'] at hr;simp only[Result.ok.injEq] at hr;exact .inl (by rw[←hr.1]; rfl)
  ·have holds : ∀j u,xs[j]? =some u→w.cell? ((⟨g,0,none⟩:Addr).add j)=some u:=hown.cells (g:=g) rfl;have hr':=run_append_grow (P:=P) w t ty' el i z ht hi hz ⟨g,0,none⟩ n cap xs hown.1 holds a m c news hl hnews (by omega) (by omega) (growslice_fits (by omega) hbytes);rw[hr'] at hr;simp only[Result.ok.injEq] at hr;exact .inr ⟨w.heap.size,by rw[←hr.1]; rfl,Nat.le_refl _⟩
theorem E3 {el:TypeId}{i:TypeInfo}{z:Value}{ty':TypeId}(ht:P.underlying t=some (.slice el))(hi:P.info? el=some i)(hz:i.zero=some z)
 {v:Value} {n:Nat} {xs:List Value} (hown:w.ownsRow 0 el i.size v n xs) {a:Addr} {m c:Nat} {news:List Value} (hl:news.length=m*i.size)
 (hnews : ∀j u,news[j]? =some u→w.cell? (a.add j)=some u) (h1 : ∀u∈news,u.oneCell'=true) (h63:n+m≤maxLen) (hbytes:(n+m)*i.bytes≤140737488355328)
 {v':Value} {w':World} (hr:(Builtin.append_ #[t,t] ty' #[v,.slice (some a) m c]).run P w = .ok v' w') :
 w.drawn≤w'.drawn:=by
 have hsmall:n+m≤9223372036854775807:=by simp only[maxLen] at h63; omega
 rcases hown.2 with ⟨rfl,rfl⟩ | ⟨g,cap,cur,rfl,hbg,hg,hnc,hcm,hcs,htake⟩
 ·by_cases hm:m=0
  ·subst hm;have hn:news = []:=List.eq_nil_of_length_eq_zero (by simpa using hl);subst hn;simp[Builtin.append_,run_underlying ht,sizeOf,typeInfo,hi,Builtin.lenOf,Builtin.firstCells,loadCells,loadCellsFrom] at hr;rw[←hr.2]; exact Nat.le_refl _
  ·have hr':=run_append_nil (P:=P) w t ty' el i z ht hi hz a m c news hl hnews (by omega) (by omega) (by have hb:=hbytes; simp only[Nat.zero_add] at hb; omega);rw[hr'] at hr;simp only[Result.ok.injEq] at hr;rw[←hr.2]; exact Nat.le_succ _
 ·by_cases hroom:n+m≤cap
  ·have hfit:n*i.size+news.length≤cur.size:=by rw[hl,hcs,←Nat.add_mul]; exact Nat.mul_le_mul_right _ hroom
   have hr':=run_append_room (P:=P) w t ty' el i ht hi g n cap cur hg a m c news hl hnews h1 hroom hfit;rw[hr'] at hr;simp only[Result.ok.injEq] at hr;rw[←hr.2]; exact Nat.le_refl _
  ·have holds : ∀j u,xs[j]? =some u→w.cell? ((⟨g,0,none⟩:Addr).add j)=some u:=hown.cells (g:=g) rfl;have hr':=run_append_grow (P:=P) w t ty' el i z ht hi hz ⟨g,0,none⟩ n cap xs hown.1 holds a m c news hl hnews (by omega) (by omega) (growslice_fits (by omega) hbytes);rw[hr'] at hr;simp only[Result.ok.injEq] at hr;rw[←hr.2]; exact Nat.le_succ _
theorem E4 {el:TypeId}{by_ s:Nat}{z:Value}(ht:elt P t=some el)(hs:siz P el=some s)(hb:byt P el=some by_)(hz:zer P el=some z)(hzs:z.cells.size=s)(hs0:0<s)
 {v:Value} {n:Nat} {xs:List Value} (hown:w.ownsRow 0 el s v n xs) {b o m c:Nat} {news:List Value} (hl:news.length=m*s)
 (hnews : ∀j,j<news.length→w.cell? ⟨b,o+j,none⟩=news[j]?) (h1 : ∀u∈news,u.oneCell'=true) (hbytes:(n+m)*by_≤140737488355328) (h63:n+m≤maxLen)
 {K:Value×World→Prop} (hk : ∀v' w',w'.ownsRow 0 el s v' (n+m) (xs ++ news)→GBy w w' v.ownBlock→(v'.ownBlock=v.ownBlock∨∃g,v'.ownBlock=some g∧w.heap.size≤g)→K (v',w')) :
 Okk (appS P #[t,t] ty v (.slice (some ⟨b,o,none⟩) m c) w) K:=by
 unfold elt at ht;unfold byt at hb;unfold zer at hz;unfold siz at hs;cases hi:P.info? el with
 | none=>rw[hi] at hs; cases hs
 | some i=>
  rw[hi] at hb hz hs;simp only[Option.map_some,Option.some.injEq,Option.bind_some] at hb hz hs;split at ht
  ·rename_i el' hu;simp only[Option.some.injEq] at ht;subst ht;have hn' : ∀j u,news[j]? =some u→w.cell? ((⟨b,o,none⟩:Addr).add j)=some u:=by
    intro j u hj;have hlt:j<news.length:=(List.getElem?_eq_some_iff.1 hj).1;rw[←hj,←hnews j hlt];congr 1;unfold Addr.add;split
    ·rename_i h0; rw[h0]; rfl
    ·rfl
   obtain⟨v',w',hr,h2,h3,h4⟩:=run_append_own (P:=P) w 0 t ty el' i z s by_ hu hi hz hs hb hzs hs0 v n xs hown ⟨b,o,none⟩ m c news hl hn' h1 h63 hbytes (Nat.zero_le _);refine⟨(v',w'),?_,hk v' w' h2 ⟨h3,by subst hs; subst hb; exact E3 hu hi hz hown hl hn' h1 h63 hbytes hr⟩ (by subst hs; subst hb; exact E2 hu hi hz hown hl hn' h1 h63 hbytes hr)⟩;unfold appS lift;rw[hr]
  ·cases ht
def cpyS (P:Program)(ats:Array TypeId)(ty:TypeId)(x y:Value)(w:World):Option (Value×World):=lift ((Builtin.copy_ ats ty #[x,y]).run P w)
theorem E5 {x y:Operand}{ats:Array TypeId}:opX P D (.call ⟨.builtin .copy,#[x,y],ats⟩) ty e w=cpyS P ats ty (e x) (e y) w:=by
 simp only[opX,opS,execOp,cpyS,lift,resolve];simp[invoke,builtin];generalize Builtin.copy_ ats ty #[e x,e y]=s;cases s.run P w <;> simp
theorem iM {t2 el E:TypeId}(ht:elt P t=some el)(hs:siz P el=some 1){g o dl dc b so sl sc:Nat}{cur cs:List Value}(hg:Blk w g cur E)(hn:cs.length=min sl dl)
 (hsrc : ∀j,j<cs.length→w.cell? ⟨b,so+j,none⟩=cs[j]?) (hfit:o+cs.length≤cur.length) (h1 : ∀u∈cs,u.oneCell'=true) :
 cpyS P #[t,t2] ty (.slice (some ⟨g,o,none⟩) dl dc) (.slice (some ⟨b,so,none⟩) sl sc) w=some (.int .i64 cs.length,w.setRow g (cur.take o ++ cs ++ cur.drop (o+cs.length)).toArray):=by
 unfold elt at ht;split at ht
 ·rename_i el' hu;simp only[Option.some.injEq] at ht;subst ht;have hn' : ∀j u,cs[j]? =some u→w.cell? ((⟨b,so,none⟩:Addr).add j)=some u:=by
   intro j u hj;have hlt:j<cs.length:=(List.getElem?_eq_some_iff.1 hj).1;rw[←hj,←hsrc j hlt];congr 1;unfold Addr.add;split
   ·rename_i h0; rw[h0]; rfl
   ·rfl
  have:=run_copy_row (P:=P) (ty:=ty) w t t2 el' g o dl dc ⟨b,so,none⟩ sl sc cur.toArray E cs hu hs hg hn hn' (by simpa using hfit) h1;unfold cpyS lift;rw[this];rfl
 ·cases ht
theorem Blk.setRow {b:Nat}{cs cs':List Value}{E:TypeId}(h:Blk w b cs E):Blk (w.setRow b cs'.toArray) b cs' E:=by
 unfold Blk at h ⊢;simp only[World.setRow,Array.getElem?_modify,h];simp
end
theorem E6 {w:World}{o:Obj}:w.drew.alloc o=(w.alloc o).drew:=_root_.id rfl
theorem kZ {w:World}{a:Addr}{v:Value}:w.drew.setCell a v=(w.setCell a v).drew:=_root_.id rfl
attribute [push_cast] E6 kZ ER ES ET EU EV EW EX E0 oneZ E1 E5 Int.toNat_natCast Nat.mul_one List.toList_toArray
open Go
section
variable {P : Program} {D : Den} {c : Code} {vs : List Nat} {p : Plan} {ρ : Env}
def App (I:Nat→List Value→World→Prop)(k:Nat)(st:List Value)(w:World):Prop:=I k st w
theorem E7 {I:Nat→List Value→World→Prop}{k:Nat}{st st':List Value}{w w':World}(h1:st=st')(h2:w=w'):App I k st w=App I k st' w':=by rw [h1,h2]
def KJ (I:Nat→List Value→World→Prop)(k:Nat)(vs:List Nat)(K:(Exit×Env)×World→Prop):Out→Prop
 | (.normal,ρ,w)=>∃k',k'<k∧I k' (getE vs ρ) w
 | (e,ρ,w)=>K ((e,ρ),w)
theorem E8 {I:Nat→List Value→World→Prop}{k:Nat}{K:(Exit×Env)×World→Prop}{w:World}:KJ I k vs K (.normal,ρ,w) = ∃k',k'<k∧App I k' (getE vs ρ) w:=_root_.id rfl
theorem E9 {I:Nat→List Value→World→Prop}{k id:Nat}{K:(Exit×Env)×World→Prop}{w:World}:KJ I k vs K (.exit id,ρ,w)=K ((.exit id,ρ),w):=_root_.id rfl
theorem FA {I:Nat→List Value→World→Prop}{k:Nat}{K:(Exit×Env)×World→Prop}{w:World}:KJ I k vs K (.ret,ρ,w)=K ((.ret,ρ),w):=_root_.id rfl
theorem FB {I:Nat→List Value→World→Prop}{k:Nat}{K:(Exit×Env)×World→Prop}{x y:Out}(h:x=y):KJ I k vs K x=KJ I k vs K y:=by rw [h]
theorem aG {I:Nat→List Value→World→Prop}{K:(Exit×Env)×World→Prop}
 (step : ∀k st w,I k st w→W P D c p (setE vs st ρ) w (KJ I k vs K)) : ∀(k:Nat) {st:List Value} {w:World},I k st w→Okk (loopR (loopB P D c vs p ρ) st w) K:=by
 intro k;induction k using Nat.strongRecOn with
 | _ k ih=>
  intro st w hI;obtain⟨⟨e,ρ',w'⟩,h1,h2⟩:=step k st w hI;cases e with
  | normal=>
   obtain⟨k',hk,hI'⟩:=h2;obtain⟨x,h3,h4⟩:=ih k' hk hI';refine⟨x,?_,h4⟩;rw[xD (s':=getE vs ρ') (w':=w')]
   ·exact h3
   ·unfold loopB; rw[h1]; rfl
  | _=>
   refine⟨((_,ρ'),w'),?_,h2⟩;refine xE ?_;unfold loopB; rw[h1]; rfl
end
structure Tok (p : Prop) : Type where
def Bx (p:Prop)(_t:Tok p):Prop:=p
attribute [congr] FB E7
attribute [push_cast] E8 E9 FA
def by8 (l:List Int):List Value:=l.map (Value.int .u8)
theorem dD {l:List Int} : ∀u∈by8 l,u.oneCell'=true:=by
 intro u hu;obtain⟨n,_,rfl⟩:=List.mem_map.1 hu;rfl
theorem aQ {l:List Int}:(by8 l).length=l.length:=by simp [by8]
theorem FC {α β:Type}{f:α→List β}{s:Nat}(hf : ∀x,(f x).length=s){r:Nat}(hr:r<s) : ∀{l:List α} {j:Nat},(l.flatMap f)[j*s+r]? =(l[j]?).bind fun x=>(f x)[r]? :=by
 intro l;induction l with
 | nil=>intro j; simp
 | cons x t ih=>
  intro j;rw[List.flatMap_cons];cases j with
  | zero=>
   rw[List.getElem?_append_left (by rw[hf]; omega)];simp
  | succ j=>
   rw[List.getElem?_append_right (by rw[hf]; rw[Nat.succ_mul]; omega),hf,show(j+1)*s+r-s=j*s+r from by rw[Nat.succ_mul]; omega,ih];simp
theorem pI {α:Type}{f:α→List Value}{s:Nat}(hf : ∀x,(f x).length=s){w:World}{E:TypeId}{v:Value}{l:List α}(h:w.ownsRow 0 E s v l.length (l.flatMap f)){j:Nat}{x:α}(hj:l[j]? =some x) :
 ∃g cap,v = .slice (some ⟨g,0,none⟩) l.length cap∧v.ownBlock=some g∧∀r,r<s→w.cell? ⟨g,j*s+r,none⟩=(f x)[r]? :=by
 have hlt:j<l.length:=(List.getElem?_eq_some_iff.1 hj).1;rcases h.2 with ⟨_,h0⟩ | ⟨g,cap,cur,hv,_,hg,hn,hm,hsz,htk⟩
 ·omega
 ·refine⟨g,cap,hv,by rw[hv]; rfl,fun r hr=>?_⟩;have hlen:j*s+r<l.length*s:=by
   have:(j+1)*s≤l.length*s:=Nat.mul_le_mul_right s hlt;rw[Nat.succ_mul] at this;omega
  have e:w.cell? ⟨g,j*s+r,none⟩=cur.toList[j*s+r]? :=by
   simp[World.cell?,hg]
  rw[e,←List.getElem?_take_of_lt hlen,htk,FC hf hr,hj];rfl
theorem cO {w w':World}{F:Nat→Prop}{E s n:Nat}{v:Value}{xs:List Value}(h:w.ownsRow 0 E s v n xs)(hu:Upd F w w')(hF : ∀g,v.ownBlock=some g→¬F g):w'.ownsRow 0 E s v n xs:=by
 obtain⟨h1,h2⟩:=h;refine⟨h1,?_⟩;rcases h2 with h2 | ⟨g,cap,cur,hv,hg,hh,r⟩
 ·exact .inl h2
 ·have hlt:g<w.heap.size:=by rw[Array.getElem?_eq_some_iff] at hh; exact hh.1
  exact .inr ⟨g,cap,cur,hv,hg,by rw[hu.block g hlt (hF g (by rw[hv]; rfl))]; exact hh,r⟩
theorem bY {w:World}{B E s n:Nat}{v:Value}{xs:List Value}(h:w.ownsRow B E s v n xs) : ∃a c,v = .slice a n c:=by
 rcases h.2 with ⟨rfl,rfl⟩ | ⟨g,cap,cur,hv,_⟩
 ·exact⟨none,0,rfl⟩
 ·exact⟨_,_,hv⟩
def gr (F:Nat→Prop)(w w':World)(b:Nat):Prop:=F b∨(w.heap.size≤b∧b<w'.heap.size)
def Lies (w:World)(b o:Nat)(l:List Int):Prop:=∀j,j<(by8 l).length→w.cell? ⟨b,o+j,none⟩=(by8 l)[j]?
theorem Lies.lt {w:World}{b o:Nat}{l:List Int}(h:Lies w b o l)(h0:0<l.length):b<w.heap.size:=by
 have:=h 0 (by simpa[by8] using h0);have e:w.cell? ⟨b,o+0,none⟩≠none:=by
  rw[this];simp[by8];intro e;subst e;simp at h0
 unfold World.cell? at e;by_cases hb:b<w.heap.size
 ·exact hb
 ·exfalso;refine e ?_;simp[hb]
theorem Lies.of_blk {w:World}{b E:Nat}{l:List Int}(h:Blk w b (by8 l) E):Lies w b 0 l:=by
 intro j _;rw[h.cell];simp
theorem Lies.upd {w w':World}{b o:Nat}{l:List Int}{F:Nat→Prop}(h:Lies w b o l)(hu:Upd F w w')(hb:b<w.heap.size)(hF : ¬F b):Lies w' b o l:=by
 intro j hj;rw[←h j hj];exact World.cell?_of_block (hu.block b hb hF)
def SlB (w:World)(F:Nat→Prop)(v:Value)(l:List Int):Prop:=∃a c,v = .slice a l.length c∧(l≠[]→∃b o,a=some ⟨b,o,none⟩∧Lies w b o l∧¬F b)
theorem SlB.upd {w w':World}{F G:Nat→Prop}{v:Value}{l:List Int}(h:SlB w F v l)(hu:Upd G w w')(hG : ∀b,G b→F b):SlB w' F v l:=by
 obtain⟨a,c,hv,hl⟩:=h;refine⟨a,c,hv,fun h0=>?_⟩;obtain⟨b,o,h1,h2,h3⟩:=hl h0;exact⟨b,o,h1,h2.upd hu (h2.lt (List.length_pos_iff.2 h0)) fun hg=>h3 (hG b hg),h3⟩
theorem SlB.mono {w:World}{F G:Nat→Prop}{v:Value}{l:List Int}(h:SlB w F v l)(hG : ∀b,b<w.heap.size→G b→F b):SlB w G v l:=by
 obtain⟨a,c,hv,hl⟩:=h;refine⟨a,c,hv,fun h0=>?_⟩;obtain⟨b,o,h1,h2,h3⟩:=hl h0;exact⟨b,o,h1,h2,fun hg=>h3 (hG b (h2.lt (List.length_pos_iff.2 h0)) hg)⟩
section
variable {P : Program} {D : Den} {w : World} {ty : TypeId} {e : Operand → Value}
def maxS (x y:Value)(w:World):Option (Value×World):=
 match x,y with
 | .int k a,.int _ b=>some (.int k (max a b),w)
 | _,_=>none
theorem FD {x y:Operand}{ats:Array TypeId}{k k':IntKind}{a b:Int}(hx:e x = .int k a)(hy:e y = .int k' b):opX P D (.call ⟨.builtin .max,#[x,y],ats⟩) ty e w=maxS (e x) (e y) w:=by
 have:(if a<b then b else a)=max a b:=by rw[Int.max_def]; split <;> split <;> omega
 simp[opX,opS,execOp,resolve,invoke,builtin,Builtin.max_,Builtin.max2,hx,hy,maxS,this]
def maxK (P:Program)(D:Den)(x y:Operand)(ats:Array TypeId)(ty:TypeId)(e:Operand→Value)(u v:Value)(w:World):Option (Value×World):=
 match u,v with
 | .int k a,.int _ b=>some (.int k (max a b),w)
 | _,_=>opX P D (.call ⟨.builtin .max,#[x,y],ats⟩) ty e w
theorem FE {x y:Operand}{ats:Array TypeId}:opX P D (.call ⟨.builtin .max,#[x,y],ats⟩) ty e w=maxK P D x y ats ty e (e x) (e y) w:=by
 unfold maxK;split
 ·rename_i hx hy; rw[FD hx hy,hx,hy]; rfl
 ·rfl
theorem FG {x y:Operand}{ats:Array TypeId}{k k':IntKind}{a b:Int}:maxK P D x y ats ty e (.int k a) (.int k' b) w=some (.int k (max a b),w):=_root_.id rfl
theorem FH {x y:Operand}{ats:Array TypeId}{u u' v v':Value}{w':World}(h1:u=u')(h2:v=v')(h3:w=w'):maxK P D x y ats ty e u v w=maxK P D x y ats ty e u' v' w':=by rw [h1,h2,h3]
theorem FI {fn:Nat}{first captured:Array Operand}:opX P D (.makeFunc (.func fn) first captured) ty e w=lift ((Instr.makeFunc (.func fn) (first.map e) (captured.map e)).run P w):=by
 simp only[opX,opS,execOp,lift];generalize Instr.makeFunc (.func fn) (first.map e) (captured.map e)=s
 simp;cases s.run P w <;> simp
theorem FJ {fn:Nat}{captured:List Value}:lift ((Instr.makeFunc (.func fn) #[] captured.toArray).run P w)=some (.func (.func fn) #[] captured.toArray,w):=by
 simp[lift,Instr.makeFunc]
end
attribute [congr] FH
attribute [push_cast] FE FG FI FJ not_true_eq_false not_false_eq_true
end Go.Proofs.YtpgigkceoolgeaaGreatDoor.Fd
