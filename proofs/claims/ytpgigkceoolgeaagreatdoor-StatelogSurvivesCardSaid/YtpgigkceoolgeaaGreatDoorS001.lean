import Derived.Test.YtpgigkceoolgeaaGreatDoorRows
import Derived.WalkKit
set_option linter.all false
namespace Go.Proofs.YtpgigkceoolgeaaGreatDoor.Fd
open Go
abbrev Env:=Nat→Value
def Env.set (ρ:Env)(k:Nat)(v:Value):Env:=fun t=>if t=k then v else ρ t
def Env.put (ρ:Env)(d:Option Nat)(v:Value):Env:=
 match d with
 | some d=>ρ.set d v
 | none=>ρ
def ev (ρ:Env):Operand→Value
 | .tmp t=>ρ t
 | .const v=>v
 | .global g=>.pointer (some ⟨g,0,none⟩)
 | .func f=>.func (.func f) #[] #[]
abbrev Den:=FuncId→Array Value→World→Option (Value×World)
def opS (P:Program)(D:Den)(o:Oper)(e:Operand→Value)(w:World):Option (Value×World):=
 match (execOp e o).run P w with
 | .ok (.value v) w'=>some (v,w')
 | .ok .skip w'=>some (undef,w')
 | .ok (.enter f args) w'=>D f args w'
 | _=>none
def Exa (P:Program)(f:FuncId)(args:Array Value)(w:World)(v:Value)(w':World):Prop:=
 Calls P f args w fun e w1=>e = .returned v∧w1=w'
def SoundD (P:Program)(D:Den):Prop:=∀f args w v w',D f args w=some (v,w')→Exa P f args w v w'
noncomputable def den (P:Program):Den:=fun f args w=>
 open Classical in if h : ∃r:Value×World,Exa P f args w r.1 r.2 then some h.choose else none
theorem fO (P:Program):SoundD P (den P):=by
 intro f args w v w' h;unfold den at h;split at h
 ·rename_i hex;have:=hex.choose_spec;simp only[Option.some.injEq] at h;rw[h] at this;exact this
 ·cases h
theorem iF {P:Program}{m:Machine}{o:Outcome}{w:World} : ∀{n k:Nat},runN P n m = .ended o w→n≤k→runN P k m = .ended o w:=by
 intro n k h hk;obtain⟨d,rfl⟩:=Nat.exists_eq_add_of_le hk;rw[runN_add,h]
theorem xA {P:Program}{f:FuncId}{args:Array Value}{w:World}{v1 v2:Value}{w1 w2:World}(hi:P.inits.idxOf? f=none)
 (h1:Exa P f args w v1 w1) (h2:Exa P f args w v2 w2):v1=v2∧w1=w2:=by
 have g1:=Calls.done (R:=fun v w'=>v=v1∧w'=w1) (Calls.mono h1 (by rintro e w' ⟨rfl,rfl⟩; exact⟨rfl,rfl⟩)) hi;have g2:=Calls.done (R:=fun v w'=>v=v2∧w'=w2) (Calls.mono h2 (by rintro e w' ⟨rfl,rfl⟩; exact⟨rfl,rfl⟩)) hi;obtain⟨n1,x1,y1,r1,rfl,rfl⟩:=g1;obtain⟨n2,x2,y2,r2,rfl,rfl⟩:=g2;have s1:=iF r1 (Nat.le_max_left n1 n2);have s2:=iF r2 (Nat.le_max_right n1 n2);rw[s1] at s2;simp only[Stepped.ended.injEq,Outcome.done.injEq] at s2;exact s2
theorem iG {P:Program}{f:FuncId}{args:Array Value}{w:World}{v:Value}{w':World}(hi:P.inits.idxOf? f=none)
 (h:Exa P f args w v w'):den P f args w=some (v,w'):=by
 unfold den;have hex : ∃r:Value×World,Exa P f args w r.1 r.2:=⟨(v,w'),h⟩;rw[dif_pos hex];obtain⟨e1,e2⟩:=xA hi hex.choose_spec h;rw[Option.some.injEq];exact Prod.ext e1 e2
def loopN {σ τ:Type}(body:σ→World→Option ((σ ⊕ τ)×World)):Nat→σ→World→Option (τ×World)
 | 0,_,_=>none
 | n+1,s,w=>
  match body s w with
  | some (.inl s',w')=>loopN body n s' w'
  | some (.inr t,w')=>some (t,w')
  | none=>none
noncomputable def loopR {σ τ:Type}(body:σ→World→Option ((σ ⊕ τ)×World))(s:σ)(w:World):Option (τ×World):=
 open Classical in if h : ∃r:τ×World,∃n,loopN body n s w=some r then some h.choose else none
theorem xB {σ τ:Type}{body:σ→World→Option ((σ ⊕ τ)×World)} : ∀{n:Nat} {s:σ} {w:World} {r:τ×World},
 loopN body n s w=some r→loopN body (n+1) s w=some r:=by
 intro n;induction n with
 | zero=>intro s w r h; cases h
 | succ n ih=>
  intro s w r h;rw[loopN] at h ⊢;split at h
  ·rename_i s' w' hb;exact ih h
  ·exact h
  ·cases h
theorem oM {σ τ:Type}{body:σ→World→Option ((σ ⊕ τ)×World)}{n k:Nat}{s:σ}{w:World}{r:τ×World}
 (h:loopN body n s w=some r) (hk:n≤k):loopN body k s w=some r:=by
 obtain⟨d,rfl⟩:=Nat.exists_eq_add_of_le hk;induction d with
 | zero=>exact h
 | succ d ih=>exact xB (ih (by omega))
theorem xC {σ τ:Type}{body:σ→World→Option ((σ ⊕ τ)×World)}{n k:Nat}{s:σ}{w:World}{r q:τ×World}
 (h:loopN body n s w=some r) (g:loopN body k s w=some q):r=q:=by
 have a:=oM h (Nat.le_max_left n k);have b:=oM g (Nat.le_max_right n k);rw[a] at b;exact Option.some.inj b
theorem iH {σ τ:Type}{body:σ→World→Option ((σ ⊕ τ)×World)}{s:σ}{w:World}{r:τ×World} :
 loopR body s w=some r↔∃n,loopN body n s w=some r:=by
 unfold loopR;constructor
 ·intro h;split at h
  ·rename_i hex;obtain⟨n,hn⟩:=hex.choose_spec;exact⟨n,by rw[hn]; exact h⟩
  ·cases h
 ·rintro⟨n,hn⟩;have hex : ∃r:τ×World,∃n,loopN body n s w=some r:=⟨r,n,hn⟩;rw[dif_pos hex];obtain⟨k,hk⟩:=hex.choose_spec;rw[xC hk hn]
theorem xD {σ τ:Type}{body:σ→World→Option ((σ ⊕ τ)×World)}{s s':σ}{w w':World}(h:body s w=some (.inl s',w')) :
 loopR body s w=loopR body s' w':=by
 apply Option.ext;intro r;rw[iH,iH];constructor
 ·rintro⟨n,hn⟩;cases n with
  | zero=>cases hn
  | succ n=>rw[loopN,h] at hn; exact⟨n,hn⟩
 ·rintro⟨n,hn⟩;exact⟨n+1,by rw[loopN,h]; exact hn⟩
theorem xE {σ τ:Type}{body:σ→World→Option ((σ ⊕ τ)×World)}{s:σ}{t:τ}{w w':World}(h:body s w=some (.inr t,w')) :
 loopR body s w=some (t,w'):=iH.2 ⟨1,by rw[loopN,h]⟩
structure Alt where
 ops:Array Oper
 perm:List Nat
 effs:List Nat
 fwd:List (Nat×List Nat)
 bwd:List (Nat×List Nat)
inductive ATree where
 | leaf (A:Alt)
 | node (i j:Nat) (s t:ATree)
inductive Plan where
 | lf
 | reg (keep:List Nat)
 | drw (keep effs:List Nat) (fwd bwd:List (Nat×List Nat))
 | alt (f i j:Nat) (keep:List Nat) (A B:Alt)
 | alts (f:Nat) (keep:List Nat) (T:ATree)
 | two (p q:Plan)
 | blk (p:Plan)
 | lop (vs:List Nat) (p:Plan)
def yE (ops:Array Oper)(ρ:Env)(j:Nat):Option Bool:=
 match (ops[j]?).bind (·.dst) with
 | some d=>match ρ d with
  | .bool b=>some b
  | _=>none
 | none=>none
def stepO (P:Program)(D:Den)(ops:Array Oper)(o:Oper)(ρ:Env)(w:World):Option (Value×World):=
 if Region.wanted o (yE ops ρ) then opS P D o (ev ρ) w else some (undef,w)
def runL (P:Program)(D:Den)(ops:Array Oper):List Oper→Env→World→Option (Env×World)
 | [],ρ,w=>some (ρ,w)
 | o :: r,ρ,w=>(stepO P D ops o ρ w).bind fun x=>runL P D ops r (ρ.put o.dst x.1) x.2
def lookL (l:List (Nat×List Nat))(k:Nat):List Nat:=
 match l with
 | []=>[]
 | (i,xs) :: r=>if i=k then xs else lookL r k
noncomputable def grd (p:Prop):Option Unit:=open Classical in if p then some () else none
theorem kM {p:Prop}{u:Unit}:grd p=some u↔p:=by unfold grd; split <;> simp_all
def allP (l:List Nat)(p:Nat→Prop):Prop:=
 match l with
 | []=>True
 | i :: r=>p i∧allP r p
theorem oN {l:List Nat}{p:Nat→Prop}(h:allP l p) : ∀i∈l,p i:=by
 induction l with
 | nil=>intro i hi; cases hi
 | cons a r ih=>
  intro i hi;cases hi with
  | head=>exact h.1
  | tail _ hm=>exact ih h.2 i hm
noncomputable def runD (P:Program)(D:Den)(ops:Array Oper)(effs:List Nat)(fwd bwd:List (Nat×List Nat)) :
 Nat→List Oper→Env→World→List (Value×World×Env)→Option (Env×World)
 | _,[],ρ,w,_=>some (ρ,w)
 | k,o :: r,ρ,w,h=>
  (stepO P D ops o ρ w).bind fun x=>
  (grd (k∈effs∨x.2=w)).bind fun _=>
  (grd (allP (lookL fwd k) fun i=>∃oi y,ops[i]? =some oi∧h[i]? =some y∧stepO P D ops oi y.2.2 x.2=some (y.1,x.2))).bind fun _=>
  (grd (allP (lookL bwd k) fun j=>∃y,h[j]? =some y∧stepO P D ops o ρ y.2.1=some (x.1,y.2.1))).bind fun _=>
  runD P D ops effs fwd bwd (k+1) r (ρ.put o.dst x.1) x.2 (h ++ [(x.1,w,ρ)])
def keepE (keep:List Nat)(ρ ρ':Env):Env:=
 match keep with
 | []=>ρ
 | k :: r=>(keepE r ρ ρ').set k (ρ' k)
def setE (vs:List Nat)(st:List Value)(ρ:Env):Env:=
 match vs,st with
 | k :: r,v :: s=>(setE r s ρ).set k v
 | _,_=>ρ
def getE (vs:List Nat)(ρ:Env):List Value:=
 match vs with
 | []=>[]
 | k :: r=>ρ k :: getE r ρ
abbrev Out:=Exit×Env×World
def seqK (r:Option Out)(k:Env→World→Option Out):Option Out:=
 match r with
 | some (.normal,ρ,w)=>k ρ w
 | x=>x
def blkK (id:Nat)(r:Option Out):Option Out:=
 match r with
 | some (.exit i,ρ,w)=>if i=id then some (.normal,ρ,w) else some (.exit i,ρ,w)
 | x=>x
def lopK (vs:List Nat)(r:Option Out):Option ((List Value ⊕ (Exit×Env))×World):=
 match r with
 | some (.normal,ρ,w)=>some (.inl (getE vs ρ),w)
 | some (e,ρ,w)=>some (.inr (e,ρ),w)
 | none=>none
def outK (r:Option ((Exit×Env)×World)):Option Out:=
 match r with
 | some ((e,ρ),w)=>some (e,ρ,w)
 | none=>none
def regK (keep:List Nat)(ρ:Env)(r:Option (Env×World)):Option Out:=
 match r with
 | some (ρ',w')=>some (.normal,keepE keep ρ ρ',w')
 | none=>none
def condK (v:Value)(x y:Option Out):Option Out:=
 match v with
 | .bool t=>if t then x else y
 | _=>none
def pick (f id:Nat)(ops:Array Oper)(i j:Nat)(w:World):Bool:=
 decide ((Region.linearise .any ops (w.tape w.drawn (.order f id))).idxOf i<(Region.linearise .any ops (w.tape w.drawn (.order f id))).idxOf j)
noncomputable def runA (P:Program)(D:Den)(b:Bool)(A B:Alt)(ρ:Env)(w:World):Option (Env×World):=
 if b then runD P D A.ops A.effs A.fwd A.bwd 0 A.ops.toList ρ w [] else runD P D B.ops B.effs B.fwd B.bwd 0 B.ops.toList ρ w []
noncomputable def runT (P:Program)(D:Den)(o:List Nat):ATree→Env→World→Option (Env×World)
 | .leaf A,ρ,w=>runD P D A.ops A.effs A.fwd A.bwd 0 A.ops.toList ρ w []
 | .node i j s t,ρ,w=>if o.idxOf i<o.idxOf j then runT P D o s ρ w else runT P D o t ρ w
noncomputable def run (P:Program)(D:Den):Code→Plan→Env→World→Option Out
 | .skip,_,ρ,w=>some (.normal,ρ,w)
 | .region _ ops false,.reg keep,ρ,w=>regK keep ρ (runL P D ops ops.toList ρ w)
 | .region _ ops true,.drw keep effs fwd bwd,ρ,w=>regK keep ρ (runD P D ops effs fwd bwd 0 ops.toList ρ w.drew [])
 | .region id ops true,.alt f i j keep A B,ρ,w=>regK keep ρ (runA P D (pick f id ops i j w) A B ρ w.drew)
 | .region id ops true,.alts f keep T,ρ,w=>regK keep ρ (runT P D (Region.linearise .any ops (w.tape w.drawn (.order f id))) T ρ w.drew)
 | .seq a b,.two p q,ρ,w=>seqK (run P D a p ρ w) fun ρ' w'=>run P D b q ρ' w'
 | .cond c a b,.two p q,ρ,w=>condK (ev ρ c) (run P D a p ρ w) (run P D b q ρ w)
 | .block id c,.blk p,ρ,w=>blkK id (run P D c p ρ w)
 | .loop c,.lop vs p,ρ,w=>outK (loopR (fun st w=>lopK vs (run P D c p (setE vs st ρ) w)) (getE vs ρ) w)
 | .exit id,_,ρ,w=>some (.exit id,ρ,w)
 | .ret,_,ρ,w=>some (.ret,ρ,w)
 | _,_,_,_=>none
def resS (ρ:Env):ResultVar→Sem Value
 | .tmp t=>pure (ρ t)
 | .cell a t=>do loadVar t (←asAddr (ρ a))
def resE (fn:Func)(ρ:Env):Sem Value:=do
 let vs ←fn.results.mapM (resS ρ)
 pure (if h:vs.size=1 then vs[0] else .tuple vs)
noncomputable def resK (P:Program)(fn:Func)(r:Option Out):Option (Value×World):=
 match r with
 | some (.normal,ρ,w) | some (.ret,ρ,w)=>
  match (resE fn ρ).run P w with
  | .ok v w'=>(grd (w'=w)).bind fun _=>some (v,w)
  | _=>none
 | _=>none
def env0 (args:List Value):Env:=fun t=>args.getD t undef
noncomputable def runFn (P:Program)(D:Den)(fn:Func)(c:Code)(p:Plan)(args:List Value)(w:World):Option (Value×World):=
 resK P fn (run P D c p (env0 args) w)
open Go
def dstsOf (ops:List Oper):List Nat:=ops.filterMap (·.dst)
def writes:Code→List Nat
 | .region _ ops _=>dstsOf ops.toList
 | .seq a b=>writes a ++ writes b
 | .cond _ a b=>writes a ++ writes b
 | .block _ c=>writes c
 | .loop c=>writes c
 | _=>[]
def okOp:Op→Bool
 | .select .. =>false
 | _=>true
def opnd (V:List Nat):Operand→Bool
 | .tmp t=>V.contains t
 | _=>true
def okOper (N:Nat)(ops:Array Oper)(o:Oper)(V:List Nat):Bool:=
 okOp o.op && o.op.operands.toList.all (opnd V) &&
 (match o.dst with | some d=>decide (d<N) | none=>true) &&
 (match o.guard with
  | none=>true
  | some (j,_)=>match (ops[j]?).bind (·.dst) with
   | some d=>V.contains d
   | none=>true)
def addD (d:Option Nat)(V:List Nat):List Nat:=
 match d with
 | some d=>d :: V
 | none=>V
def okReg (N:Nat)(ops:Array Oper):List Oper→List Nat→Option (List Nat)
 | [],V=>some V
 | o :: r,V=>if okOper N ops o V then okReg N ops r (addD o.dst V) else none
structure Sim (N : Nat) (V : List Nat) (a : Act) (ρ : Env) : Prop where
 size:a.tmps.size=N
 defers:a.defers = []
 val : ∀t∈V,a.tmps.getD t undef=ρ t
theorem fP {a:Act}{d:Option Nat}{v:Value}{t:Nat}(h : ∀k,d=some k→k<a.tmps.size) :
 (a.put d v).tmps.getD t undef=if d=some t then v else a.tmps.getD t undef:=by
 cases d with
 | none=>simp[Act.put]
 | some k=>
  have hk:=h k rfl;simp only[Act.put,Option.some.injEq];by_cases e:k=t
  ·subst e;simp[hk]
  ·simp[Array.getElem?_setIfInBounds_ne e,e]
theorem oO {a:Act}{d:Option Nat}{v:Value}:(a.put d v).tmps.size=a.tmps.size:=by
 cases d <;> simp[Act.put]
theorem oP {a:Act}{d:Option Nat}{v:Value}:(a.put d v).defers=a.defers:=by
 cases d <;> simp[Act.put]
theorem Env.put_eq {ρ:Env}{d:Option Nat}{v:Value}{t:Nat}:ρ.put d v t=if d=some t then v else ρ t:=by
 cases d with
 | none=>simp[Env.put]
 | some k=>simp only[Env.put,Env.set,Option.some.injEq]; by_cases e:t=k <;> simp[e,eq_comm]
theorem Sim.put {N:Nat}{V:List Nat}{a:Act}{ρ:Env}(h:Sim N V a ρ){d:Option Nat}(hd : ∀k,d=some k→k<N)(v:Value) :
 Sim N (addD d V) (a.put d v) (ρ.put d v):=by
 refine⟨by rw[oO]; exact h.size,by rw[oP]; exact h.defers,?_⟩;intro t ht;rw[fP (by rw[h.size]; exact hd),Env.put_eq];by_cases e:d=some t
 ·simp[e]
 ·rw[if_neg e,if_neg e];refine h.val t ?_;cases d with
  | none=>exact ht
  | some k=>
   cases ht with
   | head=>exact absurd rfl e
   | tail _ hm=>exact hm
theorem oQ {V:List Nat}{a:Act}{ρ:Env}(h : ∀t∈V,a.tmps.getD t undef=ρ t){x:Operand}(hx:opnd V x=true):a.eval x=ev ρ x:=by
 cases x with
 | tmp t=>exact h t (by simpa[opnd] using hx)
 | _=>rfl
theorem xF {V:List Nat}{a:Act}{ρ:Env}(h : ∀t∈V,a.tmps.getD t undef=ρ t){ops:Array Oper}{j:Nat}
 (hj : ∀d,(ops[j]?).bind (·.dst)=some d→d∈V):yielded ops a.tmps j=yE ops ρ j:=by
 unfold yielded yE;cases hd:(ops[j]?).bind (·.dst) with
 | none=>simp
 | some d=>
  have:=h d (hj d hd);simp only[Option.bind_some];rw[←this];cases ht:a.tmps[d]? with
  | none=>simp[ht,undef]
  | some v=>simp only[Array.getD_eq_getD_getElem?,ht,Option.getD_some]; cases v <;> rfl
theorem xG {P:Program}{D:Den}(hD:SoundD P D){o:Oper}{a:Act}{e:Operand→Value}{w w':World}{v:Value}
 (he:execOp a.eval o=execOp e o) (h:opS P D o e w=some (v,w')) {next:Act→World→Prop} {Q:Exit→Act→World→Prop}
 (hn:next (a.put o.dst v) w'):o.wp P a w next Q:=by
 unfold Oper.wp;rw[he];unfold opS at h;split at h
 ·rename_i x w1 hr;rw[hr];simp only[Option.some.injEq,Prod.mk.injEq] at h;obtain⟨rfl,rfl⟩:=h;exact hn
 ·rename_i w1 hr;rw[hr];simp only[Option.some.injEq,Prod.mk.injEq] at h;obtain⟨rfl,rfl⟩:=h;exact hn
 ·rename_i f args w1 hr;rw[hr];rw[Oper.upon_enter];refine Calls.mono (hD _ _ _ _ _ h) ?_;rintro e1 w2 ⟨rfl,rfl⟩;exact hn
 ·cases h
theorem xH {V:List Nat}{a:Act}{ρ:Env}(h : ∀t∈V,a.tmps.getD t undef=ρ t){o:Oper}(ho:okOp o.op=true)
 (hx:o.op.operands.toList.all (opnd V)=true):execOp a.eval o=execOp (ev ρ) o:=by
 refine execOp_congr o (fun cs b hc=>by rw[hc] at ho; simp[okOp] at ho) fun x hm=>oQ h ?_;exact List.all_eq_true.1 hx x (Array.mem_toList_iff.2 hm)
theorem oR {P:Program}{D:Den}(hD:SoundD P D){N:Nat}{V:List Nat}{ops:Array Oper}{o:Oper}{a:Act}{ρ:Env}{w w':World}{v:Value}
 (h : ∀t∈V,a.tmps.getD t undef=ρ t) (hok:okOper N ops o V=true) (hs:stepO P D ops o ρ w=some (v,w'))
 {next:Act→World→Prop} {Q:Exit→Act→World→Prop} (hn:next (a.put o.dst v) w') :
 if Region.wanted o (yielded ops a.tmps) then o.wp P a w next Q∨(o.asks P a w∧LetsOut Q) else next (a.put o.dst undef) w:=by
 simp only[okOper,Bool.and_eq_true] at hok;obtain⟨⟨⟨h1,h2⟩,_⟩,h4⟩:=hok;have hw:Region.wanted o (yielded ops a.tmps)=Region.wanted o (yE ops ρ):=by
  unfold Region.wanted;cases hg:o.guard with
  | none=>rfl
  | some g=>
   obtain⟨j,b⟩:=g;simp only;rw[xF h];intro d hd;rw[hg] at h4;simp only[hd] at h4;simpa using h4
 rw[hw];unfold stepO at hs;split
 ·rename_i hwt;rw[if_pos hwt] at hs;exact .inl (xG hD (xH h h1 h2) hs hn)
 ·rename_i hwt;rw[if_neg hwt] at hs;simp only[Option.some.injEq,Prod.mk.injEq] at hs;obtain⟨rfl,rfl⟩:=hs;exact hn
theorem iI {N:Nat}{ops:Array Oper}{o:Oper}{V:List Nat}(h:okOper N ops o V=true) : ∀k,o.dst=some k→k<N:=by
 intro k hk;simp only[okOper,Bool.and_eq_true,hk,decide_eq_true_eq] at h;exact h.1.2
theorem xI {P:Program}{D:Den}(hD:SoundD P D){N:Nat}{ops:Array Oper} : ∀{l:List Oper} {V V':List Nat} {a:Act} {ρ ρ':Env} {w w':World},
 okReg N ops l V=some V'→Sim N V a ρ→runL P D ops l ρ w=some (ρ',w')→
 ∃a',Sim N V' a' ρ'∧(∀t,t∉dstsOf l→a'.tmps.getD t undef=a.tmps.getD t undef)∧∀Q,Q .normal a' w'→wpList P ops Q l a w:=by
 intro l;induction l with
 | nil=>
  intro V V' a ρ ρ' w w' hV hs hr;simp only[okReg,Option.some.injEq] at hV;simp only[runL,Option.some.injEq,Prod.mk.injEq] at hr;obtain⟨rfl,rfl⟩:=hr;subst hV;exact⟨a,hs,fun _ _=>rfl,fun Q hq=>hq⟩
 | cons o r ih=>
  intro V V' a ρ ρ' w w' hV hs hr;simp only[okReg] at hV;split at hV
  ·rename_i hok;simp only[runL] at hr;cases hst:stepO P D ops o ρ w with
   | none=>rw[hst] at hr; cases hr
   | some x=>
    obtain⟨v,w1⟩:=x;rw[hst] at hr;simp only[Option.bind_some] at hr;obtain⟨a',s',f',q'⟩:=ih hV (hs.put (iI hok) v) hr;refine⟨a',s',?_,?_⟩
    ·intro t ht;have ht1:t∉dstsOf r:=fun hm=>ht (by
      unfold dstsOf at hm ⊢;rw[List.filterMap_cons];split
      ·exact hm
      ·exact List.mem_cons_of_mem _ hm)
     rw[f' t ht1,fP (by rw[hs.size]; exact iI hok),if_neg];intro e;exact ht (by unfold dstsOf; rw[List.filterMap_cons,e]; exact List.mem_cons_self)
    ·intro Q hq;exact oR hD hs.val hok hst (q' Q hq)
  ·cases hV
structure Fl where
 nor:Option (List Nat)
 exs:List (Nat×List Nat)
 ret:Option (List Nat)
def meet (x y:Option (List Nat)):Option (List Nat):=
 match x,y with
 | none,y=>y
 | some a,none=>some a
 | some a,some b=>some (a.filter (b.contains ·))
def meets (x:Option (List Nat))(id:Nat):List (Nat×List Nat)→Option (List Nat)
 | []=>x
 | (i,V) :: r=>if i=id then meet (some V) (meets x id r) else meets x id r
theorem Sim.mono {N:Nat}{V V':List Nat}{a:Act}{ρ:Env}(h:Sim N V a ρ)(hV : ∀t∈V',t∈V):Sim N V' a ρ:=
 ⟨h.size,h.defers,fun t ht=>h.val t (hV t ht)⟩
theorem fQ {N:Nat}{V:List Nat}{y:Option (List Nat)}{a:Act}{ρ:Env}(h:Sim N V a ρ) : ∃V',meet (some V) y=some V'∧Sim N V' a ρ:=by
 cases y with
 | none=>exact⟨V,rfl,h⟩
 | some b=>exact⟨_,rfl,h.mono fun t ht=>(List.mem_filter.1 ht).1⟩
theorem dT {N:Nat}{V:List Nat}{x:Option (List Nat)}{a:Act}{ρ:Env}(h:Sim N V a ρ) : ∃V',meet x (some V)=some V'∧Sim N V' a ρ:=by
 cases x with
 | none=>exact⟨V,rfl,h⟩
 | some b=>exact⟨_,rfl,h.mono fun t ht=>by simpa using (List.mem_filter.1 ht).2⟩
theorem xJ {N:Nat}{V:List Nat}{id:Nat}{a:Act}{ρ:Env}(h:Sim N V a ρ) : ∀{l:List (Nat×List Nat)},∃V',meets (some V) id l=some V'∧Sim N V' a ρ:=by
 intro l;induction l with
 | nil=>exact⟨V,rfl,h⟩
 | cons p r ih=>
  obtain⟨i,W⟩:=p;obtain⟨V1,e1,s1⟩:=ih;simp only[meets];split
  ·rw[e1]; exact dT s1
  ·exact⟨V1,e1,s1⟩
theorem xK {N:Nat}{V:List Nat}{x:Option (List Nat)}{id:Nat}{a:Act}{ρ:Env}(h:Sim N V a ρ) : ∀{l:List (Nat×List Nat)},(id,V)∈l→
 ∃V',meets x id l=some V'∧Sim N V' a ρ:=by
 intro l;induction l with
 | nil=>intro hm; cases hm
 | cons p r ih=>
  intro hm;obtain⟨i,W⟩:=p;simp only[meets];cases hm with
  | head=>rw[if_pos rfl]; exact fQ h
  | tail _ hm=>
   obtain⟨V1,e1,s1⟩:=ih hm;split
   ·rw[e1]; exact dT s1
   ·exact⟨V1,e1,s1⟩
def SimAt (N:Nat)(F:Fl)(a:Act)(ρ:Env):Exit→Prop
 | .normal=>∃V,F.nor=some V∧Sim N V a ρ
 | .exit id=>∃V,(id,V)∈F.exs∧Sim N V a ρ
 | .ret=>∃V,F.ret=some V∧Sim N V a ρ
 | _=>False
theorem xL {keep:List Nat}{ρ ρ':Env}{t:Nat}(h:t∈keep):keepE keep ρ ρ' t=ρ' t:=by
 induction keep with
 | nil=>cases h
 | cons k r ih=>
  simp only[keepE,Env.set];by_cases e:t=k
  ·simp[e]
  ·rw[if_neg e];exact ih (by cases h with | head=>exact absurd rfl e | tail _ hm=>exact hm)
theorem xM {keep:List Nat}{ρ ρ':Env}{t:Nat}(h:t∉keep):keepE keep ρ ρ' t=ρ t:=by
 induction keep with
 | nil=>rfl
 | cons k r ih=>
  simp only[keepE,Env.set];rw[if_neg (fun e=>h (by rw[e]; exact List.mem_cons_self))];exact ih fun hm=>h (List.mem_cons_of_mem _ hm)
theorem oS {vs:List Nat}{ρ ρ':Env}{t:Nat}(h:t∈vs):setE vs (getE vs ρ') ρ t=ρ' t:=by
 induction vs with
 | nil=>cases h
 | cons k r ih=>
  simp only[setE,getE,Env.set];by_cases e:t=k
  ·simp[e]
  ·rw[if_neg e];exact ih (by cases h with | head=>exact absurd rfl e | tail _ hm=>exact hm)
theorem oT {vs:List Nat}{st:List Value}{ρ:Env}{t:Nat}(h:t∉vs):setE vs st ρ t=ρ t:=by
 induction vs generalizing st with
 | nil=>rfl
 | cons k r ih=>
  cases st with
  | nil=>rfl
  | cons v s=>
   simp only[setE,Env.set];rw[if_neg (fun e=>h (by rw[e]; exact List.mem_cons_self))];exact ih fun hm=>h (List.mem_cons_of_mem _ hm)
open Go
def pureOp:Op→Bool
 | .move _ | .assign _ | .pick .. | .extract .. =>true
 | _=>false
theorem xN {P:Program}{D:Den}{o:Oper}{e:Operand→Value}{w w1:World}{v:Value}(hp:pureOp o.op=true)
 (h:opS P D o e w=some (v,w1)):w1=w∧∀w2,opS P D o e w2=some (v,w2):=by
 obtain⟨dst,op,type,pos,after,guard⟩:=o;cases op <;> simp only[pureOp] at hp <;> try cases hp
 case move x=>simp_all [opS,execOp]
 case assign x=>simp_all [opS,execOp]
 case pick c a b=>
  simp only[opS,execOp] at h ⊢;cases hc:e c <;> simp_all [asBool]
 case extract t ix=>
  simp only[opS,execOp,Instr.extract] at h ⊢;cases ht:e t <;> simp_all;rename_i xs;cases hx:xs[ix]? <;> simp_all
def dstN (ops:Array Oper)(i:Nat):Option Nat:=(ops[i]?).bind (·.dst)
def opTmp:Operand→Option Nat
 | .tmp t=>some t
 | _=>none
def namesOf (ops:Array Oper)(o:Oper):List Nat:=
 o.dst.toList ++ o.op.operands.toList.filterMap opTmp ++
 (match o.guard with
  | none=>[]
  | some (j,_)=>(dstN ops j).toList)
def bef (B:Array Nat)(i j:Nat):Bool:=decide (j<i) && (B.getD i 0).testBit j
def allN (n:Nat)(p:Nat→Bool):Bool:=(List.range n).all p
theorem fR {n:Nat}{p:Nat→Bool}(h:allN n p=true){i:Nat}(hi:i<n):p i=true:=List.all_eq_true.1 h i (List.mem_range.2 hi)
def bindsA (e:Edge):Bool:=Region.binds .any e
def okDraw (ops:Array Oper)(effs:List Nat)(fwd bwd:List (Nat×List Nat)):Bool:=
 let n:=ops.size
 let B:=Region.before ops
 (allN n fun i=>match ops[i]? with
  | none=>false
  | some o=>
   (o.after.toList.all fun e=>!bindsA e || decide (e.on<i)) &&
   (allN n fun j=>!(bef B i j) || (o.after.toList.any fun e=>bindsA e && (e.on == j || bef B e.on j))) &&
   (allN n fun j=>j == i || match dstN ops j with
    | none=>true
    | some d=>!((namesOf ops o).contains d) || bef B (max i j) (min i j)) &&
   (allN n fun j=>!(effs.contains j) || j == i ||
    (if effs.contains i then bef B (max i j) (min i j)
     else pureOp o.op || (if i<j then bef B j i || (lookL fwd j).contains i else bef B i j || (lookL bwd i).contains j))) &&
   ((lookL fwd i).all fun j=>decide (j<i)) && ((lookL bwd i).all fun j=>decide (j<i)))
structure Trc (P : Program) (D : Den) (ops : Array Oper) (effs : List Nat) (fwd bwd : List (Nat × List Nat)) (k n : Nat) (es : Nat → Env) (vs : Nat → Value) (ws : Nat → World) : Prop where
 put : ∀i,k≤i→i<n→es (i+1)=(es i).put (dstN ops i) (vs i)
 st : ∀i o,k≤i→i<n→ops[i]? =some o→stepO P D ops o (es i) (ws i)=some (vs i,ws (i+1))
 ne : ∀i,k≤i→i<n→i∉effs→ws (i+1)=ws i
 fw : ∀i o j,k≤i→i<n→ops[i]? =some o→j∈lookL fwd i→∃oj,ops[j]? =some oj∧stepO P D ops oj (es j) (ws (i+1))=some (vs j,ws (i+1))
 bw : ∀i o j,k≤i→i<n→ops[i]? =some o→j∈lookL bwd i→stepO P D ops o (es i) (ws j)=some (vs i,ws j)
theorem oU {P:Program}{D:Den}{ops:Array Oper}{effs:List Nat}{fwd bwd:List (Nat×List Nat)} : ∀{l:List Oper} {k:Nat} {ρ ρ':Env} {w w':World} {h:List (Value×World×Env)},
 runD P D ops effs fwd bwd k l ρ w h=some (ρ',w')→h.length=k→(∀i o,l[i]? =some o→ops[k+i]? =some o)→
 ∃es vs ws,Trc P D ops effs fwd bwd k (k+l.length) es vs ws∧es k=ρ∧ws k=w∧es (k+l.length)=ρ'∧ws (k+l.length)=w'∧
  ∀i y,h[i]? =some y→vs i=y.1∧ws i=y.2.1∧es i=y.2.2:=by
 intro l;induction l with
 | nil=>
  intro k ρ ρ' w w' h hr hk _;simp only[runD,Option.some.injEq,Prod.mk.injEq] at hr;obtain⟨rfl,rfl⟩:=hr;refine⟨fun i=>if i=k then ρ else ((h[i]?).map (·.2.2)).getD ρ,fun i=>((h[i]?).map (·.1)).getD undef,fun i=>if i=k then w else ((h[i]?).map (·.2.1)).getD w,⟨?_,?_,?_,?_,?_⟩,by simp,by simp,by simp,by simp,?_⟩
  ·intro i h1 h2; simp at h2; omega
  ·intro i o h1 h2; simp at h2; omega
  ·intro i h1 h2; simp at h2; omega
  ·intro i o j h1 h2; simp at h2; omega
  ·intro i o j h1 h2; simp at h2; omega
  ·intro i y hy;have:i≠k:=by
    intro e;subst e;rw[←hk] at hy;simp at hy
   simp[hy,this]
 | cons o r ih=>
  intro k ρ ρ' w w' h hr hk hl;simp only[runD,Option.bind_eq_some_iff] at hr;obtain⟨⟨v,w1⟩,hst,u1,g1,u2,g2,u3,g3,hr⟩:=hr;rw[kM] at g1 g2 g3;obtain⟨es,vs,ws,T,e1,e2,e3,e4,e5⟩:=ih hr (by simp[hk]) (fun i o' hi=>by
   have:=hl (i+1) o' (by simpa using hi);rwa [show k+1+i=k+(i+1) from by omega])
  have hk0:ops[k]? =some o:=by simpa using hl 0 o (by simp)
  have hvk:vs k=v∧ws k=w∧es k=ρ:=e5 k (v,w,ρ) (by rw[←hk]; simp);have hold : ∀(i:Nat) (y:Value×World×Env),h[i]? =some y→vs i=y.1∧ws i=y.2.1∧es i=y.2.2:=by
   intro i y hy;refine e5 i y ?_;rw[List.getElem?_append_left (by
    have:=List.getElem?_eq_some_iff.1 hy;exact this.1)]
   exact hy
  have hlen:k+(o :: r).length=k+1+r.length:=by simp; omega
  rw[hlen];refine⟨es,vs,ws,⟨?_,?_,?_,?_,?_⟩,hvk.2.2,hvk.2.1,e3,e4,hold⟩
  ·intro i h1 h2;by_cases e:i=k
   ·subst e;simp[e1,dstN,hk0,hvk.1,hvk.2.2]
   ·exact T.put i (by omega) h2
  ·intro i o' h1 h2 ho;by_cases e:i=k
   ·subst e;rw[hk0] at ho;cases ho;rw[e2,hvk.1,hvk.2.1,hvk.2.2];exact hst
   ·exact T.st i o' (by omega) h2 ho
  ·intro i h1 h2 he;by_cases e:i=k
   ·subst e;rcases g1 with g1 | g1
    ·exact absurd g1 he
    ·rw[e2,hvk.2.1]; exact g1
   ·exact T.ne i (by omega) h2 he
  ·intro i o' j h1 h2 ho hj;by_cases e:i=k
   ·subst e;obtain⟨oj,y,hoj,hy,hs⟩:=oN g2 j hj;refine⟨oj,hoj,?_⟩;have:=hold j y hy;rw[e2,this.1,this.2.2];exact hs
   ·exact T.fw i o' j (by omega) h2 ho hj
  ·intro i o' j h1 h2 ho hj;by_cases e:i=k
   ·subst e;rw[hk0] at ho;cases ho;obtain⟨y,hy,hs⟩:=oN g3 j hj;have:=hold j y hy;rw[hvk.1,hvk.2.2,this.2.1];exact hs
   ·exact T.bw i o' j (by omega) h2 ho hj
def envA (ops:Array Oper)(vs:Nat→Value)(ρ:Env)(S:Nat→Bool):Nat→Env
 | 0=>ρ
 | k+1=>if S k then (envA ops vs ρ S k).put (dstN ops k) (vs k) else envA ops vs ρ S k
def wA (effs:List Nat)(ws:Nat→World)(S:Nat→Bool):Nat→World
 | 0=>ws 0
 | k+1=>if S k && effs.contains k then ws (k+1) else wA effs ws S k
theorem iJ {ops:Array Oper}{vs:Nat→Value}{ρ:Env}{S S':Nat→Bool}{t:Nat} : ∀{k:Nat},
 (∀j,j<k→dstN ops j=some t→S j=S' j)→envA ops vs ρ S k t=envA ops vs ρ S' k t:=by
 intro k;induction k with
 | zero=>intro _; rfl
 | succ k ih=>
  intro h;have ih':=ih fun j hj=>h j (by omega);have key : ∀S,envA ops vs ρ S (k+1) t=if S k=true∧dstN ops k=some t then vs k else envA ops vs ρ S k t:=by
   intro S;simp only[envA];by_cases hs:S k=true
   ·simp[hs,Env.put_eq]
   ·simp[hs]
  rw[key S,key S',ih'];by_cases hd:dstN ops k=some t
  ·rw[h k (by omega) hd]
  ·simp[hd]
theorem xO {ops:Array Oper}{vs:Nat→Value}{ρ:Env}{S:Nat→Bool}{t i:Nat}(hi:S i=true)(hd:dstN ops i=some t) : ∀{k:Nat},
 i<k→(∀j,i<j→j<k→S j=true→dstN ops j≠some t)→envA ops vs ρ S k t=vs i:=by
 intro k;induction k with
 | zero=>intro h; omega
 | succ k ih=>
  intro hk h;simp only[envA];by_cases e:i=k
  ·subst e;simp[hi,Env.put_eq,hd]
  ·have ih':=ih (by omega) fun j h1 h2=>h j h1 (by omega);by_cases hs:S k=true
   ·rw[if_pos hs,Env.put_eq,if_neg (h k (by omega) (by omega) hs)];exact ih'
   ·rw[if_neg hs];exact ih'
theorem kN {P:Program}{D:Den}{ops:Array Oper}{effs:List Nat}{fwd bwd:List (Nat×List Nat)}{n:Nat}{es:Nat→Env}{vs:Nat→Value}{ws:Nat→World}
 (T:Trc P D ops effs fwd bwd 0 n es vs ws) : ∀{k:Nat},k≤n→envA ops vs (es 0) (fun _=>true) k=es k:=by
 intro k;induction k with
 | zero=>intro _; rfl
 | succ k ih=>
  intro hk;simp only[envA,if_true];rw[ih (by omega),T.put k (by omega) (by omega)]
theorem kO {ops:Array Oper}{vs:Nat→Value}{ρ:Env}{i t:Nat} : ∀{k:Nat},i≤k→
 envA ops vs ρ (fun j=>decide (j<i)) k t=envA ops vs ρ (fun _=>true) i t:=by
 intro k;induction k with
 | zero=>intro h; rw[show i=0 from by omega]; rfl
 | succ k ih=>
  intro h;by_cases e:i=k+1
  ·subst e;exact iJ fun j hj _=>by simp[hj]
  ·have:=ih (by omega);simp only[envA];rw[if_neg (by simp; omega)];exact this
theorem fS {effs:List Nat}{ws:Nat→World}{S S':Nat→Bool} : ∀{k:Nat},(∀j,j<k→j∈effs→S j=S' j)→wA effs ws S k=wA effs ws S' k:=by
 intro k;induction k with
 | zero=>intro _; rfl
 | succ k ih=>
  intro h;simp only[wA];rw[ih fun j hj=>h j (by omega)];by_cases he:k∈effs
  ·rw[h k (by omega) he]
  ·simp[he]
theorem fT {P:Program}{D:Den}{ops:Array Oper}{effs:List Nat}{fwd bwd:List (Nat×List Nat)}{n:Nat}{es:Nat→Env}{vs:Nat→Value}{ws:Nat→World}
 (T:Trc P D ops effs fwd bwd 0 n es vs ws) {i:Nat} : ∀{k:Nat},k≤n→wA effs ws (fun j=>decide (j<i)) k=ws (min i k):=by
 intro k;induction k with
 | zero=>intro _; simp[wA]
 | succ k ih=>
  intro hk;have ih':=ih (by omega);simp only[wA];by_cases hki:k<i
  ·rw[show min i (k+1)=k+1 from by omega];by_cases he:k∈effs
   ·simp[hki,he]
   ·rw[if_neg (by simp[he]),ih',show min i k=k from by omega];exact(T.ne k (by omega) (by omega) he).symm
  ·rw[if_neg (by simp[hki]),ih'];congr 1;omega
structure Inv (N : Nat) (ops : Array Oper) (effs : List Nat) (V : List Nat) (ρ : Env) (vs : Nat → Value) (ws : Nat → World) (S : Nat → Bool) (a : Act) (w : World) : Prop where
 size:a.tmps.size=N
 defers:a.defers = []
 closed : ∀i o e,S i=true→ops[i]? =some o→e∈o.after→bindsA e=true→S e.on=true
 val : ∀t,(t∈V∨∃j,j<ops.size∧S j=true∧dstN ops j=some t)→a.tmps.getD t undef=envA ops vs ρ S ops.size t
 wld:w=wA effs ws S ops.size
structure Chk (N : Nat) (ops : Array Oper) (effs : List Nat) (fwd bwd : List (Nat × List Nat)) (V : List Nat) : Prop where
 edge : ∀i o e,ops[i]? =some o→e∈o.after→bindsA e=true→e.on<i
 befs : ∀i o j,ops[i]? =some o→j<i→bef (Region.before ops) i j=true→∃e∈o.after,bindsA e=true∧(e.on=j∨bef (Region.before ops) e.on j=true)
 name : ∀i o j d,ops[i]? =some o→j<ops.size→j≠i→dstN ops j=some d→d∈namesOf ops o→bef (Region.before ops) (max i j) (min i j)=true
 effe : ∀i j,i<ops.size→j<ops.size→i∈effs→j∈effs→j≠i→bef (Region.before ops) (max i j) (min i j)=true
 effn : ∀i o j,ops[i]? =some o→j<ops.size→i∉effs→j∈effs→j≠i→pureOp o.op=true∨(i<j∧(bef (Region.before ops) j i=true∨i∈lookL fwd j))∨(j<i∧(bef (Region.before ops) i j=true∨j∈lookL bwd i))
 oper : ∀i o,ops[i]? =some o→∃W,okOper N ops o W=true∧∀t∈W,t∈V∨∃j,j<i∧dstN ops j=some t
theorem xP {N:Nat}{ops:Array Oper}{V0:List Nat} : ∀{l:List Oper} {k:Nat} {V V':List Nat},okReg N ops l V=some V'→
 (∀i o,l[i]? =some o→ops[k+i]? =some o)→(∀t∈V,t∈V0∨∃j,j<k∧dstN ops j=some t)→
 ∀i o,l[i]? =some o→∃W,okOper N ops o W=true∧∀t∈W,t∈V0∨∃j,j<k+i∧dstN ops j=some t:=by
 intro l;induction l with
 | nil=>intro k V V' _ _ _ i o hi; simp at hi
 | cons x r ih=>
  intro k V V' h hl hV i o hi;simp only[okReg] at h;split at h
  ·rename_i hok;cases i with
   | zero=>
    simp at hi;subst hi;exact⟨V,hok,hV⟩
   | succ i=>
    have:=ih (k:=k+1) h (fun i o hi=>by
     have:=hl (i+1) o (by simpa using hi);rwa [show k+1+i=k+(i+1) from by omega]) (fun t ht=>by
     have hx:ops[k]? =some x:=by simpa using hl 0 x (by simp)
     cases hd:x.dst with
     | none=>
      rw[hd] at ht;rcases hV t ht with h | ⟨j,h1,h2⟩
      ·exact .inl h
      ·exact .inr ⟨j,by omega,h2⟩
     | some d=>
      rw[hd] at ht;cases ht with
      | head=>exact .inr ⟨k,by omega,by simp[dstN,hx,hd]⟩
      | tail _ hm=>
       rcases hV t hm with h | ⟨j,h1,h2⟩
       ·exact .inl h
       ·exact .inr ⟨j,by omega,h2⟩) i o (by simpa using hi)
    rwa [show k+1+i=k+(i+1) from by omega] at this
  ·cases h
theorem oV {N:Nat}{ops:Array Oper}{effs:List Nat}{fwd bwd:List (Nat×List Nat)}{V V':List Nat}
 (h:okDraw ops effs fwd bwd=true) (hV:okReg N ops ops.toList V=some V'):Chk N ops effs fwd bwd V:=by
 have row : ∀{i:Nat} {o:Oper},ops[i]? =some o→i<ops.size∧_:=fun {i o} ho=>by
  have hi:i<ops.size:=by
   rw[Array.getElem?_eq_some_iff] at ho;exact ho.1
  have:=fR h hi;rw[ho] at this;simp only[Bool.and_eq_true] at this;exact⟨hi,this⟩
 refine⟨?_,?_,?_,?_,?_,?_⟩
 ·intro i o e ho he hb;obtain⟨_,⟨⟨⟨⟨⟨h1,_⟩,_⟩,_⟩,_⟩,_⟩⟩:=row ho;have:=List.all_eq_true.1 h1 e (Array.mem_toList_iff.2 he);simpa[hb] using this
 ·intro i o j ho hj hb;obtain⟨hi,⟨⟨⟨⟨⟨_,h2⟩,_⟩,_⟩,_⟩,_⟩⟩:=row ho;have:=fR h2 (i:=j) (by omega);simp only[hb,Bool.not_true,Bool.false_or,List.any_eq_true,Array.mem_toList_iff,Bool.and_eq_true,Bool.or_eq_true,beq_iff_eq] at this;exact this
 ·intro i o j d ho hj hji hd hm;obtain⟨hi,⟨⟨⟨⟨⟨_,_⟩,h3⟩,_⟩,_⟩,_⟩⟩:=row ho;have:=fR h3 hj;simp only[hd] at this;simpa[hji,hm] using this
 ·intro i j hi hj he1 he2 hji;obtain⟨o,ho⟩ : ∃o,ops[i]? =some o:=⟨ops[i],by simp[hi]⟩;obtain⟨_,⟨⟨⟨⟨⟨_,_⟩,_⟩,h4⟩,_⟩,_⟩⟩:=row ho;have:=fR h4 hj;simpa[hji,he1,he2] using this
 ·intro i o j ho hj he1 he2 hji;obtain⟨_,⟨⟨⟨⟨⟨_,_⟩,_⟩,h4⟩,_⟩,_⟩⟩:=row ho;have:=fR h4 hj;by_cases hlt:i<j
  ·simp[hji,he1,he2,hlt] at this;rcases this with h | h | h
   ·exact .inl h
   ·exact .inr (.inl ⟨hlt,.inl h⟩)
   ·exact .inr (.inl ⟨hlt,.inr h⟩)
  ·simp[hji,he1,he2,hlt] at this;rcases this with h | h | h
   ·exact .inl h
   ·exact .inr (.inr ⟨by omega,.inl h⟩)
   ·exact .inr (.inr ⟨by omega,.inr h⟩)
 ·intro i o ho;have:=xP (V0:=V) (k:=0) hV (fun i o hi=>by simpa using hi) (fun t ht=>.inl ht) i o (by simpa using ho);simpa using this
theorem Inv.down {N:Nat}{ops:Array Oper}{effs:List Nat}{fwd bwd:List (Nat×List Nat)}{V:List Nat}{ρ:Env}{vs:Nat→Value}{ws:Nat→World}{S:Nat→Bool}{a:Act}{w:World}
 (C:Chk N ops effs fwd bwd V) (I:Inv N ops effs V ρ vs ws S a w) : ∀(n i:Nat),i<n→i<ops.size→S i=true→∀j,bef (Region.before ops) i j=true→S j=true:=by
 intro n;induction n with
 | zero=>intro i h; omega
 | succ n ih=>
  intro i hin hi hS j hb;have hji:j<i:=by simp[bef] at hb; exact hb.1
  have ho:ops[i]? =some ops[i]:=by simp[hi]
  obtain⟨e,he,hbe,hor⟩:=C.befs i _ j ho hji hb;have hS':=I.closed i _ e hS ho he hbe;have hlt:=C.edge i _ e ho he hbe;rcases hor with h | h
  ·rw[←h]; exact hS'
  ·exact ih e.on (by omega) (by omega) hS' j h
theorem Inv.downReady {N:Nat}{ops:Array Oper}{effs:List Nat}{fwd bwd:List (Nat×List Nat)}{V:List Nat}{ρ:Env}{vs:Nat→Value}{ws:Nat→World}{S:Nat→Bool}{a:Act}{w:World}
 (C:Chk N ops effs fwd bwd V) (I:Inv N ops effs V ρ vs ws S a w) {i:Nat} {o:Oper} (ho:ops[i]? =some o)
 (hr : ∀e∈o.after,bindsA e=true→S e.on=true) {j:Nat} (hb:bef (Region.before ops) i j=true):S j=true:=by
 have hi:i<ops.size:=by rw[Array.getElem?_eq_some_iff] at ho; exact ho.1
 have hji:j<i:=by simp[bef] at hb; exact hb.1
 obtain⟨e,he,hbe,hor⟩:=C.befs i _ j ho hji hb;have hlt:=C.edge i _ e ho he hbe;rcases hor with h | h
 ·rw[←h]; exact hr e he hbe
 ·exact I.down C (e.on+1) e.on (by omega) (by omega) (hr e he hbe) j h
open Go
section
variable {P : Program} {D : Den} {N : Nat} {ops : Array Oper} {effs : List Nat} {fwd bwd : List (Nat × List Nat)} {V : List Nat} {es : Nat → Env} {vs : Nat → Value} {ws : Nat → World} {S : Nat → Bool} {a : Act} {w : World}
theorem Inv.names (C:Chk N ops effs fwd bwd V)(I:Inv N ops effs V (es 0) vs ws S a w){i:Nat}{o:Oper}(ho:ops[i]? =some o)(hS:S i=false)
 (hr : ∀e∈o.after,bindsA e=true→S e.on=true) {d:Nat} (hd:d∈namesOf ops o) {j:Nat} (hj:j<ops.size) (hji:j≠i) (hdj:dstN ops j=some d) :
 S j=decide (j<i):=by
 have hi:i<ops.size:=by rw[Array.getElem?_eq_some_iff] at ho; exact ho.1
 have hb:=C.name i o j d ho hj hji hdj hd;by_cases hlt:j<i
 ·rw[show max i j=i from by omega,show min i j=j from by omega] at hb;rw[I.downReady C ho hr hb]; simp[hlt]
 ·rw[show max i j=j from by omega,show min i j=i from by omega] at hb;cases hs:S j with
  | false=>simp[hlt]
  | true=>
   have:=I.down C (j+1) j (by omega) hj hs i hb;rw[hS] at this; cases this
theorem Inv.effsIn (C:Chk N ops effs fwd bwd V)(I:Inv N ops effs V (es 0) vs ws S a w){i:Nat}{o:Oper}(ho:ops[i]? =some o)(hS:S i=false)
 (hr : ∀e∈o.after,bindsA e=true→S e.on=true) (he:i∈effs) {j:Nat} (hj:j<ops.size) (hji:j≠i) (hej:j∈effs) :
 S j=decide (j<i):=by
 have hi:i<ops.size:=by rw[Array.getElem?_eq_some_iff] at ho; exact ho.1
 have hb:=C.effe i j hi hj he hej hji;by_cases hlt:j<i
 ·rw[show max i j=i from by omega,show min i j=j from by omega] at hb;rw[I.downReady C ho hr hb]; simp[hlt]
 ·rw[show max i j=j from by omega,show min i j=i from by omega] at hb;cases hs:S j with
  | false=>simp[hlt]
  | true=>
   have:=I.down C (j+1) j (by omega) hj hs i hb;rw[hS] at this; cases this
theorem xQ {P:Program}{D:Den}{ops:Array Oper}{o:Oper}{ρ ρ':Env}{w:World}(ho:okOp o.op=true)(h : ∀t∈namesOf ops o,ρ t=ρ' t) :
 stepO P D ops o ρ w=stepO P D ops o ρ' w:=by
 have h1:execOp (ev ρ) o=execOp (ev ρ') o:=by
  refine execOp_congr o (fun cs b hc=>by rw[hc] at ho; simp[okOp] at ho) fun x hm=>?_;cases x with
  | tmp t=>
   refine h t ?_;unfold namesOf;refine List.mem_append_left _ (List.mem_append_right _ (List.mem_filterMap.2 ⟨.tmp t,Array.mem_toList_iff.2 hm,rfl⟩))
  | _=>rfl
 have h2:Region.wanted o (yE ops ρ)=Region.wanted o (yE ops ρ'):=by
  unfold Region.wanted;cases hg:o.guard with
  | none=>rfl
  | some g=>
   obtain⟨j,b⟩:=g;simp only;unfold yE;cases hd:(ops[j]?).bind (·.dst) with
   | none=>rfl
   | some d=>
    simp only;rw[h d (by
     unfold namesOf;refine List.mem_append_right _ ?_;rw[hg];simp[dstN,hd])]
 unfold stepO opS;rw[h1,h2]
theorem xR {P:Program}{D:Den}{ops:Array Oper}{o:Oper}{ρ:Env}{w w1 w2:World}{v:Value}(hp:pureOp o.op=true)
 (h:stepO P D ops o ρ w=some (v,w1)):stepO P D ops o ρ w2=some (v,w2):=by
 unfold stepO at h ⊢;split at h
 ·rename_i hw;rw[if_pos hw];exact(xN hp h).2 w2
 ·rename_i hw;rw[if_neg hw];simp only[Option.some.injEq,Prod.mk.injEq] at h;rw[h.1]
theorem xS {p:Nat→Prop} : ∀{k:Nat},(∃j,j<k∧p j)→∃j,j<k∧p j∧∀i,j<i→i<k→¬p i:=by
 intro k;induction k with
 | zero=>rintro⟨j,h,_⟩; omega
 | succ k ih=>
  rintro⟨j,hj,hp⟩;by_cases hk:p k
  ·exact⟨k,by omega,hk,fun i h1 h2=>by omega⟩
  ·obtain⟨m,h1,h2,h3⟩:=ih ⟨j,by
    by_cases e:j=k
    ·subst e; exact absurd hp hk
    ·omega,hp⟩
   refine⟨m,by omega,h2,fun i h4 h5=>?_⟩;by_cases e:i=k
   ·subst e; exact hk
   ·exact h3 i h4 (by omega)
theorem xT {p:Nat→Prop} : ∀{k:Nat},p k→∃j,j≤k∧p j∧∀i,i<j→¬p i:=by
 intro k;induction k using Nat.strongRecOn with
 | _ k ih=>
  intro hp;by_cases h : ∃j,j<k∧p j
  ·obtain⟨j,hj,hpj⟩:=h;obtain⟨m,h1,h2,h3⟩:=ih j hj hpj;exact⟨m,by omega,h2,h3⟩
  ·exact⟨k,Nat.le_refl _,hp,fun i hi hpi=>h ⟨i,hi,hpi⟩⟩
theorem oW {S:Nat→Bool}{i:Nat}(hi:S i=true)(he:i∈effs) : ∀{k:Nat},i<k→(∀j,i<j→j<k→j∈effs→S j=false)→wA effs ws S k=ws (i+1):=by
 intro k;induction k with
 | zero=>intro h; omega
 | succ k ih=>
  intro hk h;simp only[wA];by_cases e:i=k
  ·subst e; simp[hi,he]
  ·by_cases hk2:k∈effs
   ·rw[h k (by omega) (by omega) hk2];simp only[Bool.false_and,Bool.false_eq_true,if_false];exact ih (by omega) fun j h1 h2=>h j h1 (by omega)
   ·simp only[show(effs.contains k)=false from by simpa using hk2,Bool.and_false,Bool.false_eq_true,if_false];exact ih (by omega) fun j h1 h2=>h j h1 (by omega)
theorem Inv.next (C:Chk N ops effs fwd bwd V)(T:Trc P D ops effs fwd bwd 0 ops.size es vs ws)(I:Inv N ops effs V (es 0) vs ws S a w){i:Nat}{o:Oper}(ho:ops[i]? =some o)(hS:S i=false)
 (hr : ∀e∈o.after,bindsA e=true→S e.on=true) :
 stepO P D ops o (envA ops vs (es 0) S ops.size) w=some (vs i,wA effs ws (fun j=>S j || j == i) ops.size):=by
 have hi:i<ops.size:=by rw[Array.getElem?_eq_some_iff] at ho; exact ho.1
 obtain⟨W,hok,_⟩:=C.oper i o ho;have hop:okOp o.op=true:=by simp only[okOper,Bool.and_eq_true] at hok; exact hok.1.1.1
 have henv : ∀t∈namesOf ops o,envA ops vs (es 0) S ops.size t=es i t:=by
  intro t ht;rw[←kN T (Nat.le_of_lt hi),←kO (k:=ops.size) (Nat.le_of_lt hi)];refine iJ fun j hj hd=>?_;by_cases e:j=i
  ·subst e; rw[hS]; simp
  ·exact I.names C ho hS hr ht hj e hd
 rw[xQ hop henv];have hst:=T.st i o (Nat.zero_le _) hi ho;by_cases he:i∈effs
 ·have hw:w=ws i:=by
   rw[I.wld,fS (S':=fun j=>decide (j<i)),fT T (Nat.le_refl _),show min i ops.size=i from by omega];intro j hj hej;by_cases e:j=i
   ·subst e; rw[hS]; simp
   ·exact I.effsIn C ho hS hr he hj e hej
  have hw':wA effs ws (fun j=>S j || j == i) ops.size=ws (i+1):=by
   refine oW (by simp) he hi fun j h1 h2 h3=>?_;have:=I.effsIn C ho hS hr he h2 (by omega) h3;simp[this];omega
  rw[hw,hw'];exact hst
 ·have hw':wA effs ws (fun j=>S j || j == i) ops.size=w:=by
   rw[I.wld];refine fS fun j hj hej=>?_;have:j≠i:=fun e=>he (e ▸ hej);simp[this]
  rw[hw'];have hne:=T.ne i (Nat.zero_le _) hi he;rw[hne] at hst;by_cases hp:pureOp o.op=true
  ·exact xR hp hst
  by_cases hA : ∃j,j<ops.size∧(i<j∧j∈effs∧S j=true)
  ·obtain⟨j,hj,⟨hij,hje,hSj⟩,hmax⟩:=xS hA;have hw:w=ws (j+1):=by
    rw[I.wld];refine oW hSj hje hj fun m h1 h2 h3=>?_;cases hs:S m with
    | false=>rfl
    | true=>exact absurd ⟨by omega,h3,hs⟩ (hmax m h1 h2)
   rcases C.effn i o j ho hj he hje (by omega) with h | ⟨_,h⟩ | ⟨h,_⟩
   ·exact absurd h hp
   ·rcases h with h | h
    ·have:=I.down C (j+1) j (by omega) hj hSj i h;rw[hS] at this; cases this
    ·obtain⟨oj,ho',hfw⟩:=T.fw j ops[j] i (Nat.zero_le _) hj (by simp[hj]) h;rw[ho] at ho';cases ho';rw[hw];exact hfw
   ·omega
  ·have hA' : ∀j,j<ops.size→i<j→j∈effs→S j=false:=by
    intro j h1 h2 h3;cases hs:S j with
    | false=>rfl
    | true=>exact absurd ⟨j,h1,h2,h3,hs⟩ hA
   by_cases hB : ∃j,j<i∧j∈effs∧S j=false
   ·obtain⟨j0,hj0,hej0,hSj0⟩:=hB;obtain⟨j,hj,⟨hji,hje,hSj⟩,hmin⟩:=xT (p:=fun j=>j<i∧j∈effs∧S j=false) ⟨hj0,hej0,hSj0⟩;have hw:w=ws j:=by
     rw[I.wld,fS (S':=fun m=>decide (m<j)),fT T (Nat.le_refl _),show min j ops.size=j from by omega];intro m hm hem;by_cases hmj:m<j
     ·cases hs:S m with
      | true=>simp[hmj]
      | false=>exact absurd ⟨by omega,hem,hs⟩ (hmin m hmj)
     ·cases hs:S m with
      | false=>simp[hmj]
      | true=>
       exfalso;by_cases e:m=j
       ·subst e; rw[hSj] at hs; cases hs
       ·have hb:=C.effe m j hm (by omega) hem hje (by omega);rw[show max m j=m from by omega,show min m j=j from by omega] at hb;have:=I.down C (m+1) m (by omega) hm hs j hb;rw[hSj] at this; cases this
    rcases C.effn i o j ho (by omega) he hje (by omega) with h | ⟨h,_⟩ | ⟨_,h⟩
    ·exact absurd h hp
    ·omega
    ·rcases h with h | h
     ·have:=I.downReady C ho hr h;rw[hSj] at this; cases this
     ·rw[hw];exact T.bw i o j (Nat.zero_le _) hi ho h
   ·have hw:w=ws i:=by
     rw[I.wld,fS (S':=fun m=>decide (m<i)),fT T (Nat.le_refl _),show min i ops.size=i from by omega];intro m hm hem;by_cases hmi:m<i
     ·cases hs:S m with
      | true=>simp[hmi]
      | false=>exact absurd ⟨m,hmi,hem,hs⟩ hB
     ·by_cases e:m=i
      ·subst e; rw[hS]; simp
      ·rw[hA' m hm (by omega) hem]; simp[hmi]
    rw[hw];exact hst
end
open Go
section
variable {P : Program} {D : Den} {N : Nat} {ops : Array Oper} {effs : List Nat} {fwd bwd : List (Nat × List Nat)} {V : List Nat} {es : Nat → Env} {vs : Nat → Value} {ws : Nat → World}
theorem oX (hD:SoundD P D)(C:Chk N ops effs fwd bwd V)(T:Trc P D ops effs fwd bwd 0 ops.size es vs ws){Q:Exit→Act→World→Prop}{F:Act→Prop}
 (hF : ∀(a:Act) (i:Nat) (o:Oper) (v:Value),ops[i]? =some o→a.tmps.size=N→(∀k,o.dst=some k→k<N)→F a→F (a.put o.dst v))
 (hQ : ∀a,F a→Inv N ops effs V (es 0) vs ws (fun i=>decide (i<ops.size)) a (ws ops.size)→Q .normal a (ws ops.size)) :
 ∀(fuel:Nat) (listed:Array Bool) (a:Act) (w:World),listed.size=ops.size→listed.toList.count false=fuel→F a→
  Inv N ops effs V (es 0) vs ws (fun i=>listed.getD i false) a w→wpAny P .any ops Q fuel listed a w:=by
 have rdy : ∀(listed:Array Bool),listed.size=ops.size→∀i,i∈Region.ready .any ops listed↔
  ∃o,ops[i]? =some o∧listed.getD i false=false∧∀e∈o.after,bindsA e=true→listed.getD e.on false=true:=by
  intro listed hs i;unfold Region.ready;simp only[List.mem_filter,List.mem_range,Bool.and_eq_true,Bool.not_eq_true'];constructor
  ·rintro⟨hi,hl,ho⟩;have hoi:ops[i]? =some ops[i]:=by simp[hi]
   refine⟨_,hoi,?_,?_⟩
   ·have:i<listed.size:=by omega
    simpa[Array.getD,this] using hl
   ·rw[hoi] at ho;simp only[Option.map_some,Option.getD_some,Array.all_eq_true_iff_forall_mem] at ho;intro e he hb;have:=ho e he;rw[show Region.binds .any e=bindsA e from rfl,hb] at this;simpa using this
  ·rintro⟨o,ho,hl,hr⟩;have hi:i<ops.size:=by rw[Array.getElem?_eq_some_iff] at ho; exact ho.1
   refine⟨hi,?_,?_⟩
   ·have:i<listed.size:=by omega
    simpa[Array.getD,this] using hl
   ·rw[ho];simp only[Option.map_some,Option.getD_some,Array.all_eq_true_iff_forall_mem];intro e he;cases hb:bindsA e with
    | false=>rw[show Region.binds .any e=bindsA e from rfl,hb]; rfl
    | true=>rw[hr e he hb]; simp
 have full : ∀(listed:Array Bool) (a:Act) (w:World),listed.size=ops.size→F a→Inv N ops effs V (es 0) vs ws (fun i=>listed.getD i false) a w→
  Region.ready .any ops listed = []→Q .normal a w:=by
  intro listed a w hs hf I hr;have hall : ∀n,∀i,i<n→i<ops.size→listed.getD i false=true:=by
   intro n;induction n with
   | zero=>intro i h; omega
   | succ n ih=>
    intro i hin hi;cases hl:listed.getD i false with
    | true=>rfl
    | false=>
     exfalso;have:i∈Region.ready .any ops listed:=(rdy listed hs i).2 ⟨ops[i],by simp[hi],hl,fun e he hb=>by
      have:=C.edge i ops[i] e (by simp[hi]) he hb;exact ih e.on (by omega) (by omega)⟩
     rw[hr] at this;cases this
  have hSe : ∀i,i<ops.size→listed.getD i false=decide (i<ops.size):=fun i hi=>by rw[hall (i+1) i (by omega) hi]; simp[hi]
  have hw:w=ws ops.size:=by
   rw[I.wld,fS (S':=fun m=>decide (m<ops.size)) (fun j hj _=>hSe j hj),fT T (Nat.le_refl _),Nat.min_self]
  subst hw;refine hQ a hf ⟨I.size,I.defers,?_,?_,?_⟩
  ·intro i o e hi ho he hb;have:=C.edge i o e ho he hb;have hi':i<ops.size:=by simpa using hi
   simp;omega
  ·intro t ht;rw[I.val t ?_]
   ·exact iJ fun j hj _=>hSe j hj
   ·rcases ht with h | ⟨j,h1,h2,h3⟩
    ·exact .inl h
    ·exact .inr ⟨j,h1,by rw[hSe j h1]; exact h2,h3⟩
  ·rw[fT T (Nat.le_refl _),Nat.min_self]
 intro fuel;induction fuel with
 | zero=>
  intro listed a w hs hc hf I;have hr:Region.ready .any ops listed = []:=by
   cases hrr:Region.ready .any ops listed with
   | nil=>rfl
   | cons i r=>
    exfalso;have hm:i∈Region.ready .any ops listed:=by rw[hrr]; exact List.mem_cons_self
    obtain⟨o,ho,hl,_⟩:=(rdy listed hs i).1 hm;have hi:i<ops.size:=by rw[Array.getElem?_eq_some_iff] at ho; exact ho.1
    have hi':i<listed.size:=by omega
    rw[List.count_eq_zero] at hc;refine hc ?_;simp[Array.getD,hi'] at hl;exact Array.mem_toList_iff.2 (hl ▸ Array.getElem_mem hi')
  exact⟨hr,full listed a w hs hf I hr⟩
 | succ fuel ih=>
  intro listed a w hs hc hf I;refine⟨full listed a w hs hf I,?_⟩;intro i hm;obtain⟨o,ho,hl,hr⟩:=(rdy listed hs i).1 hm;have hi:i<ops.size:=by rw[Array.getElem?_eq_some_iff] at ho; exact ho.1
  have hi':i<listed.size:=by omega
  have hnext:=I.next C T ho hl hr
  obtain⟨W,hok,hW⟩:=C.oper i o ho;have hval : ∀t∈W,t∈namesOf ops o→a.tmps.getD t undef=envA ops vs (es 0) (fun i=>listed.getD i false) ops.size t:=by
   intro t ht hn;refine I.val t ?_;rcases hW t ht with h | ⟨j,h1,h2⟩
   ·exact .inl h
   ·refine .inr ⟨j,by omega,?_,h2⟩;have:=I.names C ho hl hr hn (j:=j) (by omega) (by omega) h2;simpa[h1] using this
  have hok':okOper N ops o (W.filter fun t=>(namesOf ops o).contains t)=true:=by
   simp only[okOper,Bool.and_eq_true] at hok ⊢;refine⟨⟨⟨hok.1.1.1,?_⟩,hok.1.2⟩,?_⟩
   ·refine List.all_eq_true.2 fun x hx=>?_;have:=List.all_eq_true.1 hok.1.1.2 x hx;cases x with
    | tmp t=>
     simp only[opnd] at this ⊢;simp only[List.contains_eq_mem,List.mem_filter,decide_eq_true_eq] at this ⊢;refine⟨this,?_⟩;unfold namesOf;exact List.mem_append_left _ (List.mem_append_right _ (List.mem_filterMap.2 ⟨.tmp t,hx,rfl⟩))
    | _=>rfl
   ·have h4:=hok.2;cases hg:o.guard with
    | none=>rfl
    | some g=>
     obtain⟨j,b⟩:=g;rw[hg] at h4;simp only at h4 ⊢;cases hd:(ops[j]?).bind (·.dst) with
     | none=>rfl
     | some d=>
      rw[hd] at h4;simp only[List.contains_eq_mem,List.mem_filter,decide_eq_true_eq] at h4 ⊢;refine⟨h4,?_⟩;unfold namesOf;refine List.mem_append_right _ ?_;rw[hg];simp[dstN,hd]
  have hSnew : ∀k,(listed.setIfInBounds i true).getD k false=(listed.getD k false || k == i):=by
   intro k;by_cases e:i=k
   ·subst e; simp[hi']
   ·have:(k == i)=false:=by simp; exact fun h=>e h.symm
    simp[Array.getElem?_setIfInBounds_ne e,this]
  have hfun:(fun k=>(listed.setIfInBounds i true).getD k false)=fun k=>(listed.getD k false || k == i):=funext hSnew;unfold wpOp;rw[ho];refine oR hD (V:=W.filter fun t=>(namesOf ops o).contains t) (fun t ht=>hval t (List.mem_filter.1 ht).1 (by simpa using (List.mem_filter.1 ht).2)) hok' hnext ?_;refine ih _ _ _ (by simpa using hs) ?_ (hF a i o _ ho I.size (iI hok) hf) ?_
  ·rw[Array.toList_setIfInBounds,List.count_set (by simpa using hi')];simp[Array.getD,hi'] at hl;simp[hl,hc]
  ·rw[hfun];refine⟨by rw[oO]; exact I.size,by rw[oP]; exact I.defers,?_,?_,rfl⟩
   ·intro k ok e hk hok hm hb;by_cases e1:k=i
    ·subst e1;rw[ho] at hok;cases hok;rw[hr e hm hb]; rfl
    ·have hk':listed.getD k false=true:=by simpa[e1] using hk
     have:=I.closed k ok e hk' hok hm hb;rw[this]; rfl
   ·intro t ht;have hbnd : ∀k,o.dst=some k→k<a.tmps.size:=by rw[I.size]; exact iI hok
    rw[fP hbnd];by_cases hd:o.dst=some t
    ·rw[if_pos hd];refine(xO (i:=i) (by simp) (by simp[dstN,ho,hd]) hi fun j h1 h2 h3 h4=>?_).symm;have hn:t∈namesOf ops o:=by
      unfold namesOf;rw[hd];exact List.mem_append_left _ (List.mem_append_left _ (by simp))
     have:=I.names C ho hl hr hn (j:=j) h2 (by omega) h4;have h5:(j == i)=false:=by simp; omega
     rw[h5,Bool.or_false] at h3;rw[this] at h3;simp at h3;omega
    ·rw[if_neg hd];have hcg:envA ops vs (es 0) (fun k=>(listed.getD k false || k == i)) ops.size t=envA ops vs (es 0) (fun i=>listed.getD i false) ops.size t:=by
      refine iJ fun j hj hdj=>?_;by_cases e:j=i
      ·subst e;exfalso;refine hd ?_;simpa[dstN,ho] using hdj
      ·simp[e]
     rw[hcg];refine I.val t ?_;rcases ht with h | ⟨j,h1,h2,h3⟩
     ·exact .inl h
     ·refine .inr ⟨j,h1,?_,h3⟩;by_cases e:j=i
      ·subst e;exfalso;refine hd ?_;simpa[dstN,ho] using h3
      ·simpa[e] using h2
theorem xU (hD:SoundD P D)(hm:P.follows .mixedOrders=true){V':List Nat}{a:Act}{ρ ρ':Env}{w w':World}{id:Nat}
 (hok:okDraw ops effs fwd bwd=true) (hV:okReg N ops ops.toList V=some V') (hs:Sim N V a ρ)
 (hr:runD P D ops effs fwd bwd 0 ops.toList ρ w.drew []=some (ρ',w')) (Q:Exit→Act→World→Prop)
 (hQ : ∀a',a'.tmps.size=N→a'.defers = []→(∀t,(t∈V∨t∈dstsOf ops.toList)→a'.tmps.getD t undef=ρ' t)→
  (∀t,t∉dstsOf ops.toList→a'.tmps.getD t undef=a.tmps.getD t undef)→Q .normal a' w') :
 (Code.region id ops true).wp P Q a w:=by
 have C:=oV hok hV;obtain⟨es,vs,ws,T,e1,e2,e3,e4,_⟩:=oU hr rfl (fun i o hi=>by simpa using hi);simp only[Nat.zero_add,Array.length_toList] at T e3 e4;refine wp_region_any hm (oX hD C T (F:=fun a'=>∀t,t∉dstsOf ops.toList→a'.tmps.getD t undef=a.tmps.getD t undef) ?_ ?_ _ _ _ _ (by simp) ?_ ?_ ?_)
 ·intro a1 i o v ho h1 h2 h3 t ht;rw[fP (by rw[h1]; exact h2),if_neg]
  ·exact h3 t ht
  ·intro e;refine ht ?_;unfold dstsOf;exact List.mem_filterMap.2 ⟨o,Array.mem_toList_iff.2 (Array.mem_of_getElem? ho),e⟩
 ·intro a' hf I;rw[e4];refine hQ a' I.size I.defers (fun t ht=>?_) hf;rw[I.val t ?_,kO (Nat.le_refl _),kN T (Nat.le_refl _),e3];rcases ht with h | h
  ·exact .inl h
  ·unfold dstsOf at h;rw[List.mem_filterMap] at h;obtain⟨o,ho,hd⟩:=h;obtain⟨j,hj,hjo⟩:=Array.mem_iff_getElem.1 (Array.mem_toList_iff.1 ho);exact .inr ⟨j,hj,by simp[hj],by simp[dstN,hj,hjo,hd]⟩
 ·simp
 ·exact fun _ _=>rfl
 ·refine⟨hs.size,hs.defers,?_,?_,?_⟩
  ·intro i o e hi;simp[Array.getD] at hi
  ·intro t ht;have hS:(fun i=>(Array.replicate ops.size false).getD i false)=fun _=>false:=by
    funext i;simp[Array.getD]
   rw[hS];have hno : ∀k,envA ops vs (es 0) (fun _=>false) k=es 0:=by
    intro k;induction k with
    | zero=>rfl
    | succ k ih=>simp[envA,ih]
   rw[hno,e1];rcases ht with h | ⟨j,_,h2,_⟩
   ·exact hs.val t h
   ·simp[Array.getD] at h2
  ·have hS:(fun i=>(Array.replicate ops.size false).getD i false)=fun _=>false:=by
    funext i;simp[Array.getD]
   rw[hS];have hno : ∀k,wA effs ws (fun _=>false) k=ws 0:=by
    intro k;induction k with
    | zero=>rfl
    | succ k ih=>simp[wA,ih]
   rw[hno,e2];rfl
end
end Go.Proofs.YtpgigkceoolgeaaGreatDoor.Fd
