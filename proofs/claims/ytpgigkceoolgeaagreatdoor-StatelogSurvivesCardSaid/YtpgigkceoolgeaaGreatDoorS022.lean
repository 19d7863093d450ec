import Derived.Test.YtpgigkceoolgeaaGreatDoorS021
set_option linter.all false
namespace Go.Proofs.YtpgigkceoolgeaaGreatDoor.Fd
open Go Go.Sort
set_option maxRecDepth 100000
theorem ZF {P:Program}{f:FuncId}{args:Array Value}{w w':World}{v:Value}{R:Value→World→Prop}(hi:P.inits.idxOf? f=none)(h:den P f args w=some (v,w'))
 (hc:Calls P f args w fun e w1=>∃u,e = .returned u∧R u w1):R v w':=by
 have h1:=fO P f args w v w' h;have g1:=Calls.done (R:=fun u w1=>u=v∧w1=w') (Calls.mono h1 (by rintro e w' ⟨rfl,rfl⟩; exact⟨rfl,rfl⟩)) hi;have g2:=Calls.done (R:=R) (Calls.mono hc (by rintro e w' ⟨u,rfl,h⟩; exact h)) hi;obtain⟨n1,x1,y1,r1,rfl,rfl⟩:=g1;obtain⟨n2,x2,y2,r2,hR⟩:=g2;have s1:=iF r1 (Nat.le_max_left n1 n2);have s2:=iF r2 (Nat.le_max_right n1 n2);rw[s1] at s2;simp only[Stepped.ended.injEq,Outcome.done.injEq] at s2;obtain⟨rfl,rfl⟩:=s2;exact hR
theorem ZG {a b c:List UInt8}(h:Lib.compareBytes a c<0):Lib.compareBytes a b<0∨Lib.compareBytes b c<0:=by
 by_cases h1:Lib.compareBytes a b<0
 ·exact .inl h1
 ·refine .inr ?_;by_cases h2:Lib.compareBytes a b=0
  ·rw[mJ h2] at h;exact h
  ·have h3:=mI a b;exact mK (b:=a) (by omega) h
theorem ZH {x y z:Cmd}(h:cmpC x z<0):cmpC x y<0∨cmpC y z<0:=by
 rw[jH] at h;rw[jH,jH];rcases h with h | ⟨e1,h⟩
 ·omega
 rcases h with h | ⟨e2,h⟩
 ·omega
 have h3:=ZG (b:=(strOfNums (encC y)).data.toList) h;by_cases c1:x.client<y.client
 ·exact .inl (.inl c1)
 by_cases c2:y.client<z.client
 ·exact .inr (.inl c2)
 have c3:x.client=y.client:=by omega
 have c4:y.client=z.client:=by omega
 by_cases d1:x.seq<y.seq
 ·exact .inl (.inr ⟨c3,.inl d1⟩)
 by_cases d2:y.seq<z.seq
 ·exact .inr (.inr ⟨c4,.inl d2⟩)
 have d3:x.seq=y.seq:=by omega
 have d4:y.seq=z.seq:=by omega
 rcases h3 with h3 | h3
 ·exact .inl (.inr ⟨c3,.inr ⟨d3,h3⟩⟩)
 ·exact .inr (.inr ⟨c4,.inr ⟨d4,h3⟩⟩)
def cfC (xs:List Cmd)(i j:Nat):Int:=cmpC (xs.getD i c0) (xs.getD j c0)
theorem ZI {xs:List Cmd}:SWO (ltOf (cfC xs)) where
 irrefl x:=by unfold ltOf cfC; rw[jI]; decide
 trans x y z h1 h2:=by
  unfold ltOf cfC at *;rw[decide_eq_true_eq] at *;exact dB h1 h2
 ntrans x y z h1 h2:=by
  unfold ltOf cfC at *;rw[decide_eq_false_iff_not] at *;intro h;rcases ZH (y:=xs.getD y c0) h with h | h
  ·exact h1 h
  ·exact h2 h
def encX (css:List (List Value))(i:Nat):List Value:=css.getD i c0v
theorem ZJ {α:Type}[Inhabited α]{enc:α→List Value}{d:Array α}{j r:Nat}(hj:j<d.size)(hr:r<6):(flatK enc 6 d)[j*6+r]! =(enc d[j]!)[r]! :=by
 rw[get_flatK enc 6 d _ (by omega),show(j*6+r)/6=j from by omega,show(j*6+r)%6=r from by omega]
theorem tV {w:World}{E:TypeId}{s g cap n:Nat}{css:List (List Value)}(h:w.ownsRow 0 E s (.slice (some ⟨g,0,none⟩) n cap) n css.flatten)(hl : ∀c,c∈css→c.length=s)(hn:css.length=n) :
 (∀(j:Nat) (cs:List Value),css[j]? =some cs→∀r,r<s→w.cell? ⟨g,j*s+r,none⟩=cs[r]?)∧∀k,w.frozen? ⟨g,k,none⟩=false:=by
 rcases h.2 with ⟨e0,_⟩ | ⟨g',cap',cur,e0,hb,hgg,hnc,hc,hsz,htake⟩
 ·cases e0
 injection e0 with q1 q2 q3;injection q1 with q1;injection q1 with q1 _ _;subst q1;have hB:Blk w g cur.toList E:=by show _=_; rw[hgg]
 refine⟨fun j cs hj r hr=>?_,fun k=>by simp[World.frozen?,hgg]⟩;have hjl:j<css.length:=(List.getElem?_eq_some_iff.1 hj).1;rw[hB.cell,←dY hl hj r hr,←htake,List.getElem?_take_of_lt];have:(j+1)*s≤n*s:=Nat.mul_le_mul_right _ (by omega);rw[Nat.succ_mul] at this;omega
theorem ZK:(encC c0).length≤80000000:=by
 have h1:=bQ (n:=0) ⟨by decide,by decide⟩;have h2:=aL (n:=0) (by decide);simp only[encC,encC0,encB,c0,List.length_append,List.flatMap_nil,List.length_nil];omega
set_option maxHeartbeats 4000000 in
theorem ZL {F:Nat→Prop}{g cap:Nat}{w:World}{xs:List Cmd}(h:RowD eC w F (.slice (some ⟨g,0,none⟩) xs.length cap) xs)(hl : ∀x,x∈xs→(encC x).length≤80000000)(hn:xs.length≤1000000000) :
 Ok (den Tryz.prog 146 #[.slice (some ⟨g,0,none⟩) xs.length cap,.func (.func 118) #[] #[]] w) fun u w'=>u = .tuple #[]∧(∃ys,ys.Perm xs∧ys.Pairwise (fun a b=>¬cmpC b a<0)∧RowD eC w' F (.slice (some ⟨g,0,none⟩) xs.length cap) ys)∧Upd (fun b=>b=g) w w':=by
 have hg:g<w.heap.size:=h.lt rfl;obtain⟨css,h1,h2,h3,h4⟩:=id h;have ho : ∀b,((Value.slice (some ⟨g,0,none⟩) xs.length cap).ownBlock=some b)=(b=g):=fun b=>by
  show(some g=some b)=_;simp[eq_comm]
 simp only[ho] at h3;obtain⟨u,w1,hd,hu,⟨zs,z1,z2,z3⟩,u1⟩:=fU.1 (ZC hn ⟨xs,rfl,hl,h⟩ hg);refine fU.2 ⟨u,w1,hd,hu,?_,u1⟩;have hE : ∀i,eC.C w (fun b=>F b∨b=g) (xs.getD i c0) (encX css i)∧(encC (xs.getD i c0)).length≤80000000:=fun i=>by
  by_cases hi:i<xs.length
  ·have e1:=List.getElem?_eq_getElem hi;have e2:=List.getElem?_eq_getElem (l:=css) (i:=i) (by omega);have e3:xs.getD i c0=xs[i]:=by rw[List.getD_eq_getElem?_getD,e1]; rfl
   have e4:encX css i=css[i]:=by unfold encX; rw[List.getD_eq_getElem?_getD,e2]; rfl
   rw[e3,e4];exact⟨h3 i _ _ e2 e1,hl _ (List.getElem_mem hi)⟩
  ·have e3:xs.getD i c0=c0:=by rw[List.getD_eq_getElem?_getD,List.getElem?_eq_none (by omega)]; rfl
   have e4:encX css i=c0v:=by unfold encX; rw[List.getD_eq_getElem?_getD,List.getElem?_eq_none (by omega)]; rfl
   rw[e3,e4];exact⟨mH,ZK⟩
 have hk : ∀i,(encX css i).length=6:=fun i=>aA.len (hE i).1;have hlen : ∀c,c∈css→c.length=6:=fun c hc=>by
  obtain⟨m,hm⟩:=List.getElem?_of_mem hc;have hml:m<xs.length:=by rw[←h1]; exact(List.getElem?_eq_some_iff.1 hm).1
  exact aA.len (h3 m c _ hm (List.getElem?_eq_getElem hml))
 have hX : ∀j,j<xs.length→css[j]? =some (encX css j):=fun j hj=>by
  have e2:=List.getElem?_eq_getElem (l:=css) (i:=j) (by omega);unfold encX;rw[List.getD_eq_getElem?_getD,e2];rfl
 obtain⟨hcell,hfree⟩:=tV h2 hlen h1;have hrow : ∀j,j<xs.length→∀r,r<6→w.cell? ⟨g,j*6+r,none⟩=(encX css j)[r]? :=fun j hj r hr=>hcell j _ (hX j hj) r hr;have hH:HoldsK (encX css) 6 w g 0 (Array.range xs.length):=by
  intro j hj;rw[size_flatK,Array.size_range] at hj;have hj1:j/6<xs.length:=by omega
  have e:=hrow (j/6) hj1 (j%6) (by omega);rw[show j/6*6+j%6=j from by omega] at e;refine⟨?_,hfree _⟩;rw[Nat.zero_add,e,get_flatK _ 6 _ _ (by rw[Array.size_range]; exact hj),getElem!_pos _ (j/6) (by simpa using hj1),Array.getElem_range];rw[getElem!_pos _ (j%6) (by rw[hk]; omega)];exact List.getElem?_eq_getElem _
 have hsz:(Array.range xs.length).size=xs.length:=Array.size_range;have hcmp:CmpLays Tryz.prog 118 #[] (encX css) 6 (cfC xs) g 0 (Array.range xs.length).size w:=by
  intro m os dk hdk x y;have hu:Upd (fun b=>b=g) w (sortWorldK (encX css) 6 w g 0 m dk os):=ZD;have k1:=aA.go (F':=fun b=>F b∨b=g) (hE x).1 hu fun b _ h=>h.elim .inr id;have k2:=aA.go (F':=fun b=>F b∨b=g) (hE y).1 hu fun b _ h=>h.elim .inr id;obtain⟨v,w2,q1,rfl,q2⟩:=fU.1 (aY k1 k2 (hE x).2 (hE y).2);refine(fO _ _ _ _ _ _ q1).mono ?_;rintro e w' ⟨rfl,rfl⟩;exact⟨rfl,q2.grows⟩
 have hS:=AnyQ.slices_SortFunc ZE 6 Tryz.isAgg76 Tryz.sizeOf76 (encX css) hk (fun x=>aA.one (hE x).1) (cfC xs) ZI 118 #[] g 0 cap (Array.range xs.length) w (enters_of Tryz.func118 (by kernel_rfl) rfl) hcmp hH hg (by rw[hsz]; omega);rw[hsz] at hS;have hR:=ZF (R:=fun _ w1=>∃d' n os,PermIn 0 xs.length (Array.range xs.length) d'∧SortedIn (ltOf (cfC xs)) 0 xs.length d'∧w1=sortWorldK (encX css) 6 w g 0 n d' os) (by kernel_rfl) hd (hS.mono fun e w1 ⟨e1,e2⟩=>⟨_,e1,e2⟩);obtain⟨d,n,os,hp,hs,rfl⟩:=hR;have hds:d.size=xs.length:=by rw[hp.1,hsz]
 refine⟨d.toList.map fun i=>xs.getD i c0,?_,?_,?_⟩
 ·have h2:=hp.2.2;have e1:d.extract 0 xs.length=d:=by rw[←hds]; simp
  have e2:(Array.range xs.length).extract 0 xs.length=Array.range xs.length:=by simp
  rw[e1,e2,Array.toList_range] at h2;have h3:=h2.map fun i=>xs.getD i c0;have e3:(List.range xs.length).map (fun i=>xs.getD i c0)=xs:=by
   apply List.ext_getElem?;intro j;rw[List.getElem?_map];by_cases hj:j<xs.length
   ·rw[List.getElem?_range hj,Option.map_some,List.getD_eq_getElem?_getD,List.getElem?_eq_getElem hj]; rfl
   ·rw[List.getElem?_eq_none (by simpa using hj),List.getElem?_eq_none (by omega)]; rfl
  rwa [e3] at h3
 ·rw[List.pairwise_map,List.pairwise_iff_getElem];intro i j hi hj hij;have:=hs i j (Nat.zero_le _) hij (by rw[Array.length_toList] at hj; omega);unfold ltOf cfC at this;rw[decide_eq_false_iff_not,getElem!_pos d i (by simpa using hi),getElem!_pos d j (by simpa using hj)] at this;simpa using this
 ·obtain⟨dss,k1,k2,k3,k4⟩:=id z3;simp only[ho] at k3;have hlen2 : ∀c,c∈dss→c.length=6:=fun c hc=>by
   obtain⟨m,hm⟩:=List.getElem?_of_mem hc;have hml:m<zs.length:=by rw[←k1]; exact(List.getElem?_eq_some_iff.1 hm).1
   exact aA.len (k3 m c _ hm (List.getElem?_eq_getElem hml))
  obtain⟨hcell2,_⟩:=tV (s:=6) (n:=xs.length) (by rw[z1] at k2; exact k2) hlen2 (k1.trans z1);refine⟨dss,by simp[hds,k1,z1],by simpa[hds,z1] using k2,fun j cs x hc hx=>?_,k4⟩;simp only[ho];have hjd:j<dss.length:=(List.getElem?_eq_some_iff.1 hc).1;have hjn:j<d.size:=by omega
  rw[List.getElem?_map,Array.getElem?_toList,Array.getElem?_eq_getElem hjn,Option.map_some,Option.some.injEq] at hx;subst hx;have e:cs=encX css d[j]:=by
   have hc6:=hlen2 cs (List.mem_of_getElem? hc);refine List.ext_getElem? fun r=>?_;by_cases hr:r<6
   ·rw[←hcell2 j cs hc r hr];have hh:=(Sort.holds_putRow id (Sort.ahead w n) g 0 (flatK (encX css) 6 (Array.range xs.length)) (flatK (encX css) 6 d) hH (by rw[size_flatK,size_flatK,hds,hsz])) (j*6+r) (by rw[size_flatK]; omega);have h1:=hh.1;rw[ZJ hjn hr,getElem!_pos d j hjn,Nat.zero_add] at h1;rw[List.getElem?_eq_getElem (by rw[hk]; exact hr)];have h5:(encX css d[j])[r]! =(encX css d[j])[r]'(by rw[hk]; exact hr):=getElem!_pos _ r _;rw[←h5];refine Eq.trans ?_ h1;refine World.cell?_of_block ?_;simp only[sortWorldK,Go.Sort.grow,putRowK];rw[Array.getElem?_append_left (by simpa using hg)]
   ·rw[List.getElem?_eq_none (by omega),List.getElem?_eq_none (by rw[hk]; omega)]
  rw[e];exact aA.go (hE d[j]).1 u1 fun b _ h=>h.elim .inr id
open Go
set_option maxRecDepth 100000
theorem gQ {x:Cmd} : ¬cmpC x x<0:=by rw [jI]; decide
theorem ZM {x y:Cmd}(h:cmpC x y<0) : ¬cmpC y x<0:=fun h2=>gQ (dB h h2)
theorem tW {x y:Cmd}(h:0<cmpC x y):cmpC y x<0:=by have:=jG (a:=x) (b:=y); omega
theorem SrtC.pair : ∀{l:List Cmd},SrtC l→l.Pairwise (fun a b=>cmpC a b<0)
 | [],_=>List.Pairwise.nil
 | [x],_=>List.pairwise_singleton _ _
 | x :: y :: r,h=>by
  have h1:SrtC (y :: r):=fun i a b ha hb=>h (i+1) a b (by simpa using ha) (by simpa using hb);have h2:=SrtC.pair h1;have h3:=h 0 x y rfl rfl;refine List.Pairwise.cons (fun z hz=>?_) h2;rcases List.mem_cons.1 hz with rfl | hz
  ·exact h3
  ·exact dB h3 ((List.pairwise_cons.1 h2).1 z hz)
theorem gR {l:List Cmd}(h:l.Pairwise (fun a b=>cmpC a b<0)):SrtC l:=fun i x y hx hy=>by
 rw[List.pairwise_iff_getElem] at h;obtain⟨h1,rfl⟩:=List.getElem?_eq_some_iff.1 hx;obtain⟨h2,rfl⟩:=List.getElem?_eq_some_iff.1 hy;exact h i (i+1) h1 h2 (by omega)
theorem tX : ∀{l m:List Cmd},l.Pairwise (fun a b=>cmpC a b<0)→m.Pairwise (fun a b=>cmpC a b<0)→(∀x,x∈l↔x∈m)→l=m
 | [],[],_,_,_=>rfl
 | [],y :: m,_,_,h=>by have:=(h y).2 List.mem_cons_self; simp at this
 | x :: l,[],_,_,h=>by have:=(h x).1 List.mem_cons_self; simp at this
 | x :: l,y :: m,h1,h2,h=>by
  obtain⟨a1,a2⟩:=List.pairwise_cons.1 h1;obtain⟨b1,b2⟩:=List.pairwise_cons.1 h2;have e:x=y:=by
   rcases List.mem_cons.1 ((h x).1 List.mem_cons_self) with e | hx
   ·exact e
   ·rcases List.mem_cons.1 ((h y).2 List.mem_cons_self) with e | hy
    ·exact e.symm
    ·exact absurd (b1 x hx) (ZM (a1 y hy))
  subst e;have:=tX a2 b2 fun z=>by
   constructor
   ·intro hz;rcases List.mem_cons.1 ((h z).1 (List.mem_cons_of_mem _ hz)) with e | h3
    ·subst e; exact absurd (a1 z hz) gQ
    ·exact h3
   ·intro hz;rcases List.mem_cons.1 ((h z).2 (List.mem_cons_of_mem _ hz)) with e | h3
    ·subst e; exact absurd (b1 z hz) gQ
    ·exact h3
  rw[this]
theorem tY {l m:List Cmd}(h1:SrtC l)(h2:SrtC m)(h : ∀x,x∈l↔x∈m):l=m:=tX h1.pair h2.pair h
def insC (x:Cmd):List Cmd→List Cmd
 | []=>[x]
 | y :: r=>if cmpC x y<0 then x :: y :: r else if cmpC x y=0 then y :: r else y :: insC x r
theorem mS {x:Cmd}(hx:CmdS x) : ∀{l:List Cmd},(∀y,y∈l→CmdS y)→∀z,z∈insC x l↔z=x∨z∈l
 | [],_,z=>by simp[insC]
 | y :: r,h,z=>by
  unfold insC;split
  ·simp
  ·split
   ·rename_i _ h0;rw[(fA hx (h y List.mem_cons_self)).1 h0];simp
   ·simp only[List.mem_cons,mS hx (fun y hy=>h y (List.mem_cons_of_mem _ hy))];constructor
    ·rintro(h | h | h) <;> simp[h]
    ·rintro(h | h | h) <;> simp[h]
theorem tZ {x:Cmd}(hx:CmdS x) : ∀{l:List Cmd},(∀y,y∈l→CmdS y)→l.Pairwise (fun a b=>cmpC a b<0)→(insC x l).Pairwise (fun a b=>cmpC a b<0)
 | [],_,_=>List.pairwise_singleton _ _
 | y :: r,h,hp=>by
  obtain⟨h1,h2⟩:=List.pairwise_cons.1 hp;unfold insC;split
  ·rename_i hlt;refine List.Pairwise.cons (fun z hz=>?_) hp;rcases List.mem_cons.1 hz with rfl | hz
   ·exact hlt
   ·exact dB hlt (h1 z hz)
  ·split
   ·exact hp
   ·rename_i n1 n2;refine List.Pairwise.cons (fun z hz=>?_) (tZ hx (fun y hy=>h y (List.mem_cons_of_mem _ hy)) h2);rcases(mS hx (fun y hy=>h y (List.mem_cons_of_mem _ hy)) z).1 hz with rfl | hz
    ·exact tW (by omega)
    ·exact h1 z hz
def ofC:List Cmd→List Cmd
 | []=>[]
 | x :: r=>insC x (ofC r)
theorem jL : ∀{l:List Cmd},(∀y,y∈l→CmdS y)→(∀z,z∈ofC l↔z∈l)∧(ofC l).Pairwise (fun a b=>cmpC a b<0)
 | [],_=>⟨fun z=>Iff.rfl,List.Pairwise.nil⟩
 | x :: r,h=>by
  obtain⟨h1,h2⟩:=jL (l:=r) fun y hy=>h y (List.mem_cons_of_mem _ hy);have h3 : ∀y,y∈ofC r→CmdS y:=fun y hy=>h y (List.mem_cons_of_mem _ ((h1 y).1 hy));refine⟨fun z=>?_,tZ (h x List.mem_cons_self) h3 h2⟩;unfold ofC;rw[mS (h x List.mem_cons_self) h3,h1,List.mem_cons]
theorem cF {l:List Cmd}(h : ∀y,y∈l→CmdS y){z:Cmd}:z∈ofC l↔z∈l:=(jL h).1 z
theorem cU {l:List Cmd}(h : ∀y,y∈l→CmdS y):SrtC (ofC l):=gR (jL h).2
theorem gS {l m:List Cmd}(h : ∀y,y∈l→CmdS y)(hs:SrtC m)(hm : ∀z,z∈m↔z∈l):m=ofC l:=tY hs (cU h) fun z=>(hm z).trans (cF h).symm
theorem gT {l:List Cmd}:(ofC l).length≤l.length:=by
 have hi : ∀(x:Cmd) (m:List Cmd),(insC x m).length≤m.length+1:=by
  intro x m;induction m with
  | nil=>simp[insC]
  | cons y r ih=>unfold insC; split <;> (try split) <;> simp <;> omega
 induction l with
 | nil=>exact Nat.le_refl _
 | cons x r ih=>unfold ofC; have:=hi x (ofC r); simp; omega
theorem mT {l:List Cmd}(h : ∀y,y∈l→CmdS y)(hs:SrtC l):ofC l=l:=(gS h hs fun _=>Iff.rfl).symm
open Go
set_option maxRecDepth 100000
section
variable {P : Program} {D : Den} {w : World} {ty : TypeId} {e : Operand → Value} {t : TypeId}
def clrS (P:Program)(t ty:TypeId)(x:Value)(w:World):Option (Value×World):=lift ((Builtin.clear_ #[t] ty #[x]).run P w)
theorem ZN {x:Operand}:opX P D (.call ⟨.builtin .clear,#[x],#[t]⟩) ty e w=clrS P t ty (e x) w:=by
 simp only[opX,opS,execOp,clrS,lift,resolve];simp[invoke,builtin];cases (Builtin.clear_ #[t] ty #[e x]).run P w <;> simp
theorem ZO {el:TypeId}{z:Value}{b o m c:Nat}{w':World}(hu:P.underlying t=some (.slice el))(hz:zer P el=some z)(hm:0<m)(hp:putAt w b o (Builtin.zeroCells z.cells m).toList=some w') :
 clrS P t ty (.slice (some ⟨b,o,none⟩) m c) w=some (.tuple #[],w'):=by
 have hs:=pD (P:=P) (i:=0) (o:=o) (b:=b) (w:=w) (w':=w') (by simpa using hp);unfold zer at hz;cases hi:P.info? el with
 | none=>rw[hi] at hz; cases hz
 | some i=>
  rw[hi] at hz;have hz':i.zero=some z:=by simpa using hz
  obtain⟨m',rfl⟩ : ∃m',m=m'+1:=⟨m-1,by omega⟩;simp[clrS,lift,Builtin.clear_,underlying,hu,zeroValue,typeInfo,hi,hz',hs]
end
attribute [push_cast] ZN
theorem ZP {z:List Value}{m s:Nat}(hz:z.length=s)(hs:0<s):(Builtin.zeroCells z.toArray m).toList=(List.replicate m z).flatten:=by
 rw[←tN hz hs];unfold Builtin.zeroCells madeCells;rw[List.size_toArray,hz]
theorem t6 {w:World}{F:Nat→Prop}{g cap k c:Nat}{xs:List Cmd}(h:RowD eC w F (.slice (some ⟨g,0,none⟩) xs.length cap) xs)(hk:k<xs.length) :
 ∃w',(∀ty,clrS Tryz.prog 32 ty (.slice (some ⟨g,k*6,none⟩) (xs.length-k) c) w=some (.tuple #[],w'))∧RowD eC w' F (.slice (some ⟨g,0,none⟩) k cap) (xs.take k)∧Upd (fun b=>b=g) w w':=by
 obtain⟨css,h1,h2,h3,h4⟩:=h;have he:=aA;have hlen:=dI he h1 h3;have hfl:=cP hlen;have es:eC.s=6:=rfl;rw[es] at hlen hfl h2;obtain⟨h21,h22⟩:=id h2;rcases h22 with ⟨e0,_⟩ | ⟨g',cap',cur,e0,hb,hg,hnc,hc,hsz,ht⟩
 ·cases e0
 injection e0 with e1 e2 e3;injection e1 with e1;injection e1 with e1 _ _;subst e1;subst e3;have hB:Blk w g cur.toList eC.E:=by show _=_; rw[hg]
 have hzl:(Builtin.zeroCells c0v.toArray (xs.length-k)).toList=(List.replicate (xs.length-k) c0v).flatten:=ZP (s:=6) rfl (by decide);have hrl:(List.replicate (xs.length-k) c0v).flatten.length=(xs.length-k)*6:=by
  rw[cP (s:=6) fun c hc=>by rw[List.eq_of_mem_replicate hc]; rfl,List.length_replicate]
 have hone : ∀u,u∈(List.replicate (xs.length-k) c0v).flatten→u.oneCell'=true:=fun u hu=>by
  obtain⟨cs,hcs,hu⟩:=List.mem_flatten.1 hu;rw[List.eq_of_mem_replicate hcs] at hu;exact aA.one (mH (w:=w) (F:=F)) u hu
 have hcl:cur.toList.length=cap*6:=by rw[Array.length_toList]; exact hsz
 have hp:=jF (l:=(List.replicate (xs.length-k) c0v).flatten) (o:=k*6) hB (by rw[hrl,hcl]; omega) hone;have u1:Upd (fun b=>b=g) w (w.setRow g (cur.toList.take (k*6) ++ ((List.replicate (xs.length-k) c0v).flatten ++ cur.toList.drop (k*6+(List.replicate (xs.length-k) c0v).flatten.length))).toArray):=Upd.setRow rfl;have hu:Tryz.prog.underlying 32=some (.slice 76):=by kernel_rfl
 refine⟨_,fun ty=>ZO hu bO (by omega) (by rw[show(Value.agg #[.int .i64 0,.int .i64 0,.int .i64 0,.slice none 0 0,.int .i64 0,.slice none 0 0]).cells=c0v.toArray from rfl,hzl]; exact hp),?_,u1⟩;have hB2:=hB.setRow (cs':=cur.toList.take (k*6) ++ ((List.replicate (xs.length-k) c0v).flatten ++ cur.toList.drop (k*6+(List.replicate (xs.length-k) c0v).flatten.length)));have hlen2 : ∀cs,cs∈css.take k→cs.length=6:=fun cs hcs=>hlen cs (List.mem_of_mem_take hcs);have hfl2:=cP hlen2;have htk:(css.take k).flatten=css.flatten.take (k*6):=by
  have h5:css.flatten=(css.take k).flatten ++ (css.drop k).flatten:=by rw[←List.flatten_append,List.take_append_drop]
  rw[h5,List.take_append_of_le_length (by rw[hfl2,List.length_take,show min k css.length=k from by omega]; exact Nat.le_refl _),List.take_of_length_le (l:=(css.take k).flatten) (by rw[hfl2,List.length_take]; exact Nat.mul_le_mul_right _ (by omega))]
 refine⟨css.take k,by simp[h1],?_,fun j cs x hcj hx=>?_,h4⟩
 ·rw[es,List.length_take,show min k xs.length=k from by omega];refine⟨by rw[hfl2,List.length_take,h1,show min k xs.length=k from by omega],.inr ⟨g,cap,_,rfl,hb,hB2,by omega,hc,?_,?_⟩⟩
  ·simp only[List.size_toArray,List.length_append,List.length_take,List.length_drop,hrl,hcl,es];omega
  ·rw[htk,←ht,List.toList_toArray,List.take_append_of_le_length (by rw[List.length_take,hcl]; omega),List.take_take,List.take_take,Nat.min_self,show min (k*6) (xs.length*6)=k*6 from by omega]
 ·have ho : ∀b,((Value.slice (some ⟨g,0,none⟩) k cap).ownBlock=some b)=(b=g):=fun b=>by
   show(some g=some b)=_;simp[eq_comm]
  have ho' : ∀b,((Value.slice (some ⟨g,0,none⟩) xs.length cap).ownBlock=some b)=(b=g):=fun b=>by
   show(some g=some b)=_;simp[eq_comm]
  simp only[ho'] at h3;simp only[ho];rw[List.getElem?_take] at hcj hx;split at hcj
  ·rename_i hj;rw[if_pos hj] at hx;exact he.go (h3 j cs x hcj hx) u1 fun b _ h=>h.elim .inr id
  ·cases hcj
open Go
set_option maxRecDepth 100000
set_option maxHeartbeats 4000000 in
theorem t7 {w:World}{G H:Nat→Prop}{c d:Cmd}{cs ds:List Value}(hc:eC.C w G c cs)(hd:eC.C w H d ds)(hl:(encC c).length≤80000000)(hl2:(encC d).length≤80000000) :
 Ok (den Tryz.prog 148 #[.agg cs.toArray,.agg ds.toArray] w) fun u w'=>u = .bool (decide (cmpC c d=0))∧Upd NoB w w':=by
 refine aB (args:=[.agg cs.toArray,.agg ds.toArray]) rs148 Tryz.func148 rfl mixed (by kernel_rfl) ST rfl ?_;have kc:=aA.len hc;have kd:=aA.len hd;rw[aD];generalize hKs:KS _ _ _ _ _=Ks;simp(disch:=omega)only[push_cast,seval];have b0:=(Blk.new (w:=w) (cs:=cs) (E:=76)).alloc (.cells ds.toArray 76 (0,0));have b1:=Blk.new (w:=w.alloc (.cells cs.toArray 76 (0,0))) (cs:=ds) (E:=76);have u0:Upd NoB w ((w.alloc (.cells cs.toArray 76 (0,0))).alloc (.cells ds.toArray 76 (0,0))):=Upd.alloc.alloc';rw[aI] at b1;generalize (w.alloc (.cells cs.toArray 76 (0,0))).alloc (.cells ds.toArray 76 (0,0))=w2 at *;have lA:=aJ (P:=Tryz.prog) (t:=76) b0 (by kernel_rfl) (by rw[kc]; kernel_rfl);have lB:=aJ (P:=Tryz.prog) (t:=76) b1 (by kernel_rfl) (by rw[kd]; kernel_rfl);subst hKs;rw[aC];simp(maxSteps:=3000000)(disch:=omega)only[push_cast,seval,lA,lB];refine Ok.use (aY (aA.q hc u0) (aA.q hd u0) hl hl2) ?_;rintro v w3 ⟨rfl,u3⟩;simp(maxSteps:=3000000)(disch:=omega)only[push_cast,seval];exact u0.trans u3 fun _ _ h=>h
structure Cpt (xs : List Cmd) (m : Nat) (ys : List Cmd) : Prop where
 le:ys.length≤m
 pos:ys≠[]
 srt:ys.Pairwise (fun a b=>cmpC a b<0)
 mem : ∀z,z∈ys↔z∈xs.take m
 last : ∀z,ys.getLast? =some z→xs[m-1]? =some z
theorem Cpt.one {x:Cmd}{xs:List Cmd}(h:xs[0]? =some x):Cpt xs 1 [x]:=by
 cases xs with
 | nil=>simp at h
 | cons a r=>
  simp at h;subst h;exact⟨Nat.le_refl _,by simp,List.pairwise_singleton _ _,fun z=>by simp,fun z hz=>by simp at hz; simp[hz]⟩
theorem bS {xs:List Cmd}{m:Nat}{y:Cmd}(hy:xs[m]? =some y):xs.take (m+1)=xs.take m ++ [y]:=by
 obtain⟨h1,rfl⟩:=List.getElem?_eq_some_iff.1 hy;exact List.take_succ_eq_append_getElem h1
theorem Cpt.more {xs:List Cmd}{m:Nat}{ys:List Cmd}{x y:Cmd}(h:Cpt xs m ys)(hx:xs[m-1]? =some x)(hy:xs[m]? =some y)(hlt:cmpC x y<0):Cpt xs (m+1) (ys ++ [y]) where
 le:=by have:=h.le; simp; omega
 pos:=by simp
 srt:=by
  rw[List.pairwise_append];refine⟨h.srt,List.pairwise_singleton _ _,fun a ha b hb=>?_⟩;rw[List.mem_singleton] at hb;subst hb;obtain⟨z,hz⟩ : ∃z,ys.getLast? =some z:=by
   cases h2:ys.getLast? with
   | none=>rw[List.getLast?_eq_none_iff] at h2; exact absurd h2 h.pos
   | some z=>exact⟨z,rfl⟩
  have h3:=h.last z hz;rw[hx] at h3;injection h3 with h3;subst h3;obtain⟨l,rfl⟩:=List.getLast?_eq_some_iff.1 hz;have h4:=h.srt;rw[List.pairwise_append] at h4;rcases List.mem_append.1 ha with ha | ha
  ·exact dB (h4.2.2 a ha x (by simp)) hlt
  ·rw[List.mem_singleton] at ha; subst ha; exact hlt
 mem z:=by rw[bS hy,List.mem_append,List.mem_append,h.mem]
 last z hz:=by
  rw[List.getLast?_append] at hz;simp at hz;subst hz;simpa using hy
theorem Cpt.same {xs:List Cmd}{m:Nat}{ys:List Cmd}{x:Cmd}(h:Cpt xs m ys)(hm:0<m)(hx:xs[m-1]? =some x)(hy:xs[m]? =some x):Cpt xs (m+1) ys where
 le:=Nat.le_succ_of_le h.le
 pos:=h.pos
 srt:=h.srt
 mem z:=by
  rw[bS hy,List.mem_append,h.mem,List.mem_singleton];refine⟨.inl,fun h=>h.elim id fun h=>?_⟩;subst h;exact List.mem_of_getElem? (i:=m-1) (by rw[List.getElem?_take,if_pos (by omega)]; exact hx)
 last z hz:=by
  have:=h.last z hz;rw[hx] at this;rw[←this];simpa using hy
theorem Cpt.fin {xs ys:List Cmd}(h:Cpt xs xs.length ys)(hs : ∀x,x∈xs→CmdS x):ys=ofC xs:=
 gS hs (gR h.srt) fun z=>by rw[h.mem,List.take_length]
theorem RowD.ld {F:Nat→Prop}{g n cap:Nat}{w:World}{xs:List Cmd}(h:RowD eC w F (.slice (some ⟨g,0,none⟩) n cap) xs){i:Nat}{x:Cmd}(hx:xs[i]? =some x) : ∃cs:List Value,eC.C w (fun b=>F b∨b=g) x cs∧
 ∀{w':World},Upd NoB w w'→ldS Tryz.prog 76 (.pointer (some ⟨g,i*6,none⟩)) w'=some (.agg cs.toArray,w'):=by
 obtain⟨cs,k1,k2,_,k4⟩:=h.at_ aA hx;exact⟨cs,k1,fun hu=>ldC (aA.q k1 hu) (SlD.old (e:=eC) k4 hu (fun h=>h) k2)⟩
theorem RowD.cap {α:Type}{e:Elt α}{F:Nat→Prop}{g n cap:Nat}{w:World}{xs:List α}(h:RowD e w F (.slice (some ⟨g,0,none⟩) n cap) xs):n=xs.length∧xs.length≤cap:=by
 obtain⟨css,h1,h2,h3,h4⟩:=h;rcases h2.2 with ⟨e0,_⟩ | ⟨g',cap',cur,e0,hb,hg,hnc,_⟩
 ·cases e0
 injection e0 with e1 e2 e3;exact⟨e2,e3 ▸ hnc⟩
set_option maxHeartbeats 16000000 in
theorem ZQ {F:Nat→Prop}{g cap:Nat}{w:World}{xs:List Cmd}(h:RowD eC w F (.slice (some ⟨g,0,none⟩) xs.length cap) xs)(hs : ∀x,x∈xs→CmdS x)(hp:xs.Pairwise (fun a b=>¬cmpC b a<0))(hn:xs.length≤1000000000) :
 Ok (den Tryz.prog 147 #[.slice (some ⟨g,0,none⟩) xs.length cap,.func (.func 148) #[] #[]] w) fun u w'=>∃k,u = .slice (some ⟨g,0,none⟩) k cap∧k=(ofC xs).length∧RowD eC w' F (.slice (some ⟨g,0,none⟩) k cap) (ofC xs)∧Upd (fun b=>b=g) w w':=by
 refine aB (args:=[.slice (some ⟨g,0,none⟩) xs.length cap,.func (.func 148) #[] #[]]) rs147 Tryz.func147 rfl mixed (by kernel_rfl) SS rfl ?_;have hsl : ∀x,x∈xs→(encC x).length≤80000000:=fun x hx=>(hs x hx).2;by_cases h2:xs.length<2
 ·simp(disch:=omega)only[push_cast,seval];have e:ofC xs=xs:=mT hs fun i x y hx hy=>by
   have:=(List.getElem?_eq_some_iff.1 hy).1;omega
  rw[e];exact⟨_,rfl,rfl,h,Upd.refl⟩
 simp(disch:=omega)only[push_cast,seval];have hcap:=h.cap.2;refine aG (I:=fun k st w'=>Bx (∃m:Nat,1≤m∧m≤xs.length∧k=xs.length-m∧st = [.int .i64 (m:Int)]∧Cpt xs m (xs.take m)∧Upd NoB w w') ⟨⟩) ?_ (xs.length-1) ⟨1,by omega,by omega,rfl,rfl,?_,Upd.refl⟩;rotate_left
 ·have hx:=List.getElem?_eq_getElem (l:=xs) (i:=0) (by omega);have:=Cpt.one hx;rwa [show xs.take 1 = [xs[0]] from by rw[bS (m:=0) hx]; rfl]
 rintro k st w1 ⟨m,m1,m2,rfl,rfl,hc,u1⟩;have h1:=h.go (F':=F) aA u1 fun b _ h=>h.elim (fun h=>h.elim) id;by_cases hm:xs.length≤m
 ·have hmm:m=xs.length:=by omega
  subst hmm;rw[List.take_length] at hc;have e:ofC xs=xs:=(hc.fin hs).symm;simp(disch:=omega)only[push_cast,seval];rw[e];exact⟨_,rfl,rfl,h1,aZ u1⟩
 have hx:=List.getElem?_eq_getElem (l:=xs) (i:=m) (by omega);have hy:=List.getElem?_eq_getElem (l:=xs) (i:=m-1) (by omega);have hpx : ¬cmpC xs[m] xs[m-1]<0:=by
  rw[List.pairwise_iff_getElem] at hp;exact hp (m-1) m (by omega) (by omega) (by omega)
 generalize xs[m]=x at *;generalize xs[m-1]=y at *;have sx:=hs x (List.mem_of_getElem? hx);have sy:=hs y (List.mem_of_getElem? hy);obtain⟨cs,kx,lx⟩:=h1.ld hx;obtain⟨ds,ky,ly⟩:=h1.ld hy;have e1:((m:Int)).toNat=m:=by omega
 have e2:((m:Int)-1).toNat=m-1:=by omega
 simp(maxSteps:=3000000)(disch:=omega)only[push_cast,seval,e1,e2,lx Upd.drew,ly Upd.drew];refine Ok.use (t7 (aA.q kx Upd.drew) (aA.q ky Upd.drew) sx.2 sy.2) ?_;rintro u w2 ⟨rfl,u2⟩;have v2:Upd NoB w1 w2:=Upd.drew.trans u2 fun _ _ h=>h;by_cases hz:cmpC x y=0
 ·have exy:x=y:=(fA sx sy).1 hz;have ecap : ¬cap=m:=by omega
  simp(maxSteps:=3000000)(disch:=omega)only[push_cast,seval,e1,e2,lx Upd.drew,ly Upd.drew,lx v2,ly v2,hz,ecap];subst exy;refine aG (I:=fun k st w'=>Bx (∃(q k':Nat) (zs:List Cmd),1≤q∧q≤xs.length-m∧k=xs.length-m-q∧k'+1≤m+q∧zs.length=xs.length∧Cpt xs (m+q) (zs.take k')∧(∀i,m+q≤i+1→zs[i]? =xs[i]?)∧st = [.int .i64 (k':Int),.int .i64 (q:Int)]∧RowD eC w' F (.slice (some ⟨g,0,none⟩) xs.length cap) zs∧Upd (fun b=>b=g) w w') ⟨⟩) ?_ (xs.length-m-1) ⟨1,m,xs,by omega,by omega,rfl,by omega,rfl,hc.same (by omega) hy hx,fun _ _=>rfl,by simp,h1.go aA v2 fun b _ h=>h.elim (fun h=>h.elim) id,aZ (u1.trans v2 fun _ _ h=>h)⟩;rintro k2 st w3 ⟨q,k,zs,q1,q2,rfl,hk,hzl,c3,hzx,rfl,h3,u3⟩;have ecap3 : ¬cap=k:=by omega
  by_cases hq:xs.length-m≤q
  ·have eq:m+q=xs.length:=by omega
   rw[eq] at c3;have ef:=c3.fin hs;rw[←hzl] at h3;obtain⟨w4,r1,r2,r3⟩:=t6 (c:=cap-k) h3 (k:=k) (by omega);rw[ef] at r2;rw[hzl] at r1;simp(maxSteps:=3000000)(disch:=omega)only[push_cast,seval,ecap,ecap3,r1];refine⟨k,rfl,?_,r2,u3.trans r3 fun _ _ h=>h⟩;rw[←ef,List.length_take];omega
  have hx':=List.getElem?_eq_getElem (l:=xs) (i:=m+q) (by omega);have hy':=List.getElem?_eq_getElem (l:=xs) (i:=m+q-1) (by omega);have hpx' : ¬cmpC xs[m+q] xs[m+q-1]<0:=by
   rw[List.pairwise_iff_getElem] at hp;exact hp (m+q-1) (m+q) (by omega) (by omega) (by omega)
  generalize xs[m+q]=x' at *;generalize xs[m+q-1]=y' at *;have sx':=hs x' (List.mem_of_getElem? hx');have sy':=hs y' (List.mem_of_getElem? hy');obtain⟨cs',kx',lx'⟩:=h3.ld (i:=m+q) (by rw[hzx _ (by omega)]; exact hx');obtain⟨ds',ky',ly'⟩:=h3.ld (i:=m+q-1) (by rw[hzx _ (by omega)]; exact hy');rw[show(m+q)*6=m*6+q*6 from by omega] at lx';rw[show(m+q-1)*6=m*6+(q-1)*6 from by omega] at ly';have e1':((q:Int)).toNat=q:=by omega
  have e2':((q:Int)-1).toNat=q-1:=by omega
  have e3':((k:Int)).toNat=k:=by omega
  simp(maxSteps:=3000000)(disch:=omega)only[push_cast,seval,e1',e2',e3',lx' Upd.drew,ly' Upd.drew];refine Ok.use (t7 (aA.q kx' Upd.drew) (aA.q ky' Upd.drew) sx'.2 sy'.2) ?_;rintro u w4 ⟨rfl,u4⟩;have v4:Upd NoB w3 w4:=Upd.drew.trans u4 fun _ _ h=>h;have u5:Upd (fun b=>b=g) w w4:=u3.trans (aZ v4) fun _ _ h=>h;have h4:RowD eC w4 F (.slice (some ⟨g,0,none⟩) xs.length cap) zs:=h3.go aA v4 fun b _ h=>h.elim (fun h=>h.elim) id;by_cases hz':cmpC x' y'=0
  ·have exy':x'=y':=(fA sx' sy').1 hz';simp(maxSteps:=3000000)(disch:=omega)only[push_cast,seval,e1',e2',e3',lx' Upd.drew,ly' Upd.drew,lx' v4,ly' v4,hz'];refine⟨xs.length-m-(q+1),by omega,q+1,k,zs,by omega,by omega,rfl,by omega,hzl,?_,fun i hi=>hzx i (by omega),by simp,h4,u5⟩;subst exy';exact c3.same (by omega) hy' hx'
  ·have hlt:cmpC y' x'<0:=by have:=jG (a:=x') (b:=y'); omega
   have kx4:eC.C w4 (fun b=>F b∨b=g) x' cs':=aA.go kx' v4 fun b _ h=>h.elim (fun h=>h.elim) id;obtain⟨w5,s5,h5,u6,_⟩:=eY aA (P:=Tryz.prog) (by kernel_rfl) h4 (i:=k) (by omega) (by omega) kx4;have es:eC.s=6:=rfl;rw[es] at s5;have es':eC.E=76:=rfl;rw[es'] at s5;simp(maxSteps:=3000000)(disch:=omega)only[push_cast,seval,e1',e2',e3',lx' Upd.drew,ly' Upd.drew,lx' v4,ly' v4,hz',s5];refine⟨xs.length-m-(q+1),by omega,q+1,k+1,zs.set k x',by omega,by omega,rfl,by omega,by simp[hzl],?_,fun i hi=>?_,by simp,h5,u5.trans u6 fun _ _ h=>h⟩
   ·have e9:(zs.set k x').take (k+1)=zs.take k ++ [x']:=by
     rw[bS (y:=x') (by rw[List.getElem?_set,if_pos rfl,if_pos (by omega)]),List.take_set,List.set_eq_of_length_le (by simp; omega)]
    rw[e9];exact c3.more hy' hx' hlt
   ·rw[List.getElem?_set_ne (by omega)];exact hzx i (by omega)
 ·have hlt:cmpC y x<0:=by have:=jG (a:=x) (b:=y); omega
  simp(maxSteps:=3000000)(disch:=omega)only[push_cast,seval,e1,e2,lx Upd.drew,ly Upd.drew,lx v2,ly v2,hz];refine⟨xs.length-(m+1),by omega,m+1,by omega,by omega,rfl,by simp,?_,u1.trans v2 fun _ _ h=>h⟩;rw[bS hx];exact hc.more hy hx hlt
open Go
set_option maxRecDepth 100000
def Old (w:World)(b:Nat):Prop:=b<w.heap.size
set_option maxHeartbeats 8000000 in
theorem mU {w:World}{F:Nat→Prop}{v:Value}{xs:List Cmd}(hv:SlD eC w F v xs)(hs : ∀x,x∈xs→CmdS x)(hn:xs.length≤1000000) :
 Ok (den Tryz.prog 114 #[v] w) fun u w'=>RowD eC w' (Old w) u (ofC xs)∧Upd NoB w w'∧∃g c,u = .slice (some ⟨g,0,none⟩) (ofC xs).length c:=by
 obtain⟨va,vc,rfl,_⟩:=hv.form;refine aB (args:=[.slice va xs.length vc]) rs114 Tryz.func114 rfl mixed (by kernel_rfl) RS rfl ?_;obtain⟨w1,r1,m1,u1,z1⟩:=XS (w:=w) (F:=Old w) (n:=xs.length) (by omega) (fun h=>Nat.lt_irrefl _ h);have hsl : ∀x,x∈xs→(encC x).length≤80000000:=fun x hx=>(hs x hx).2;simp(disch:=omega)only[push_cast,seval,r1];refine aG (I:=fun k st w'=>Bx (∃i:Nat,k+i=xs.length∧st = [.int .i64 (i:Int)]∧RowD eC w' (Old w) (.slice (some ⟨w.heap.size,0,none⟩) xs.length xs.length) (xs.take i ++ List.replicate (xs.length-i) c0)∧Upd NoB w w') ⟨⟩) ?_ xs.length ⟨0,rfl,rfl,by simpa using m1,u1⟩;clear m1 r1;rintro k st w2 ⟨i,hk,rfl,h2,u2⟩;by_cases hk0:k=0
 ·obtain rfl:i=xs.length:=by omega
  rw[List.take_length,Nat.sub_self,List.replicate_zero,List.append_nil] at h2;simp(disch:=omega)only[push_cast,seval];refine Ok.use (ZL h2 hsl (by omega)) ?_;rintro u w3 ⟨rfl,⟨ys,p3,q3,h3⟩,u3⟩;have hl3:ys.length=xs.length:=p3.length_eq;rw[←hl3] at h3;simp(disch:=omega)only[push_cast,seval];rw[show Value.slice (some ⟨w.heap.size,0,none⟩) xs.length xs.length=Value.slice (some ⟨w.heap.size,0,none⟩) ys.length ys.length from by rw[hl3]];refine Ok.use (ZQ h3 (fun x hx=>hs x (p3.mem_iff.1 hx)) q3 (by omega)) ?_;rintro u w4 ⟨k4,rfl,hk4,h4,u4⟩;have e:ofC ys=ofC xs:=gS hs (cU fun x hx=>hs x (p3.mem_iff.1 hx)) fun z=>by rw[cF fun x hx=>hs x (p3.mem_iff.1 hx)]; exact p3.mem_iff
  rw[e] at h4;simp(disch:=omega)only[push_cast,seval];exact⟨h4,(u2.trans u3 fun b hb h=>by omega).trans u4 fun b hb h=>by omega,_,_,by rw[hk4,e]⟩
 have hi:i<xs.length:=by omega
 have hx:=List.getElem?_eq_getElem hi;generalize xs[i]=x at *;have sx:=hs x (List.mem_of_getElem? hx);have hv2:=hv.go (F':=F) aA u2 fun b _ h=>h.elim (fun h=>h.elim) id;obtain⟨xb,xo,xc,xcs,hvv,hxl,_,hcx,hcell⟩:=hv2.at_ hx;injection hvv with e1 _ e3;subst e1;subst e3;have l1:=ldC (w:=w2) hcx hcell;have es:eC.s=6:=rfl;have kc:=aA.len hcx;rw[es] at l1 kc;have b3:=Blk.new (w:=w2) (cs:=[.int .i64 0,.int .i64 0,.int .i64 0,.slice none 0 0,.int .i64 0,.slice none 0 0]) (E:=76);have u3:Upd NoB w2 (w2.alloc (.cells #[.int .i64 0,.int .i64 0,.int .i64 0,.slice none 0 0,.int .i64 0,.slice none 0 0] 76 (0,0))):=Upd.alloc;have b4:=b3.setRow (cs':=xcs);simp(maxSteps:=3000000)(disch:=omega)only[push_cast,seval,l1,bO,aP (P:=Tryz.prog) (t:=76) (cs':=xcs) b3 (by rw[kc]; kernel_rfl) (by rw[kc]; rfl) (aA.one hcx),aJ (P:=Tryz.prog) (t:=76) b4 (by kernel_rfl) (by rw[kc]; kernel_rfl)];have u4:=u3.trans (Upd.setRow (F:=fun b=>b=w2.heap.size) (w:=w2.alloc (.cells #[.int .i64 0,.int .i64 0,.int .i64 0,.slice none 0 0,.int .i64 0,.slice none 0 0] 76 (0,0))) (g:=w2.heap.size) (cs:=xcs.toArray) rfl) (F:=NoB) (fun b h1 h2=>by omega);generalize (w2.alloc (.cells #[.int .i64 0,.int .i64 0,.int .i64 0,.slice none 0 0,.int .i64 0,.slice none 0 0] 76 (0,0))).setRow w2.heap.size xcs.toArray=w4 at *;refine Ok.use (XR (aA.q hcx u4) sx.2) ?_;rintro u w5 ⟨cs',rfl,h5,u5⟩;have u25:=u4.trans u5 fun _ _ h=>h;have h5r:=h2.go (F':=Old w) aA u25 fun b _ h=>h.elim (fun h=>h.elim) id;have s12:=z1 ▸ u1.size;have hM:w.heap.size<w4.heap.size:=Nat.lt_of_lt_of_le (h2.lt rfl) u4.size;have hlen:(xs.take i ++ List.replicate (xs.length-i) c0).length=xs.length:=by simp; omega
 obtain⟨w6,s6,h6,u6,_⟩:=eY aA (P:=Tryz.prog) (by kernel_rfl) h5r (i:=i) (by rw[hlen]; exact hi) hlen.symm (x':=x) (cs:=cs') (aA.go h5 (Upd.refl (F:=NoB)) fun b _ h=>h.elim (fun h=>h.elim) fun h=>by
  rcases h with h | h
  ·have:b<w.heap.size:=h;omega
  ·subst h; exact hM)
 rw[es,show eC.E=76 from rfl] at s6;simp(maxSteps:=3000000)(disch:=omega)only[push_cast,seval,s6];refine⟨k-1,by omega,i+1,by omega,by simp,?_,(u2.trans u25 fun _ _ h=>h).trans u6 fun b hb h=>by omega⟩;have e9:(xs.take i ++ List.replicate (xs.length-i) c0).set i x=xs.take (i+1) ++ List.replicate (xs.length-(i+1)) c0:=by
  rw[bS hx,show xs.length-i=(xs.length-(i+1))+1 from by omega,List.replicate_succ,List.set_append_right _ _ (by simp; omega)];simp;rw[show i-min i xs.length=0 from by omega];rfl
 rw[←e9];exact h6
open Go
set_option maxRecDepth 100000
section
variable {P : Program} {D : Den} {w : World} {ty : TypeId} {e : Operand → Value} {t : TypeId}
def capS (P:Program)(t:TypeId)(x:Value)(w:World):Option (Value×World):=lift ((Builtin.cap_ #[t] 0 #[x]).run P w)
theorem ZR {x:Operand}:opX P D (.call ⟨.builtin .cap,#[x],#[t]⟩) ty e w=capS P t (e x) w:=by
 simp only[opX,opS,execOp,capS,lift,resolve];have : ∀ty',Builtin.cap_ #[t] ty' #[e x]=Builtin.cap_ #[t] 0 #[e x]:=fun _=>rfl;simp[invoke,builtin,this ty];generalize Builtin.cap_ #[t] 0 #[e x]=s;cases s.run P w <;> simp
theorem ZS {el:TypeId}{a:Option Addr}{n c:Nat}(ht:P.underlying t=some (.slice el)):capS P t (.slice a n c) w=some (.int .i64 c,w):=by
 simp[capS,lift,Builtin.cap_,underlying,ht,goInt]
end
attribute [push_cast] ZR
theorem ZT {P:Program}{w:World}{t tx ty el:TypeId}{i:TypeInfo}{z:Value}(ht:P.underlying t=some (.slice el))(hx:P.underlying tx=some (.int .i64))(hi:P.info? el=some i)(hz:i.zero=some z){R:Nat}(h0:0<R)(hs:0<i.size)(hb:R*i.bytes≤140737488355328)(hR:R≤1000000000) :
 (Builtin.append_ #[t,tx] ty #[.slice none 0 0,.int .i64 (R:Int)]).run P w = .ok (.slice (some ⟨w.heap.size,0,none⟩) R (grownCap w R 0 el)) (w.drew.alloc (.cells (Builtin.zeroCells z.cells R ++ Builtin.zeroCells z.cells (grownCap w R 0 el-R)) el)):=by
 have h1:IntKind.i64.wrap (R:Int)=(R:Int):=by rw[IntKind.wrap_i64]; omega
 have h2 : ¬((R:Int)<0):=by omega
 have h3 : ¬(281474976710656<(R:Int)*(i.bytes:Int)):=by
  have:((R*i.bytes:Nat):Int)=(R:Int)*(i.bytes:Int):=by push_cast
  omega
 have h4 : ¬(9223372036854775807<((R:Int))):=by omega
 have h5:=growslice_fits (need:=R) (old:=0) (bytes:=i.bytes) h0 hb;have h5' : ¬(281474976710656<Builtin.nextslicecap R 0*i.bytes):=by omega
 have h6 : ¬(R=0):=by omega
 have h7 : ¬(i.size=0):=by omega
 simp[Builtin.append_,run_underlying ht,run_underlying hx,sizeOf,typeInfo,zeroValue,hi,hz,Builtin.lenOf,Builtin.firstCells,h1,h2,h3,h4,h5',h6,h7,asInt,asIntOf,Question.forced,newRow,grownCap];intro h8;have h9:0<R*i.size:=Nat.mul_pos h0 hs;omega
theorem ZU {w:World}{F:Nat→Prop}{R:Nat}(h0:0<R)(hR:R≤1000000000)(hF : ¬F w.heap.size) : ∃cap w',(∀ty,appS Tryz.prog #[32,3] ty (.slice none 0 0) (.int .i64 (R:Int)) w=some (.slice (some ⟨w.heap.size,0,none⟩) R cap,w'))∧RowD eC w' F (.slice (some ⟨w.heap.size,0,none⟩) 0 cap) []∧Upd NoB w w':=by
 have hi : ∃i,Tryz.prog.info? 76=some i∧i.size=6∧i.bytes=80∧i.zero=some (.agg #[.int .i64 0,.int .i64 0,.int .i64 0,.slice none 0 0,.int .i64 0,.slice none 0 0]):=by
  have hs:siz Tryz.prog 76=some 6:=by kernel_rfl
  have hb:=gO;have hz:=bO;unfold siz at hs;unfold byt at hb;unfold zer at hz;cases hi:Tryz.prog.info? 76 with
  | none=>rw[hi] at hs; cases hs
  | some i=>
   rw[hi] at hb hz hs;simp only[Option.map_some,Option.some.injEq,Option.bind_some] at hb hz hs;exact⟨i,rfl,hs,hb,hz⟩
 obtain⟨i,hi,hs,hb,hz⟩:=hi;have hu:Tryz.prog.underlying 32=some (.slice 76):=by kernel_rfl
 have hx:Tryz.prog.underlying 3=some (.int .i64):=by kernel_rfl
 have hge:=grownCap_ge w R 0 76;have hcm:grownCap w R 0 76≤maxLen:=grownCap_le_maxLen w R 0 76 (by unfold maxLen; omega);refine⟨grownCap w R 0 76,_,fun ty=>by unfold appS lift; rw[ZT (P:=Tryz.prog) (ty:=ty) hu hx hi hz h0 (by omega) (by rw[hb]; omega) hR],⟨[],rfl,?_,fun j cs x hc=>by simp at hc,fun g hg=>?_⟩,Upd.drew.trans Upd.alloc fun _ _ h=>h⟩
 ·refine⟨rfl,.inr ⟨w.heap.size,_,_,rfl,Nat.zero_le _,heap_alloc_new w.drew _,Nat.zero_le _,hcm,?_,by simp⟩⟩;rw[Array.size_append,size_zeroCells,size_zeroCells];have:(Value.agg #[.int .i64 0,.int .i64 0,.int .i64 0,.slice none 0 0,.int .i64 0,.slice none 0 0]).cells.size=6:=rfl;rw[this,show eC.s=6 from rfl];omega
 ·have e:w.heap.size=g:=Option.some.inj hg;rw[←e];exact hF
theorem ZV {w:World}{F:Nat→Prop}{n:Nat}(hn:n≤1000000000)(hF : ∀b,F b→b<w.heap.size):Ok (den Tryz.prog 170 #[.slice none 0 0,.int .i64 (n:Int)] w) fun u w'=>RowD eC w' F u []∧Upd NoB w w':=by
 refine aB (args:=[.slice none 0 0,.int .i64 (n:Int)]) rs170 Tryz.func170 rfl mixed (by kernel_rfl) TB rfl ?_;have hcp : ∀{a:Option Addr} {n c:Nat} {w:World},capS Tryz.prog 32 (.slice a n c) w=some (.int .i64 c,w):=fun {a n c w}=>ZS (P:=Tryz.prog) (el:=76) (by kernel_rfl);by_cases h0:n=0
 ·subst h0;simp(disch:=omega)only[push_cast,seval,hcp];exact⟨RowD.nil,Upd.refl⟩
 obtain⟨cap,w1,r1,h1,u1⟩:=ZU (w:=w) (F:=F) (R:=n) (by omega) hn (fun h=>Nat.lt_irrefl _ (hF _ h));have e1:(n:Int)-0=n:=by omega
 have hnil:slcS Tryz.prog 32 (.slice none 0 0) none (some (.int .i64 0)) w=some (.slice none 0 0,w):=by kernel_rfl
 simp(disch:=omega)only[push_cast,seval,hcp,e1,hnil,r1];exact⟨h1,u1⟩
theorem jM {ty:TypeId}{w:World}{F:Nat→Prop}{v y:Value}{xs ys:List Cmd}(hv:RowD eC w F v xs)(hy:SlD eC w (fun b=>F b∨v.ownBlock=some b) y ys)(hF : ∀b,F b→b<w.heap.size)(hl:xs.length+ys.length≤1000000000)
 {K:Value×World→Prop} (hK : ∀v' w',RowD eC w' F v' (xs ++ ys)→Upd (fun b=>v.ownBlock=some b) w w'→(∀g,v'.ownBlock=some g→v.ownBlock=some g∨(w.heap.size≤g∧g<w'.heap.size))→K (v',w')) :
 Okk (appS Tryz.prog #[32,32] ty v y w) K:=
 lI (by_:=80) (z:=.agg #[.int .i64 0,.int .i64 0,.int .i64 0,.slice none 0 0,.int .i64 0,.slice none 0 0]) aA (P:=Tryz.prog) (t:=32) (by kernel_rfl) (by kernel_rfl) (by kernel_rfl) gO bO rfl hv hy hF (by omega) (by unfold maxLen; omega) hK
theorem SlD.new {α:Type}{e:Elt α}(he:EltOk e){w w':World}{F G:Nat→Prop}{v:Value}{xs:List α}(h:SlD e w F v xs)(hu:Upd NoB w w')(hG : ∀b,G b→w.heap.size≤b):SlD e w' G v xs:=h.go he hu fun b hb h=>h.elim (fun h=>h.elim) fun h=>by have:=hG b h; omega
set_option maxHeartbeats 4000000 in
theorem ZW {w:World}{F G:Nat→Prop}{B E:Nat}{a b:Value}{xs ys:List Cmd}(hB:Blk w B [a,b] E)(ha:SlD eC w F a xs)(hb:SlD eC w G b ys)(hl:xs.length+ys.length≤1000000) :
 Ok (den Tryz.prog 153 #[.slice (some ⟨B,0,none⟩) 2 2] w) fun u w'=>RowD eC w' NoB u (xs ++ ys)∧Upd NoB w w':=by
 refine aB (args:=[.slice (some ⟨B,0,none⟩) 2 2]) rs153 Tryz.func153 rfl mixed (by kernel_rfl) SX rfl ?_;obtain⟨aa,ac,rfl,_⟩:=ha.form;obtain⟨ba,bc,rfl,_⟩:=hb.form;simp(disch:=omega)only[push_cast,seval];refine aG (I:=fun k st w'=>Bx (∃(i:Nat) (s:Nat),k+i=2∧st = [.int .i64 (s:Int),.int .i64 (i:Int)]∧w=w'∧(i=0→s=0)∧(i=1→s=xs.length)∧(i=2→s=xs.length+ys.length)) ⟨⟩) ?_ 2 ⟨0,0,rfl,rfl,rfl,fun _=>rfl,by simp,by simp⟩;rintro k st w2 ⟨i,s,hk,rfl,rfl,h0,h1,h2⟩;have hc:i=0∨i=1∨i=2:=by omega
 rcases hc with rfl | rfl | rfl
 ·obtain rfl:=h0 rfl;simp(disch:=omega)only[push_cast,seval,hB.cell];exact⟨1,by omega,1,xs.length,by omega,by simp,rfl,by simp,by simp,by simp⟩
 ·obtain rfl:=h1 rfl;simp(disch:=omega)only[push_cast,seval,hB.cell];exact⟨0,by omega,2,xs.length+ys.length,by omega,by simp,rfl,by simp,by simp,by simp⟩
 obtain rfl:=h2 rfl;obtain⟨S,hS⟩ : ∃S:Nat,S=xs.length+ys.length:=⟨_,rfl⟩;have eS:(xs.length:Int)+ys.length=S:=by omega
 simp(disch:=omega)only[push_cast,seval,eS];refine Ok.use (ZV (F:=Old w) (by omega) (fun _ h=>h)) ?_;rintro u w1 ⟨r1,u1⟩;have f1 : ∀g,u.ownBlock=some g→w.heap.size≤g:=fun g hg=>Nat.le_of_not_lt (r1.free hg);have q1:RowD eC w1 NoB u []:=r1.go aA (Upd.refl (F:=NoB)) fun _ _ h=>h.elim (fun h=>h.elim) fun h=>h.elim;have e2:xs ++ ys=(([]:List Cmd) ++ xs) ++ ys:=by simp
 obtain⟨ra,rc,rfl⟩:=r1.form;have hB1:=hB.upd u1 fun h=>h;simp(disch:=omega)only[push_cast,seval];refine aG (I:=fun k st w'=>Bx (∃(i:Nat) (v:Value) (l:List Cmd),k+i=2∧st = [v,.int .i64 (i:Int)]∧RowD eC w' NoB v l∧(∀g,v.ownBlock=some g→w.heap.size≤g)∧Upd NoB w w'∧(i=0→l = [])∧(i=1→l=xs)∧(i=2→l=xs ++ ys)) ⟨⟩) ?_ 2 ⟨0,_,[],rfl,rfl,q1,f1,u1,fun _=>rfl,by simp,by simp⟩;rintro k st w3 ⟨i,v,l,hk,rfl,h3,f3,u3,j0,j1,j2⟩;have hB3:=hB.upd u3 fun h=>h;obtain⟨va,vc,rfl⟩:=h3.form;have hc:i=0∨i=1∨i=2:=by omega
 rcases hc with rfl | rfl | rfl
 ·obtain rfl:=j0 rfl;simp(disch:=omega)only[push_cast,seval,hB3.cell];refine jM h3 (ys:=xs) (ha.new aA u3 fun b h=>h.elim (fun h=>h.elim) fun h=>f3 b h) (fun _ h=>h.elim) (by simp; omega) ?_;intro v' w' r4 u4 f4;have g4 : ∀g,v'.ownBlock=some g→w.heap.size≤g:=fun g hg=>(f4 g hg).elim (f3 g) fun h=>Nat.le_trans u3.size h.1;obtain⟨va',vc',rfl⟩:=r4.form;simp(disch:=omega)only[push_cast,seval];exact⟨1,by omega,1,_,_,by omega,rfl,r4,g4,u3.trans u4 fun b hb h=>by have:=f3 b h; omega,by simp,by simp,by simp⟩
 ·obtain rfl:=j1 rfl;simp(disch:=omega)only[push_cast,seval,hB3.cell];refine jM h3 (ys:=ys) (hb.new aA u3 fun b h=>h.elim (fun h=>h.elim) fun h=>f3 b h) (fun _ h=>h.elim) (by omega) ?_;intro v' w' r4 u4 f4;have g4 : ∀g,v'.ownBlock=some g→w.heap.size≤g:=fun g hg=>(f4 g hg).elim (f3 g) fun h=>Nat.le_trans u3.size h.1;obtain⟨va',vc',rfl⟩:=r4.form;simp(disch:=omega)only[push_cast,seval];exact⟨0,by omega,2,_,_,by omega,rfl,r4,g4,u3.trans u4 fun b hb h=>by have:=f3 b h; omega,by simp,by simp,by simp⟩
 ·obtain rfl:=j2 rfl;simp(disch:=omega)only[push_cast,seval,hB3.cell];exact⟨h3,u3⟩
theorem ZX {w:World}{F G:Nat→Prop}{a b:Value}{xs ys:List Cmd}(ha:SlD eC w F a xs)(hb:SlD eC w G b ys)(hx : ∀x,x∈xs→CmdS x)(hy : ∀x,x∈ys→CmdS x)(hl:xs.length+ys.length≤1000000) :
 Ok (den Tryz.prog 119 #[a,b] w) fun u w'=>RowD eC w' (Old w) u (ofC (xs ++ ys))∧Upd NoB w w':=by
 obtain⟨aa,ac,rfl,_⟩:=ha.form;obtain⟨ba,bc,rfl,_⟩:=hb.form;refine aB (args:=[.slice aa xs.length ac,.slice ba ys.length bc]) rs119 Tryz.func119 rfl mixed (by kernel_rfl) RY rfl ?_;have hbs:bslS Tryz.prog 213 2 #[(0,.slice aa xs.length ac),(1,.slice ba ys.length bc)] w=some (.slice (some ⟨w.heap.size,0,none⟩) 2 2,w.alloc (.cells [.slice aa xs.length ac,.slice ba ys.length bc].toArray 32 (0,0))):=by kernel_rfl
 have u1:Upd NoB w (w.alloc (.cells [.slice aa xs.length ac,.slice ba ys.length bc].toArray 32 (0,0))):=Upd.alloc;have b1:=Blk.new (w:=w) (cs:=[.slice aa xs.length ac,.slice ba ys.length bc]) (E:=32);simp(disch:=omega)only[push_cast,seval,hbs];generalize w.alloc (.cells [.slice aa xs.length ac,.slice ba ys.length bc].toArray 32 (0,0))=w1 at *;refine Ok.use (ZW b1 (ha.q aA u1) (hb.q aA u1) hl) ?_;rintro u w2 ⟨r2,u2⟩;have v2:=u1.trans u2 fun _ _ h=>h;obtain⟨ra,rc,rfl⟩:=r2.form;simp(disch:=omega)only[push_cast,seval];refine Ok.use (mU (r2.slD aA) (fun x hx'=>(List.mem_append.1 hx').elim (hx x) (hy x)) (by simpa using hl)) ?_;rintro u w3 ⟨r3,u3,_⟩;obtain⟨ra',rc',rfl⟩:=r3.form;simp(disch:=omega)only[push_cast,seval];exact⟨r3.go aA (Upd.refl (F:=NoB)) fun b _ h=>h.elim (fun h=>h.elim) fun h=>Nat.lt_of_lt_of_le h v2.size,v2.trans u3 fun _ _ h=>h⟩
end Go.Proofs.YtpgigkceoolgeaaGreatDoor.Fd
