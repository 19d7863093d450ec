import Derived.Test.YtpgigkceoolgeaaGreatDoorV29
set_option linter.all false
namespace Go.Proofs.YtpgigkceoolgeaaGreatDoor.Fd
open Go
set_option maxRecDepth 100000
theorem mT : ∀{l:List Int} {a:Nat},l.foldl (fun n x=>n*256+x.toNat) a=a*256 ^ l.length+numL l
 | [],a=>by simp[numL]
 | x :: l,a=>by
  have h1:=mT (l:=l) (a:=a*256+x.toNat);have h2:=mT (l:=l) (a:=x.toNat);have e:numL (x :: l)=l.foldl (fun n x=>n*256+x.toNat) x.toNat:=by simp[numL]
  rw[List.foldl_cons,h1,e,h2,List.length_cons,Nat.pow_succ,Nat.add_mul,Nat.mul_assoc,Nat.mul_comm 256];omega
theorem t6 {x:Int}{l:List Int}:numL (x :: l)=x.toNat*256 ^ l.length+numL l:=by
 have e:numL (x :: l)=l.foldl (fun n x=>n*256+x.toNat) x.toNat:=by simp[numL]
 rw[e,mT]
theorem mU {n:Nat} : ∀{k:Nat},numL (beL k n)=n%256 ^ k
 | 0=>by simp[beL,numL,Nat.mod_one]
 | k+1=>by
  rw[beL,t6,mU (k:=k),bA,Int.toNat_natCast,Nat.pow_succ,Nat.mod_mul,Nat.mul_comm];omega
theorem ZC {n:Nat}:numL (List.replicate n 0)=0:=by
 induction n with
 | zero=>rfl
 | succ n ih=>rw[List.replicate_succ,t6,ih]; simp
def slotSL (L:Nat→List Int)(x n:Nat):List (List Int):=(List.range n).map fun i=>L (x+i)
def openL (L:Nat→List Int)(first n:Nat):CS:=
 let r:=newestP (slotP (slotSL L first n)) (slotP (slotSL L (first+n) n))
 ⟨first,n,r.1,r.2.1,r.2.2,false⟩
theorem ZD {d:DS}{first n:Nat}:openC d first n=openL d.content first n:=rfl
theorem eQ {L L':Nat→List Int}{x n:Nat}(h : ∀a,x≤a→a<x+n→L a=L' a):slotSL L x n=slotSL L' x n:=by
 apply List.map_congr_left;intro i hi;have:=List.mem_range.1 hi;exact h _ (by omega) (by omega)
theorem jK {L L':Nat→List Int}{first n:Nat}(h : ∀a,first≤a→a<first+2*n→L a=L' a):openL L first n=openL L' first n:=by
 unfold openL;rw[eQ (L:=L) (L':=L') (x:=first) fun a h1 h2=>h a h1 (by omega),eQ (L:=L) (L':=L') (x:=first+n) fun a h1 h2=>h a (by omega) (by omega)]
theorem eU {L:Nat→List Int}{x n:Nat}(h:1≤n):slotSL L x n=L x :: (List.range (n-1)).map fun i=>L (x+1+i):=by
 obtain⟨m,rfl⟩ : ∃m,n=m+1:=⟨n-1,by omega⟩;rw[slotSL,List.range_succ_eq_map,Nat.add_sub_cancel];simp only[List.map_cons,List.map_map,Nat.add_zero,List.cons.injEq,true_and];apply List.map_congr_left;intro i _;show L (x+(i+1))=_;rw[show x+(i+1)=x+1+i by omega]
theorem jL {h:List Int}{r:List (List Int)}{z:Nat}(hz:h=List.replicate z 0):slotP (h :: r)=none:=by
 unfold slotP;dsimp only;rw[if_neg];rintro⟨h1,_⟩;rw[List.headD_cons,hz,List.take_replicate,ZC] at h1;omega
def bodyL (L:Nat→List Int)(x t:Nat):List Int:=((List.range t).map fun i=>L (x+1+i)).flatten
theorem t7 {L:Nat→List Int}{x t:Nat}:bodyL L x (t+1)=bodyL L x t ++ L (x+1+t):=by simp [bodyL,List.range_succ]
theorem jM {L:Nat→List Int}{x sz:Nat} : ∀{t:Nat},(∀i,i<t→(L (x+1+i)).length=sz)→(bodyL L x t).length=t*sz
 | 0,_=>by simp[bodyL]
 | t+1,h=>by rw[t7,List.length_append,jM (t:=t) fun i hi=>h i (by omega),h t (by omega),Nat.succ_mul]
theorem uA {L:Nat→List Int}{x sz:Nat}(hz:0<sz){b:List Int}(hc : ∀i,i<nch sz b.length→L (x+1+i)=chunk sz b i) : ∀{t:Nat},(∀i,i<t→(L (x+1+i)).length=sz)→(bodyL L x t).take b.length=b.take (t*sz)
 | 0,_=>by simp[bodyL]
 | t+1,h=>by
  have hl:=jM (L:=L) (x:=x) (sz:=sz) (t:=t) fun i hi=>h i (by omega);have ih:=uA (t:=t) hz hc fun i hi=>h i (by omega);rw[t7,List.take_append,hl,ih,Nat.succ_mul,List.take_add];congr 1;by_cases ht:t<nch sz b.length
  ·have hlt:=(gL hz).1 ht;rw[Nat.mul_comm] at hlt;rw[hc t ht,chunk,pad,Nat.mul_comm sz t];have hl2:((b.drop (t*sz)).take sz).length=min sz (b.length-t*sz):=by rw[List.length_take,List.length_drop]
   by_cases hs:sz≤b.length-t*sz
   ·rw[show sz-((b.drop (t*sz)).take sz).length=0 by omega];simp only[List.replicate_zero,List.append_nil];rw[List.take_of_length_le (by omega)]
   ·rw[List.take_append_of_le_length (by omega),List.take_of_length_le (by omega)]
  ·have hge : ¬sz*t<b.length:=fun hh=>ht ((gL hz).2 hh);rw[Nat.mul_comm] at hge;rw[show b.length-t*sz=0 by omega,List.take_zero,List.drop_of_length_le (by omega),List.take_nil]
theorem ZE {sz g:Nat}{b:List Int}(hg:g<2 ^ 64):numL ((hdrP sz b g).take 8)=g:=by
 unfold hdrP pad headP;rw[List.append_assoc,List.append_assoc,List.take_append_of_le_length (by rw[bA]; omega),List.take_of_length_le (by rw[bA]; omega),mU];exact Nat.mod_eq_of_lt hg
theorem ZF {sz g:Nat}{b:List Int}(hb:b.length<2 ^ 32):numL (((hdrP sz b g).drop 8).take 4)=b.length:=by
 unfold hdrP pad headP;rw[List.append_assoc,List.append_assoc,List.drop_left' (by rw[bA]),List.take_append_of_le_length (by rw[bA]; omega),List.take_of_length_le (by rw[bA]; omega),mU];exact Nat.mod_eq_of_lt hb
theorem ZG {L:Nat→List Int}{x n sz g:Nat}{b:List Int}(hz:44≤sz)(hn:1≤n)(hh:L x=hdrP sz b g)(hc : ∀i,i<nch sz b.length→L (x+1+i)=chunk sz b i)(hl : ∀i,i<n-1→(L (x+1+i)).length=sz)(hb:b.length≤(n-1)*sz)(hb2:b.length<2 ^ 32)(hg:1≤g∧g≤4611686018427387904) :
 slotP (slotSL L x n)=some (b,g):=by
 rw[eU hn];have hbl:=jM hl;have htk:=uA (by omega) hc hl;rw[List.take_of_length_le (i:=(n-1)*sz) hb] at htk;unfold slotP;dsimp only[List.headD_cons,List.tail_cons];rw[hh,ZE (by omega),ZF hb2];have e:((List.range (n-1)).map fun i=>L (x+1+i)).flatten=bodyL L x (n-1):=rfl;rw[e,htk,if_pos ⟨hg.1,hg.2,by omega,by rw[cT (by omega)]⟩]
theorem ZH {a b:Option (List Int×Nat)}(ha : ∀x,a=some x→1≤x.2)(hb : ∀x,b=some x→1≤x.2) :
 (if 0<(newestP a b).2.2∧(newestP a b).1=0 then newestP a none else newestP none b)=newestP a b:=by
 cases a with
 | none=>
  cases b with
  | none=>rfl
  | some y=>simp[newestP]
 | some x=>
  have:=ha x rfl;cases b with
  | none=>
   have e:newestP (some x) none=(0,x):=rfl;rw[e,if_pos ⟨by show 0<x.2; omega,rfl⟩]
  | some y=>
   have:=hb y rfl;simp only[newestP];by_cases h:x.2<y.2
   ·simp only[h,if_true];simp
   ·simp only[h,if_false];rw[if_pos ⟨by omega,trivial⟩]
theorem ZI {a b:Option (List Int×Nat)}{z:List Int}(ha : ∀x,a=some x→1≤x.2)(hb : ∀x,b=some x→1≤x.2) :
 (if 0<(newestP a b).2.2∧(newestP a b).1=0 then newestP a (some (z,(newestP a b).2.2+1)) else newestP (some (z,(newestP a b).2.2+1)) b)=(if 0<(newestP a b).2.2∧(newestP a b).1=0 then 1 else 0,z,(newestP a b).2.2+1):=by
 cases a with
 | none=>
  cases b with
  | none=>rfl
  | some y=>
   have:=hb y rfl;simp[newestP];exact if_neg (by show ¬y.2+1<y.2; omega)
 | some x=>
  have:=ha x rfl;cases b with
  | none=>
   have e:newestP (some x) none=(0,x):=rfl;rw[e,if_pos ⟨by show 0<x.2; omega,rfl⟩,if_pos ⟨by show 0<x.2; omega,rfl⟩];simp[newestP]
  | some y=>
   have:=hb y rfl;simp only[newestP];by_cases h:x.2<y.2
   ·simp only[h,if_true];simp
   ·simp only[h,if_false];have hx:0<x.2:=by omega
    simp[hx]
theorem jN {ss:List (List Int)} : ∀x,slotP ss=some x→1≤x.2:=fun _ h=>(eP h).1
theorem ZJ {L0 L:Nat→List Int}{first n z:Nat}(hn:1≤n){A:Nat}(hA:A=first+(openL L0 first n).target*n)(h1 : ∀a,first≤a→a<first+2*n→(a<A∨A+n≤a)→L a=L0 a)(h2:L A=List.replicate z 0) :
 openL L first n=openL L0 first n:=by
 have hk:=ZH (a:=slotP (slotSL L0 first n)) (b:=slotP (slotSL L0 (first+n) n)) jN jN
 have hT:(openL L0 first n).target=if 0<(newestP (slotP (slotSL L0 first n)) (slotP (slotSL L0 (first+n) n))).2.2∧(newestP (slotP (slotSL L0 first n)) (slotP (slotSL L0 (first+n) n))).1=0 then 1 else 0:=rfl
 rw[hT] at hA;unfold openL;by_cases hc:0<(newestP (slotP (slotSL L0 first n)) (slotP (slotSL L0 (first+n) n))).2.2∧(newestP (slotP (slotSL L0 first n)) (slotP (slotSL L0 (first+n) n))).1=0
 ·rw[if_pos hc] at hk hA;have e2:slotP (slotSL L (first+n) n)=none:=by
   rw[eU hn];exact jL (z:=z) (by rw[←h2,hA,Nat.one_mul])
  have e1:slotSL L first n=slotSL L0 first n:=eQ fun a q1 q2=>h1 a q1 (by omega) (.inl (by omega))
  rw[e1,e2,hk]
 ·rw[if_neg hc] at hk hA;have e2:slotP (slotSL L first n)=none:=by
   rw[eU hn];exact jL (z:=z) (by rw[←h2,hA,Nat.zero_mul,Nat.add_zero])
  have e1:slotSL L (first+n) n=slotSL L0 (first+n) n:=eQ fun a q1 q2=>h1 a (by omega) (by omega) (.inr (by omega))
  rw[e1,e2,hk]
theorem ZK {L0 L:Nat→List Int}{first n sz:Nat}(hz:44≤sz)(hn:1≤n){b:List Int}{A:Nat}(hA:A=first+(openL L0 first n).target*n)(h1 : ∀a,first≤a→a<first+2*n→(a<A∨A+n≤a)→L a=L0 a)
 (hh:L A=hdrP sz b ((openL L0 first n).gen+1)) (hc : ∀i,i<nch sz b.length→L (A+1+i)=chunk sz b i) (hl : ∀i,i<n-1→(L (A+1+i)).length=sz) (hb:b.length≤(n-1)*sz) (hb2:b.length<2 ^ 32) (hg:(openL L0 first n).gen<4611686018427387904) :
 openL L first n = {openL L0 first n with slot:=(openL L0 first n).target,newest:=b,gen:=(openL L0 first n).gen+1}:=by
 have hk:=ZI (z:=b) (a:=slotP (slotSL L0 first n)) (b:=slotP (slotSL L0 (first+n) n)) jN jN
 have hs:=ZG hz hn hh hc hl hb hb2 ⟨by omega,by omega⟩;have hT:(openL L0 first n).target=if 0<(newestP (slotP (slotSL L0 first n)) (slotP (slotSL L0 (first+n) n))).2.2∧(newestP (slotP (slotSL L0 first n)) (slotP (slotSL L0 (first+n) n))).1=0 then 1 else 0:=rfl
 have hG:(openL L0 first n).gen=(newestP (slotP (slotSL L0 first n)) (slotP (slotSL L0 (first+n) n))).2.2:=rfl
 rw[hT] at hA ⊢;rw[hG] at hs;show(⟨first,n,_,_,_,false⟩:CS)=⟨first,n,_,_,_,false⟩
 rw[hG];by_cases hc:0<(newestP (slotP (slotSL L0 first n)) (slotP (slotSL L0 (first+n) n))).2.2∧(newestP (slotP (slotSL L0 first n)) (slotP (slotSL L0 (first+n) n))).1=0
 ·rw[if_pos hc,if_pos hc] at hk;rw[if_pos hc] at hA ⊢;have e1:slotSL L first n=slotSL L0 first n:=eQ fun a q1 q2=>h1 a q1 (by omega) (.inl (by omega))
  rw[hA,Nat.one_mul] at hs;rw[e1,hs,hk]
 ·rw[if_neg hc,if_neg hc] at hk;rw[if_neg hc] at hA ⊢;have e1:slotSL L (first+n) n=slotSL L0 (first+n) n:=eQ fun a q1 q2=>h1 a (by omega) (by omega) (.inr (by omega))
  rw[hA,Nat.zero_mul,Nat.add_zero] at hs;rw[e1,hs,hk]
theorem cC {sz len:Nat}(hz:0<sz)(h:len=sz):nch sz len=1:=by
 subst h;unfold nch;rw[Nat.div_eq_of_lt_le] <;> omega
theorem jO {sz:Nat}{x:List Int}(h:x.length=sz):chunk sz x 0=x:=by
 unfold chunk pad;rw[Nat.mul_zero,List.drop_zero,List.take_of_length_le (by omega),h,Nat.sub_self];simp
theorem jP {sz len m:Nat}(hz:0<sz)(h:len≤m*sz):nch sz len≤m:=by
 rcases Nat.lt_or_ge m (nch sz len) with hh | hh
 ·have:=(gL hz).1 hh;rw[Nat.mul_comm] at this;omega
 ·exact hh
theorem mV {d:DS}{L:Nat→List Int}(hL : ∀a,Poss d a (L a))(a:Nat):L a=DurL d a∨(a,L a)∈d.cache:=hL a
structure Live (N sz first n : Nat) (d : DS) (c : CS) : Prop where
 off:d.off=false
 ca:d.cache = []
 len:d.dur.length=N
 size:d.size=sz
 opn:c=openL (DurL d) first n
theorem ZL {N sz first n:Nat}{d:DS}{c:CS}(h:Live N sz first n d c)(hw : ∀a,a<N→(DurL d a).length=sz)(hz:44≤sz)(hn:1≤n)(hN:first+2*n≤N){b:List Int}(hb:b.length≤(n-1)*sz)(hb2:b.length<2 ^ 32)(hg:c.gen<4611686018427387904){A:Nat}(hA:A=first+c.target*n) :
 ((runOps d (saveOps sz A b (c.gen+1))).2=0∧Live N sz first n (runOps d (saveOps sz A b (c.gen+1))).1 {c with slot:=c.target,newest:=b,gen:=c.gen+1}∧(d.cnt=none→(runOps d (saveOps sz A b (c.gen+1))).1.cnt=none)∧
  (∀a,a<N→DurL (runOps d (saveOps sz A b (c.gen+1))).1 a=if a=A then hdrP sz b (c.gen+1) else if A+1≤a∧a<A+1+nch sz b.length then chunk sz b (a-(A+1)) else DurL d a))∨
 ((runOps d (saveOps sz A b (c.gen+1))).2≠0∧(runOps d (saveOps sz A b (c.gen+1))).1.off=true∧d.cnt≠none∧
  ∀L:Nat→List Int,(∀a,Poss (runOps d (saveOps sz A b (c.gen+1))).1 a (L a))→openL L first n=c∨openL L first n = {c with slot:=c.target,newest:=b,gen:=c.gen+1}):=by
 obtain⟨hoff,hca,hlen,hsz,hop⟩:=h;have hz0:0<sz:=by omega
 have hnb:=jP hz0 hb;have ht1:c.target≤1:=by unfold CS.target; split <;> omega
 have htn:c.target*n≤1*n:=Nat.mul_le_mul_right n ht1;have hAN:A+n≤N:=by omega
 have hAN2:A+1+nch sz b.length≤A+n:=by omega
 have hA':A=first+(openL (DurL d) first n).target*n:=by rw[←hop]; exact hA
 have hfirst:c.first=first:=by rw[hop]; rfl
 have kill : ∀L:Nat→List Int,(∀a,a<N→(a<A∨A+n≤a)→L a=DurL d a)→L A=List.replicate sz 0→openL L first n=c:=fun L h1 h2=>by
  rw[ZJ (z:=sz) hn hA' (fun a q1 q2 q3=>h1 a (by omega) q3) h2,←hop]
 have newL : ∀L:Nat→List Int,(∀a,a<N→(a<A∨A+n≤a)→L a=DurL d a)→L A=hdrP sz b (c.gen+1)→(∀i,i<nch sz b.length→L (A+1+i)=chunk sz b i)→(∀i,nch sz b.length≤i→i<n-1→L (A+1+i)=DurL d (A+1+i))→openL L first n = {c with slot:=c.target,newest:=b,gen:=c.gen+1}:=fun L h1 h2 h3 h4=>by
  have:=ZK (b:=b) (sz:=sz) hz hn hA' (fun a q1 q2 q3=>h1 a (by omega) q3) (by rw[←hop]; exact h2) h3 (fun i hi=>by
   by_cases hh:i<nch sz b.length
   ·rw[h3 i hh]; exact mM
   ·rw[h4 i (by omega) hi]; exact hw _ (by omega)) hb hb2 (by rw[←hop]; exact hg)
  rw[this,←hop]
 unfold saveOps;rw[List.append_assoc];rcases mS hz0 (at_:=A) (b:=List.replicate sz 0) hoff hca hsz (by rw[cC hz0 (by simp),hlen]; omega) with ⟨p1,p2,p3,p4,p5,p6,p7⟩ | ⟨p1,p2,p3,p4,p5,p6⟩;rotate_left
 ·rw[gN p1];refine .inr ⟨p1,p2,p5,fun L hL=>.inl ?_⟩;rw[cC hz0 (by simp)] at p6;have hcase : ∀a,L a=DurL d a∨(a=A∧L a=List.replicate sz 0):=fun a=>by
   rcases mV hL a with e | e
   ·left; rw[e]; unfold DurL; rw[p3]
   ·obtain⟨i,hi,e1,e2⟩:=p6 _ _ e;obtain rfl:i=0:=by omega
    rw[jO (by simp)] at e2;exact .inr ⟨by omega,e2⟩
  rcases hcase A with e | ⟨_,e⟩
  ·rw[jK (L':=DurL d) fun a q1 q2=>(hcase a).elim (fun h=>h) fun h=>by rw[h.1]; exact e,←hop]
  ·exact kill L (fun a ha hq=>(hcase a).elim (fun h=>h) fun h=>by omega) e
 rw[gM p1];rw[cC hz0 (by simp)] at p7;generalize (runOps d (putOps sz A (List.replicate sz 0))).1=d1 at *;have v1 : ∀a,a<N→DurL d1 a=if a=A then List.replicate sz 0 else DurL d a:=fun a ha=>by
  rw[p7 a (by omega)];by_cases e:a=A
  ·rw[if_pos ⟨by omega,by omega⟩,if_pos e,e,Nat.sub_self,jO (by simp)]
  ·rw[if_neg (by omega),if_neg e]
 clear p7;rcases mS hz0 (at_:=A+1) (b:=b) p2 p3 p5 (by rw[p4,hlen]; omega) with ⟨q1,q2,q3,q4,q5,q6,q7⟩ | ⟨q1,q2,q3,q4,q5,q6⟩;rotate_left
 ·rw[gN q1];refine .inr ⟨q1,q2,fun hh=>q5 (p6 hh),fun L hL=>.inl ?_⟩;have hcase : ∀a,L a=DurL d1 a∨(A+1≤a∧a<A+n):=fun a=>by
   rcases mV hL a with e | e
   ·left; rw[e]; unfold DurL; rw[q3]
   ·obtain⟨i,hi,e1,e2⟩:=q6 _ _ e;exact .inr (by omega)
  refine kill L (fun a ha hq=>?_) ?_
  ·rcases hcase a with e | e
   ·rw[e,v1 a ha,if_neg (by omega)]
   ·omega
  ·rcases hcase A with e | e
   ·rw[e,v1 A (by omega),if_pos rfl]
   ·omega
 rw[gM q1];generalize (runOps d1 (putOps sz (A+1) b)).1=d2 at *;have v2 : ∀a,a<N→DurL d2 a=if a=A then List.replicate sz 0 else if A+1≤a∧a<A+1+nch sz b.length then chunk sz b (a-(A+1)) else DurL d a:=fun a ha=>by
  rw[q7 a (by rw[p4]; omega)];by_cases e:a=A
  ·rw[if_neg (by omega),v1 a ha,if_pos e,if_pos e]
  ·rw[if_neg e,v1 a ha,if_neg e]
 clear q7;have hhl:(hdrP sz b (c.gen+1)).length=sz:=cT hz;rcases mS hz0 (at_:=A) (b:=hdrP sz b (c.gen+1)) q2 q3 q5 (by rw[cC hz0 hhl,q4,p4,hlen]; omega) with ⟨r1,r2,r3,r4,r5,r6,r7⟩ | ⟨r1,r2,r3,r4,r5,r6⟩;rotate_left
 ·refine .inr ⟨r1,r2,fun hh=>r5 (q6 (p6 hh)),fun L hL=>?_⟩;rw[cC hz0 hhl] at r6;have hcase : ∀a,L a=DurL d2 a∨(a=A∧L a=hdrP sz b (c.gen+1)):=fun a=>by
   rcases mV hL a with e | e
   ·left; rw[e]; unfold DurL; rw[r3]
   ·obtain⟨i,hi,e1,e2⟩:=r6 _ _ e;obtain rfl:i=0:=by omega
    rw[jO hhl] at e2;exact .inr ⟨by omega,e2⟩
  have hout : ∀a,a<N→(a<A∨A+n≤a)→L a=DurL d a:=fun a ha hq=>by
   rcases hcase a with e | e
   ·rw[e,v2 a ha,if_neg (by omega),if_neg (by omega)]
   ·omega
  rcases hcase A with e | ⟨_,e⟩
  ·left;exact kill L hout (by rw[e,v2 A (by omega),if_pos rfl])
  ·right;refine newL L hout e (fun i hi=>?_) fun i hi hi2=>?_
   ·rcases hcase (A+1+i) with e | e
    ·rw[e,v2 _ (by omega),if_neg (by omega),if_pos ⟨by omega,by omega⟩,show A+1+i-(A+1)=i by omega]
    ·omega
   ·rcases hcase (A+1+i) with e | e
    ·rw[e,v2 _ (by omega),if_neg (by omega),if_neg (by omega)]
    ·omega
 rw[cC hz0 hhl] at r7;generalize runOps d2 (putOps sz A (hdrP sz b (c.gen+1)))=r at *;have v3 : ∀a,a<N→DurL r.1 a=if a=A then hdrP sz b (c.gen+1) else if A+1≤a∧a<A+1+nch sz b.length then chunk sz b (a-(A+1)) else DurL d a:=fun a ha=>by
  rw[r7 a (by rw[q4,p4]; omega)];by_cases e:a=A
  ·rw[if_pos ⟨by omega,by omega⟩,if_pos e,e,Nat.sub_self,jO hhl]
  ·rw[if_neg (by omega),v2 a ha,if_neg e,if_neg e]
 refine .inl ⟨r1,⟨r2,r3,by rw[r4,q4,p4,hlen],r5,?_⟩,fun hh=>r6 (q6 (p6 hh)),v3⟩;symm;refine newL _ (fun a ha hq=>?_) ?_ (fun i hi=>?_) fun i hi hi2=>?_
 ·rw[v3 a ha,if_neg (by omega),if_neg (by omega)]
 ·rw[v3 A (by omega),if_pos rfl]
 ·rw[v3 _ (by omega),if_neg (by omega),if_pos ⟨by omega,by omega⟩,show A+1+i-(A+1)=i by omega]
 ·rw[v3 _ (by omega),if_neg (by omega),if_neg (by omega)]
open Go
set_option maxRecDepth 100000
theorem ZM {a b:Option (List Int×Nat)}:newestP a b=(1,[],0)∨(∃x,a=some x∧newestP a b=(0,x))∨(∃x,b=some x∧newestP a b=(1,x)):=by
 cases a with
 | none=>
  cases b with
  | none=>exact .inl rfl
  | some y=>exact .inr (.inr ⟨y,rfl,rfl⟩)
 | some x=>
  cases b with
  | none=>exact .inr (.inl ⟨x,rfl,rfl⟩)
  | some y=>
   simp only[newestP];split
   ·exact .inr (.inr ⟨y,rfl,rfl⟩)
   ·exact .inr (.inl ⟨x,rfl,rfl⟩)
theorem uB {L:Nat→List Int}{x n sz:Nat}(hn:1≤n)(hl : ∀a,x≤a→a<x+n→(L a).length=sz):(slotSL L x n).tail.flatten.length=(n-1)*sz:=by
 rw[eU hn,List.tail_cons];exact jM fun i hi=>hl _ (by omega) (by omega)
theorem ZN {L:Nat→List Int}{first n sz:Nat}(hn:1≤n)(hl : ∀a,first≤a→a<first+2*n→(L a).length=sz) :
 (openL L first n).gen≤4611686018427387904∧(openL L first n).newest.length≤(n-1)*sz∧(openL L first n).slot≤1:=by
 unfold openL;rcases ZM (a:=slotP (slotSL L first n)) (b:=slotP (slotSL L (first+n) n)) with e | ⟨x,h,e⟩ | ⟨x,h,e⟩
 ·rw[e]; exact⟨by show 0≤_; omega,by show 0≤_; omega,by show 1≤1; omega⟩
 ·rw[e];have hp:=eP h;rw[uB hn fun a h1 h2=>hl a (by omega) (by omega)] at hp;exact⟨hp.2.1,hp.2.2.1,by show 0≤1; omega⟩
 ·rw[e];have hp:=eP h;rw[uB hn fun a h1 h2=>hl a (by omega) (by omega)] at hp;exact⟨hp.2.1,hp.2.2.1,by show 1≤1; omega⟩
theorem Live.facts {N sz first n:Nat}{d:DS}{c:CS}(h:Live N sz first n d c)(hn:1≤n)(hN:first+2*n≤N)(hw : ∀a,a<N→(DurL d a).length=sz) :
 c.gen≤4611686018427387904∧c.newest.length≤(n-1)*sz∧c.slot≤1∧c.first=first∧c.n=n∧c.down=false:=by
 have:=ZN (L:=DurL d) (first:=first) (sz:=sz) hn fun a h1 h2=>hw a (by omega)
 rw[←h.opn] at this;exact⟨this.1,this.2.1,this.2.2,by rw[h.opn]; rfl,by rw[h.opn]; rfl,by rw[h.opn]; rfl⟩
theorem WfD.durl {N s i:Nat}{d:DS}(h:WfD N s i d){a:Nat}(ha:a<N):(DurL d a).length=s∧Rng (DurL d a):=by
 have hyd:a<d.dur.length:=by rw[h.sz.dur]; exact ha
 unfold DurL;rw[List.getD_eq_getElem?_getD,List.getElem?_eq_getElem hyd];exact h.dur _ (List.getElem_mem hyd)
theorem ZO {N sz first n i:Nat}{d:DS}{c:CS}(h:Live N sz first n d c)(hw:WfD N sz i d)(hz:44≤sz)(hz2:sz≤4096)(hn:1≤n)(hn2:n≤60000)(hN:first+2*n≤N)(b:List Int) :
 (((n-1)*sz<b.length∨c.gen=4611686018427387904)∧csave (d,c) b=((d,c),6))∨
 (b.length≤(n-1)*sz∧c.gen<4611686018427387904∧(csave (d,c) b).2=0∧Live N sz first n (csave (d,c) b).1.1 (csave (d,c) b).1.2∧(csave (d,c) b).1.2 = {c with slot:=c.target,newest:=b,gen:=c.gen+1}∧(d.cnt=none→(csave (d,c) b).1.1.cnt=none)∧
  (∀a,a<N→DurL (csave (d,c) b).1.1 a=if a=first+c.target*n then hdrP sz b (c.gen+1) else if first+c.target*n+1≤a∧a<first+c.target*n+1+nch sz b.length then chunk sz b (a-(first+c.target*n+1)) else DurL d a))∨
 (b.length≤(n-1)*sz∧c.gen<4611686018427387904∧csave (d,c) b=(((runOps d (saveOps sz (first+c.target*n) b (c.gen+1))).1,{c with down:=true}),8)∧(runOps d (saveOps sz (first+c.target*n) b (c.gen+1))).1.off=true∧d.cnt≠none∧
  ∀L:Nat→List Int,(∀a,Poss (runOps d (saveOps sz (first+c.target*n) b (c.gen+1))).1 a (L a))→openL L first n=c∨openL L first n = {c with slot:=c.target,newest:=b,gen:=c.gen+1}):=by
 obtain⟨f1,f2,f3,f4,f5,f6⟩:=h.facts hn hN fun a ha=>(hw.durl ha).1;have hsz:=h.size;obtain⟨cf,cn,cs,cnew,cg,cd⟩:=c;dsimp only at f1 f2 f3 f4 f5 f6;subst f4 f5 f6;unfold csave;dsimp only;rw[hsz];simp only[Bool.false_eq_true,if_false];by_cases hlim:(cn-1)*sz<b.length∨cg=4611686018427387904
 ·left;rw[if_pos hlim];exact⟨hlim,rfl⟩
 ·right;rw[if_neg hlim];have hb:b.length≤(cn-1)*sz:=by omega
  have hg:cg<4611686018427387904:=by omega
  have hm:(cn-1)*sz≤60000*4096:=Nat.mul_le_mul (by omega) hz2;rcases ZL h (fun a ha=>(hw.durl ha).1) hz hn hN hb (by omega) hg rfl with ⟨s1,s2,s3,s4⟩ | ⟨s1,s2,s3,s4⟩
  ·left;rw[if_pos s1];exact⟨hb,hg,rfl,s2,rfl,s3,s4⟩
  ·right;rw[if_neg s1];exact⟨hb,hg,rfl,s2,s3,s4⟩
theorem uC {N sz i:Nat}{d:DS}{c:CS}(h:WfD N sz i d){b:List Int}(hb:Rng b){k:Nat}(hk : ∀at_ g,(saveOps d.size at_ b g).length≤k):WfD N sz (i+k) (csave (d,c) b).1.1:=by
 have hr : ∀at_ g,WfD N sz (i+k) (runOps d (saveOps d.size at_ b g)).1:=fun at_ g=>(h.ops (tZ hb)).mono (by have:=hk at_ g; omega);unfold csave;dsimp only;split
 ·exact h.mono (by omega)
 ·split
  ·exact h.mono (by omega)
  ·split
   ·exact hr _ _
   ·exact hr _ _
theorem uD {sz at_ g:Nat}{b:List Int}(hz:44≤sz):(saveOps sz at_ b g).length=nch sz b.length+5:=by
 unfold saveOps putOps;simp only[List.length_append,dK,List.length_singleton];rw[cC (by omega) (show(List.replicate sz (0:Int)).length=sz by simp),cC (by omega) (cT hz)];omega
theorem ZP {L:Nat→List Int}{first n z:Nat}(hn:1≤n)(h1:L first=List.replicate z 0)(h2:L (first+n)=List.replicate z 0):openL L first n=⟨first,n,1,[],0,false⟩:=by
 unfold openL;rw[eU hn,eU hn,jL h1,jL h2];rfl
theorem ZQ {N s a:Nat}(ha:a<N):DurL (DS.new N s) a=List.replicate s 0:=by
 unfold DurL DS.new;rw[List.getD_eq_getElem?_getD,List.getElem?_replicate,if_pos ha];rfl
open Go
set_option maxRecDepth 100000
theorem uE {d:DS}{s:Nat}(hs:0<s){f:Nat} : ∀{k:Nat},(∀a,f≤a→a<f+k→(d.content a).length=s)→(secs d f k).length=k*s∧∀p,p<k*s→(secs d f k)[p]? =(d.content (f+p/s))[p%s]?
 | 0,_=>⟨by simp[secs],fun p hp=>by simp at hp⟩
 | k+1,h=>by
  obtain⟨h1,h2⟩:=uE hs (k:=k) fun a h1 h2=>h a h1 (by omega);have h3:=h (f+k) (by omega) (by omega);refine⟨by rw[secs,List.length_append,h1,h3,Nat.add_mul,Nat.one_mul],fun p hp=>?_⟩;rw[secs];by_cases hpk:p<k*s
  ·rw[List.getElem?_append_left (by rw[h1]; exact hpk)];exact h2 p hpk
  ·rw[List.getElem?_append_right (by rw[h1]; omega),h1];rw[Nat.add_mul,Nat.one_mul] at hp;have hq:p/s=k:=by
    refine Nat.div_eq_of_lt_le (by omega) ?_;rw[Nat.add_mul,Nat.one_mul]; omega
   have hm:p%s=p-k*s:=by
    have:=qU (p:=p) hs;rw[hq] at this;omega
   rw[hq,hm]
theorem uF {ls:List (List Int)}{k:Nat}(h:(stream ls).length≤k)(hk:k≤250000) : ∀b,b∈ls→b.length<2 ^ 64:=by
 intro b hb;have:=kU hb;omega
theorem ZR {n f c s:Nat}{d:DS}{ls:List (List Int)}(h:GoodD n f c s d ls)(hd:Dims n f c s)(hlen : ∀a,a<d.dur.length→(d.content a).length=d.size):jopen d f c=(some (jsOf f c s ls),0):=by
 have hs1:=hd.s1;have hfc:=hd.fc;have hc1:=hd.c1;have hct : ∀a,d.content a=DurL d a:=fun a=>fX h.cache;have hhd:headD (d.content f)=some (stream ls).length:=by rw[hct]; exact h.holds.1
 obtain⟨g1,g2⟩:=uE (d:=d) (s:=s) (by omega) (f:=f+1) (k:=c-1) fun a h1 h2=>by
  rw[hlen a (by rw[h.sz.dur]; omega),h.sz.size]
 have htk:(secs d (f+1) (c-1)).take (stream ls).length=stream ls:=by
  apply List.ext_getElem?;intro p;by_cases hp:p<(stream ls).length
  ·rw[List.getElem?_take_of_lt hp,g2 p (Nat.lt_of_lt_of_le hp h.fit),hct];exact h.holds.2 p hp
  ·rw[List.getElem?_eq_none (by rw[List.length_take]; omega),List.getElem?_eq_none (by omega)]
 unfold jopen;rw[if_neg (by rw[h.off]; decide),hhd];dsimp only;rw[h.sz.size,if_neg (by have:=h.fit; omega),htk,pU (uF h.fit hd.area)];rfl
theorem GoodD.spl {n f c s:Nat}{d:DS}{ls:List (List Int)}(h:GoodD n f c s d ls)(hd:Dims n f c s):spl (stream ls)=some ls:=pU (uF h.fit hd.area)
open Go
set_option maxRecDepth 100000
inductive Steps (R : Nat → Prop) (d : DS) : DS → Prop where
 | refl:Steps R d d
 | write {d1:DS} (h:Steps R d d1) (x:Int) (l:List Int) (hx:R x.toNat) (hl:Rng l):Steps R d (d1.write x l).1
 | sync {d1:DS} (h:Steps R d d1):Steps R d d1.sync.1
theorem Steps.trans {R:Nat→Prop}{d d1 d2:DS}(h1:Steps R d d1)(h2:Steps R d1 d2):Steps R d d2:=by
 induction h2 with
 | refl=>exact h1
 | write h x l hx hl ih=>exact ih.write x l hx hl
 | sync h ih=>exact ih.sync
theorem Steps.wf {R:Nat→Prop}{d d':DS}(h:Steps R d d'){n s i:Nat}(hw:WfD n s i d) : ∃k,WfD n s k d':=by
 induction h with
 | refl=>exact⟨i,hw⟩
 | write h x l hx hl ih=>obtain⟨k,hk⟩:=ih; exact⟨k+1,hk.write hl⟩
 | sync h ih=>obtain⟨k,hk⟩:=ih; exact⟨k,hk.sync⟩
theorem gP {d:DS}:d.step.2.dur=d.dur:=by
 unfold DS.step;split
 ·rfl
 ·split <;> rfl
theorem Steps.poss {R:Nat→Prop}{d d':DS}(h:Steps R d d'){a:Nat}(ha : ¬R a){b:List Int}(hb:Poss d' a b):Poss d a b:=by
 induction h with
 | refl=>exact hb
 | @write d1 h x l hx hl ih=>
  apply ih;unfold DS.write at hb;split at hb
  ·split at hb
   ·rcases hb with hb | hb
    ·exact .inl (by rw[hb]; show d1.step.2.dur.getD a []=_; rw[gP])
    ·rcases List.mem_append.1 hb with hb | hb
     ·exact .inr (by rw[d1.step_cache] at hb; exact hb)
     ·simp at hb;exact absurd (hb.1 ▸ hx) ha
   ·rcases hb with hb | hb
    ·exact .inl (by rw[hb,gP])
    ·exact .inr (by rw[d1.step_cache] at hb; exact hb)
  ·exact hb
 | @sync d1 h ih=>
  apply ih;unfold DS.sync at hb;split at hb
  ·rcases hb with hb | hb
   ·rw[hb];have:=qP (ch:=fun _=>true) (dur:=d1.step.2.dur) (a:=a) (c:=d1.step.2.cache) _ rfl;rw[gP,d1.step_cache] at this;unfold Poss;have e:(d1.step.2.settle fun _=>true).dur=settled (fun _=>true) d1.cache d1.dur d1.cache.length:=by
     unfold DS.settle;rw[gP,d1.step_cache]
    rw[e];exact this
   ·cases hb
  ·rcases hb with hb | hb
   ·exact .inl (by rw[hb,gP])
   ·exact .inr (by rw[d1.step_cache] at hb; exact hb)
theorem jQ {d:DS}(h:d.cache = []){a:Nat}{b:List Int}(hb:Poss d a b):b=DurL d a:=by
 rcases hb with hb | hb
 ·exact hb
 ·rw[h] at hb; cases hb
theorem uG {R:Nat→Prop}{z:DS×JS}{x:Int}{b:List Int}(hR:R (((z.2.first:Int)+x).toNat))(hb:Rng b):Steps R z.1 (jwrite z x b).1:=Steps.refl.write _ _ hR hb.pad
theorem mW {R:Nat→Prop}{z:DS×JS}{n:Nat}(hR:R z.2.first):Steps R z.1 (jcommit z n).1:=by
 have h1:Steps R z.1 (jwrite z 0 (headL n)).1:=uG (by rw[Int.add_zero,Int.toNat_natCast]; exact hR) k9;unfold jcommit;split
 ·exact h1
 ·exact h1.sync
theorem uH {R:Nat→Prop}{f c s:Nat}(hR : ∀a,f≤a→a<f+c→R a){next:List Int}(hn:Rng next)(hfit:next.length≤(c-1)*s)(hs:0<s) : ∀{k i:Nat} {z:DS×JS},z.2.first=f→z.1.size=s→Steps R z.1 (jloop next k i z).1
 | 0,_,_,_,_=>.refl
 | k+1,i,z,hf,hz=>by
  rw[jloop];split
  ·rename_i hi;rw[hz] at hi;have hic:i<c-1:=by
    have:i*s<(c-1)*s:=Nat.lt_of_lt_of_le hi hfit;exact Nat.lt_of_mul_lt_mul_right this
   have h1:Steps R z.1 (jwrite z ((1+i:Nat):Int) ((next.drop (i*z.1.size)).take z.1.size)).1:=uG (hR _ (by rw[hf]; omega) (by rw[hf]; omega)) ((hn.drop _).take _)
   split
   ·exact h1
   ·refine h1.trans (uH hR hn hfit hs hf ?_);show(z.1.write _ _).1.size=s;unfold DS.write;split
    ·split
     ·show z.1.step.2.size=s;rw[←hz]; unfold DS.step; split
      ·rfl
      ·split <;> rfl
     ·rw[←hz]; unfold DS.step; split
      ·rfl
      ·split <;> rfl
    ·exact hz
  ·exact .refl
theorem ZS {R:Nat→Prop}{z:DS×JS}(hR:R z.2.first):Steps R z.1 (jreset z).1.1:=by
 unfold jreset;split
 ·exact .refl
 ·split
  ·exact mW (z:=jready z) hR
  ·exact mW (z:=jready z) hR
theorem uI {R:Nat→Prop}{z:DS×JS}:Steps R z.1 (jsync z).1:=Steps.refl.sync
theorem uJ {next:List Int} : ∀{k i:Nat} {z:DS×JS},(jloop next k i z).2.first=z.2.first
 | 0,_,_=>rfl
 | k+1,i,z=>by
  rw[jloop];split
  ·split
   ·rfl
   ·rw[uJ]; rfl
  ·rfl
theorem ZT {R:Nat→Prop}{f c s:Nat}(hR : ∀a,f≤a→a<f+c→R a){z:DS×JS}{recs:List (List Int)}(hn:Rng (z.2.stream ++ stream recs))(har:z.2.area=(c-1)*s)(hle:z.2.stream.length≤z.2.area)(hs:0<s)(hf:z.2.first=f)(hz:z.1.size=s)(hc:0<c):Steps R z.1 (jappend z recs).1.1:=by
 unfold jappend;split
 ·exact .refl
 ·split
  ·exact .refl
  ·split
   ·exact .refl
   ·rename_i hfit;have h1:Steps R z.1 (jloop (z.2.stream ++ stream recs) (z.2.stream ++ stream recs).length (z.2.stream.length/z.1.size) (jready z)).1:=uH (z:=jready z) (f:=f) (c:=c) (s:=s) hR hn (by rw[List.length_append]; omega) hs hf hz;dsimp only;split
    ·exact h1
    ·split
     ·exact h1.trans uI
     ·have h2:=(h1.trans uI).trans (mW (R:=R) (z:=jsync (jloop (z.2.stream ++ stream recs) (z.2.stream ++ stream recs).length (z.2.stream.length/z.1.size) (jready z))) (n:=(z.2.stream ++ stream recs).length) (by
       show R (jloop (z.2.stream ++ stream recs) (z.2.stream ++ stream recs).length (z.2.stream.length/z.1.size) (jready z)).2.first
       rw[uJ];exact hR _ (by show f≤z.2.first; omega) (by show z.2.first<f+c; omega)))
      split
      ·exact h2
      ·exact h2
theorem uK {R:Nat→Prop} : ∀{l:List DOp} {d:DS},(∀x,some x∈l→R x.1∧Rng x.2)→Steps R d (runOps d l).1
 | [],d,_=>.refl
 | o :: r,d,h=>by
  have h1:Steps R d (d.op o).1:=by
   cases o with
   | none=>exact Steps.refl.sync
   | some x=>
    have:=h x List.mem_cons_self;exact Steps.refl.write _ _ (by rw[Int.toNat_natCast]; exact this.1) this.2
  unfold runOps;split
  ·exact h1.trans (uK fun x hx=>h x (List.mem_cons_of_mem _ hx))
  ·exact h1
theorem mX {sz at_:Nat}{b:List Int}{x:Nat×List Int}(h:some x∈putOps sz at_ b):at_≤x.1∧x.1<at_+nch sz b.length:=by
 rcases List.mem_append.1 h with h | h
 ·obtain⟨i,hi,e⟩:=List.mem_map.1 h;have:=List.mem_range.1 hi;injection e with e;rw[←e];exact⟨by omega,by omega⟩
 ·simp at h
theorem ZU {R:Nat→Prop}{d:DS}{sz A n g:Nat}{b:List Int}(hz:44≤sz)(hn:1≤n)(hb:b.length≤(n-1)*sz)(hr:Rng b)(hR : ∀a,A≤a→a<A+n→R a):Steps R d (runOps d (saveOps sz A b g)).1:=by
 have hbn:=jP (sz:=sz) (by omega) hb;refine uK fun x hx=>⟨?_,tZ hr x hx⟩;have h1:nch sz (List.replicate sz (0:Int)).length=1:=cC (by omega) (by simp);have h2:nch sz (hdrP sz b g).length=1:=cC (by omega) (cT hz);rcases List.mem_append.1 hx with hx | hx
 ·rcases List.mem_append.1 hx with hx | hx
  ·have:=mX hx;exact hR _ (by omega) (by omega)
  ·have:=mX hx;exact hR _ (by omega) (by omega)
 ·have:=mX hx;exact hR _ (by omega) (by omega)
theorem ZV {R:Nat→Prop}{s:DS×CS}{b:List Int}(hz:44≤s.1.size)(hn:1≤s.2.n)(ht:s.2.slot≤1)(hr:Rng b)(hR : ∀a,s.2.first≤a→a<s.2.first+2*s.2.n→R a):Steps R s.1 (csave s b).1.1:=by
 unfold csave;split
 ·exact .refl
 ·split
  ·exact .refl
  ·rename_i hfit;have htg:s.2.target*s.2.n≤1*s.2.n:=Nat.mul_le_mul_right _ (by unfold CS.target; split <;> omega);have h1:Steps R s.1 (runOps s.1 (saveOps s.1.size (s.2.first+s.2.target*s.2.n) b (s.2.gen+1))).1:=ZU (n:=s.2.n) hz hn (by omega) hr fun a h1 h2=>hR a (by omega) (by omega);split
   ·exact h1
   ·exact h1
open Go
set_option maxRecDepth 100000
structure LS where
 d:DS
 j:JS
 c:CS
 n:Con
 dn:Bool
structure LW (w : World) (D J : Nat → Prop) (p lb jb cb : Nat) (s : LS) : Prop where
 jw:JW w D J p jb (s.d,s.j)
 cw:CW w D J p cb (s.d,s.c)
 box : ∃cs,Blk w lb (.pointer (some ⟨jb,0,none⟩) :: .pointer (some ⟨cb,0,none⟩) :: (cs ++ [.bool s.dn])) 92∧eN.C w (FF D J) s.n cs
 ll:J lb
 ne:jb≠cb∧lb≠jb∧lb≠cb
structure LT (w w' : World) (D D' J : Nat → Prop) : Prop where
 new : ∀b,D' b→gr D w w' b
 old : ∀b,D b→D' b
 upd:Upd (FF D J) w w'
theorem LT.quiet {w w':World}{D J:Nat→Prop}(hu:Upd NoB w w'):LT w w' D D J:=⟨fun _ h=>.inl h,fun _ h=>h,hu.mono fun _ _ h=>h.elim⟩
theorem LT.refl {w:World}{D J:Nat→Prop}:LT w w D D J:=.quiet Upd.refl
theorem JT.lt {w w':World}{D D' J:Nat→Prop}{jb:Nat}(h:JT w w' D D' jb)(hj:J jb):LT w w' D D' J:=⟨h.new,h.old,h.upd.mono fun b _ h=>h.elim .inl fun e=>.inr (by rw [e]; exact hj)⟩
theorem LT.trans {w w' w'':World}{D D' D'' J:Nat→Prop}(h1:LT w w' D D' J)(h2:LT w' w'' D' D'' J):LT w w'' D D'' J:=by
 have s1:=h1.upd.size;have s2:=h2.upd.size;refine⟨fun b hb=>?_,fun b hb=>h2.old b (h1.old b hb),h1.upd.trans h2.upd fun b hb h=>?_⟩
 ·rcases h2.new b hb with h | h
  ·rcases h1.new b h with h | h
   ·exact .inl h
   ·exact .inr ⟨h.1,by omega⟩
  ·exact .inr ⟨by omega,h.2⟩
 ·rcases h with h | h
  ·rcases h1.new b h with h | h
   ·exact .inl h
   ·omega
  ·exact .inr h
theorem LT.back {w w':World}{D D' J:Nat→Prop}(h:LT w w' D D' J){b:Nat}(hb:b<w.heap.size)(hh:FF D J b∨FF D' J b):FF D J b:=by
 rcases hh with hh | hh | hh
 ·exact hh
 ·rcases h.new b hh with h | h
  ·exact .inl h
  ·omega
 ·exact .inr hh
theorem LT.eN {w w':World}{D D' J:Nat→Prop}(h:LT w w' D D' J){n:Con}{cs:List Value}(hn:eN.C w (FF D J) n cs):eN.C w' (FF D' J) n cs:=aJ.go hn h.upd fun _ hb hh=>h.back hb hh
theorem LT.eB {w w':World}{D D' J:Nat→Prop}(h:LT w w' D D' J){n:Bas}{cs:List Value}(hn:eB.C w (FF D J) n cs):eB.C w' (FF D' J) n cs:=aP.go hn h.upd fun _ hb hh=>h.back hb hh
theorem LT.slD {w w':World}{D D' J:Nat→Prop}(h:LT w w' D D' J){v:Value}{l:List Cmd}(hn:SlD eC w (FF D J) v l):SlD eC w' (FF D' J) v l:=hn.go aA h.upd fun _ hb hh=>h.back hb hh
theorem LW.quiet {w w':World}{D J:Nat→Prop}{p lb jb cb:Nat}{s:LS}(h:LW w D J p lb jb cb s)(hu:Upd NoB w w'):LW w' D J p lb jb cb s:=by
 obtain⟨cs,h1,h2⟩:=h.box;exact⟨h.jw.quiet hu,h.cw.quiet hu,⟨cs,h1.upd hu fun h=>h,aJ.go h2 hu fun _ _ h=>h.elim (fun h=>h.elim) id⟩,h.ll,h.ne⟩
theorem LW.jour {w w':World}{D D' J:Nat→Prop}{p lb jb cb:Nat}{s:LS}(h:LW w D J p lb jb cb s){d':DS}{j':JS}(hj:JW w' D' J p jb (d',j'))(ht:JT w w' D D' jb):LW w' D' J p lb jb cb {s with d:=d',j:=j'}:=by
 obtain⟨cs,h1,h2⟩:=h.box;obtain⟨nv,c1,c2,c3⟩:=h.cw.obj;have hk:=h.cw.k0;have hnb : ∀b,b<w.heap.size→¬D b→¬D' b:=fun b hb hd h'=>(ht.new b h').elim hd fun h=>by omega
 exact⟨hj,⟨hj.disk,⟨nv,c1.upd ht.upd fun hh=>hh.elim (h.jw.sep cb h.cw.jj).1 fun e=>h.ne.1 e.symm,ht.slc h.jw.jj c2,c3⟩,h.cw.jj,hj.sep,h.cw.kt.upd ht.upd fun hh=>hh.elim hk.1 fun e=>hk.2 (by rw[e]; exact h.jw.jj),hnb 1 h.cw.kt.1 hk.1,hk.2⟩,
  ⟨cs,h1.upd ht.upd fun hh=>hh.elim (h.jw.sep lb h.ll).1 h.ne.2.1,(ht.lt h.jw.jj).eN h2⟩,h.ll,h.ne⟩
theorem LW.ckpt {w w':World}{D D' J:Nat→Prop}{p lb jb cb:Nat}{s:LS}(h:LW w D J p lb jb cb s){d':DS}{c':CS}(hj:CW w' D' J p cb (d',c'))(ht:JT w w' D D' cb):LW w' D' J p lb jb cb {s with d:=d',c:=c'}:=by
 obtain⟨cs,h1,h2⟩:=h.box;exact⟨⟨hj.disk,ht.other h.cw.jj h.jw.obj h.ne.1 (h.jw.sep jb h.jw.jj).1,h.jw.jj,hj.sep⟩,hj,⟨cs,h1.upd ht.upd fun hh=>hh.elim (h.jw.sep lb h.ll).1 h.ne.2.2,(ht.lt h.cw.jj).eN h2⟩,h.ll,h.ne⟩
theorem LW.lt {w:World}{D J:Nat→Prop}{p lb jb cb:Nat}{s:LS}(h:LW w D J p lb jb cb s):lb<w.heap.size:=(h.jw.sep lb h.ll).2
theorem LW.own {w w':World}{D J:Nat→Prop}{p lb jb cb:Nat}{s:LS}(h:LW w D J p lb jb cb s)(hu:Upd (fun b=>b=lb) w w'){n:Con}{dn:Bool}{cs:List Value}(hb:Blk w' lb (.pointer (some ⟨jb,0,none⟩) :: .pointer (some ⟨cb,0,none⟩) :: (cs ++ [.bool dn])) 92)(hn:eN.C w' (FF D J) n cs) :
 LW w' D J p lb jb cb {s with n:=n,dn:=dn}:=by
 obtain⟨sv,j1,j2,j3⟩:=h.jw.obj;obtain⟨nv,c1,c2,c3⟩:=h.cw.obj;have hl:=(h.jw.sep lb h.ll).1;have hsep : ∀b,J b→¬D b∧b<w'.heap.size:=fun b hb=>⟨(h.jw.sep b hb).1,Nat.lt_of_lt_of_le (h.jw.sep b hb).2 hu.size⟩;have hd:IsDisk w' D p s.d:=h.jw.disk.upd hu fun b hb e=>hl (by rw[←e]; exact hb);exact⟨⟨hd,⟨sv,j1.upd hu fun e=>h.ne.2.1 e.symm,j2.upd hu fun b e=>.inr (by rw[e]; exact h.ll),j3⟩,h.jw.jj,hsep⟩,
  ⟨hd,⟨nv,c1.upd hu fun e=>h.ne.2.2 e.symm,c2.upd hu fun b e=>.inr (by rw[e]; exact h.ll),c3⟩,h.cw.jj,hsep,h.cw.kt.upd hu fun e=>h.cw.k0.2 (by rw[e]; exact h.ll),h.cw.k0⟩,⟨cs,hb,hn⟩,h.ll,h.ne⟩
theorem LT.own {w w':World}{D J:Nat→Prop}{lb:Nat}(hl:J lb)(hu:Upd (fun b=>b=lb) w w'):LT w w' D D J:=⟨fun _ h=>.inl h,fun _ h=>h,hu.mono fun b _ e=>.inr (by rw [e]; exact hl)⟩
def lfail (s:LS)(e:Int):LS:={s with dn:=s.dn || decide (e≠0)}
theorem mY {w:World}{D J:Nat→Prop}{p lb jb cb:Nat}{s:LS}(h:LW w D J p lb jb cb s){e:Int} :
 Ok (den Tryz.prog 113 #[.pointer (some ⟨lb,0,none⟩),.int .i64 e] w) fun u w'=>u = .int .i64 e∧LW w' D J p lb jb cb (lfail s e)∧LT w w' D D J:=by
 obtain⟨cs,hb,hn⟩:=h.box;obtain⟨xa,xc,sa,sc,ta,tc,rfl,k1,k2,k3⟩:=aQ hn;simp only[List.cons_append,List.nil_append] at hb;refine aB (args:=[.pointer (some ⟨lb,0,none⟩),.int .i64 e]) rs113 Tryz.func113 rfl mixed (by kernel_rfl) OV rfl ?_;by_cases he:e=0
 ·subst he;simp(maxSteps:=3000000)(disch:=omega)only[push_cast,seval];exact⟨by rw[show lfail s 0=s by unfold lfail; simp]; exact h,LT.refl⟩
 ·have hu:Upd (fun b=>b=lb) w (w.setCell ⟨lb,6,none⟩ (.bool true)):=Upd.set (F:=fun b=>b=lb) rfl;have hs:lfail s e = {s with n:=s.n,dn:=true}:=by unfold lfail; simp[he]
  rw[hs];simp(maxSteps:=3000000)(disch:=omega)only[push_cast,seval,he,hb.free,hb.cell];exact⟨h.own hu (cs:=[.slice xa s.n.st.length xc,.slice sa s.n.bas.steps.length sc,.slice ta s.n.bas.taken.length tc,.int .i64 s.n.life]) (hb.set 6 (.bool true)) (aJ.go hn hu fun b _ h'=>h'.elim (fun e=>.inr (by rw[e]; exact h.ll)) id),LT.own h.ll hu⟩
open Go
set_option maxRecDepth 100000
def lsave (s:LS)(n:Con):LS×Int:=
 if (s.c.n-1)*s.d.size<(encCn n).length then (s,7) else
 let r:=csave (s.d,s.c) (encCn n)
 let s1:LS:={s with d:=r.1.1,c:=r.1.2}
 if r.2=0 then
  let q:=jreset (s1.d,s1.j)
  (lfail {s1 with d:=q.1.1,j:=q.1.2} q.2,q.2)
 else if r.2=6 then (s1,7) else (lfail s1 r.2,r.2)
structure LB (N sz i : Nat) (s : LS) : Prop where
 wf:WfD N sz i s.d
 z1:64≤sz
 z2:sz≤4096
 cf:s.c.first≤60000
 c1:1≤s.c.n
 cn:s.c.n≤60000
 cg:s.c.gen≤4611686018427387904
 jf:s.j.first≤100000
 ja:s.j.area≤250000
 js:s.j.stream.length≤s.j.area
theorem ZW {s:DS×CS}{b:List Int}:(csave s b).2=8∨(csave s b).2=6∨(csave s b).2=0:=by
 unfold csave;split
 ·exact .inl rfl
 ·split
  ·exact .inr (.inl rfl)
  ·split
   ·exact .inr (.inr rfl)
   ·exact .inl rfl
set_option maxHeartbeats 4000000 in
theorem uL {w:World}{D J:Nat→Prop}{p lb jb cb:Nat}{s:LS}(h:LW w D J p lb jb cb s){N sz i:Nat}(hb:LB N sz i s)(hi:i≤300000){n':Con}{cs':List Value}(hc:eN.C w (FF D J) n' cs')(hl:(encCn n').length≤1000000) :
 Ok (den Tryz.prog 74 #[.pointer (some ⟨lb,0,none⟩),.agg cs'.toArray] w) fun u w'=>u = .int .i64 (lsave s n').2∧∃D',LW w' D' J p lb jb cb (lsave s n').1∧LT w w' D D' J:=by
 obtain⟨xa,xc,sa,sc,ta,tc,rfl,k1,k2,k3⟩:=aQ hc;have hbd : ∀b,FF D J b→b<w.heap.size:=fun b h'=>h'.elim (fun hd=>by
  obtain⟨_,_,_,_,_,_,hD⟩:=h.jw.disk;exact hD.bd b hd) fun hj=>(h.jw.sep b hj).2
 refine aB (args:=[.pointer (some ⟨lb,0,none⟩),.agg #[.slice xa n'.st.length xc,.slice sa n'.bas.steps.length sc,.slice ta n'.bas.taken.length tc,.int .i64 n'.life]]) rs74 Tryz.func74 rfl mixed (by kernel_rfl) N3 rfl ?_;rw[aD];generalize hKs:KS _ _ _ _ _=Ks;simp(disch:=omega)only[push_cast,seval];have u0:Upd NoB w (w.alloc (.cells [.slice xa n'.st.length xc,.slice sa n'.bas.steps.length sc,.slice ta n'.bas.taken.length tc,.int .i64 n'.life].toArray 90 (0,0))):=Upd.alloc;have b0:=Blk.new (w:=w) (cs:=[.slice xa n'.st.length xc,.slice sa n'.bas.steps.length sc,.slice ta n'.bas.taken.length tc,.int .i64 n'.life]) (E:=90);generalize w.alloc (.cells [.slice xa n'.st.length xc,.slice sa n'.bas.steps.length sc,.slice ta n'.bas.taken.length tc,.int .i64 n'.life].toArray 90 (0,0))=w0 at *;have hc0:eN.C w0 (FF D J) n' _:=(LT.quiet (D:=D) (J:=J) u0).eN hc;subst hKs;rw[aC];simp(maxSteps:=3000000)(disch:=omega)only[push_cast,seval,aI (P:=Tryz.prog) (t:=90) b0 (by kernel_rfl) (by kernel_rfl)];refine Ok.use (rO hc0 (by omega)) ?_;rintro u w1 ⟨q1,f1,u1⟩;obtain⟨ya,yc,rfl,_⟩:=q1.form;have v1:=u0.trans u1 fun _ _ h=>h;have h1:=h.quiet v1;obtain⟨cs1,hb1,hn1⟩:=h1.box;obtain⟨xa',xc',sa',sc',ta',tc',rfl,_⟩:=aQ hn1;simp only[List.cons_append,List.nil_append] at hb1;simp(maxSteps:=3000000)(disch:=omega)only[push_cast,seval,hb1.cell];have hsz:=hb.wf.sz.size;have z1:=hb.z1;have z2:=hb.z2;have hcf:=hb.cf;have hcn:=hb.cn;have hc1:=hb.c1;have hcg:=hb.cg;refine Ok.use (mK h1.cw hb.c1 (by show s.c.n≤100000; omega) (by show s.d.size≤4096; omega)) ?_;rintro u w2 ⟨rfl,u2⟩;have h2:=h1.quiet u2;have v2:=v1.trans u2 fun _ _ h=>h;have hb2:=hb1.upd u2 fun h=>h;have q2:=q1.upd u2 fun _ _ h=>h;obtain⟨m,hm⟩ : ∃m,m=(s.c.n-1)*s.d.size:=⟨_,rfl⟩;have hlt:lsave s n'=if m<(encCn n').length then (s,7) else (let r:=csave (s.d,s.c) (encCn n'); let s1:LS:={s with d:=r.1.1,c:=r.1.2}; if r.2=0 then (let q:=jreset (s1.d,s1.j); (lfail {s1 with d:=q.1.1,j:=q.1.2} q.2,q.2)) else if r.2=6 then (s1,7) else (lfail s1 r.2,r.2)):=by rw[hm]; rfl
 rw[←hm];rw[hlt];by_cases hg:m<(encCn n').length
 ·have hg':(m:Int)<((encCn n').length:Int):=by omega
  rw[if_pos hg];simp(maxSteps:=3000000)(disch:=omega)only[push_cast,seval,hg'];exact⟨D,h2,LT.quiet v2⟩
 have hg' : ¬(m:Int)<((encCn n').length:Int):=by omega
 rw[if_neg hg];clear hlt;simp(maxSteps:=3000000)(disch:=omega)only[push_cast,seval,hg',hb2.cell];refine Ok.use (YT h2.cw hb.wf.sz (by omega) (by omega) hb.z2 hb.cf hb.cn hb.c1 hb.cg (q2.slc fun g hg h'=>by have:=f1 g hg; have:=hbd g h'; have:=u0.size; omega) (iW k3)) ?_;rintro u w3 ⟨rfl,D3,h3',t3⟩;have h3:=h2.ckpt h3' t3;have l3:=(LT.quiet (D:=D) (J:=J) v2).trans (t3.lt h.cw.jj);have hwf:=uC (c:=s.c) hb.wf (iW k3) (k:=70000) fun at_ g=>by
  rw[uD (by omega),hsz];have:=jP (sz:=sz) (len:=(encCn n').length) (m:=s.c.n-1) (by omega) (by rw[←hsz,←hm]; omega);omega
 obtain⟨r,hr⟩ : ∃r,r=csave (s.d,s.c) (encCn n'):=⟨_,rfl⟩;have herr:=ZW (s:=(s.d,s.c)) (b:=encCn n');rw[←hr] at h3 h3' hwf herr ⊢;obtain⟨cs3,hb3,hn3⟩:=h3.box;obtain⟨xa3,xc3,sa3,sc3,ta3,tc3,rfl,_⟩:=aQ hn3;simp only[List.cons_append,List.nil_append] at hb3;obtain⟨r1,r2⟩:=r;dsimp only at h3 h3' hwf herr hb3 hn3 ⊢;rcases herr with rfl | rfl | rfl
 ·simp(maxSteps:=3000000)(disch:=omega)only[push_cast,seval,errV];refine Ok.use (mY h3) ?_;rintro u w4 ⟨rfl,h4,l4⟩;simp(maxSteps:=3000000)(disch:=omega)only[push_cast,seval];exact⟨D3,h4,l3.trans l4⟩
 ·simp(maxSteps:=3000000)(disch:=omega)only[push_cast,seval,errV];exact⟨D3,h3,l3⟩
 ·simp(maxSteps:=3000000)(disch:=omega)only[push_cast,seval,errV,hb3.cell];refine Ok.use (ST h3.jw hwf.sz (by omega) (by omega) hb.z2 hb.jf) ?_;rintro u w4 ⟨rfl,D4,h4',t4⟩;have h4:=h3.jour h4' t4;have l4:=l3.trans (t4.lt h.jw.jj);simp(maxSteps:=3000000)(disch:=omega)only[push_cast,seval];refine Ok.use (mY h4) ?_;rintro u w5 ⟨rfl,h5,l5⟩;simp(maxSteps:=3000000)(disch:=omega)only[push_cast,seval];exact⟨D4,h5,l4.trans l5⟩
end Go.Proofs.YtpgigkceoolgeaaGreatDoor.Fd
