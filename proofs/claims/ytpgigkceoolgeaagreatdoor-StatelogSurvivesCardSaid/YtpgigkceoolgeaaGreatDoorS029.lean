import Derived.Test.YtpgigkceoolgeaaGreatDoorS028
set_option linter.all false
namespace Go.Proofs.YtpgigkceoolgeaaGreatDoor.Fd
open Go
set_option maxRecDepth 100000
def newestP (a b:Option (List Int×Nat)):Nat×List Int×Nat:=
 match a,b with
 | none,none=>(1,[],0)
 | some x,none=>(0,x)
 | none,some y=>(1,y)
 | some x,some y=>if x.2<y.2 then (1,y) else (0,x)
theorem fD {ss:List (List Int)}{x:List Int×Nat}(h:slotP ss=some x):1≤x.2∧x.2≤4611686018427387904∧x.1.length≤ss.tail.flatten.length∧∃k,x.1=ss.tail.flatten.take k:=by
 unfold slotP at h;dsimp only at h;split at h
 ·rename_i hc;cases h;exact⟨hc.1,hc.2.1,by rw[List.length_take]; omega,_,rfl⟩
 ·cases h
def openC (d:DS)(first n:Nat):CS:=
 let r:=newestP (slotP (slotS d first n)) (slotP (slotS d (first+n) n))
 ⟨first,n,r.1,r.2.1,r.2.2,false⟩
def stepC (c:CS)(x:Nat)(r:Option (List Int×Nat)):CS:=
 match r with
 | none=>c
 | some y=>if c.gen<y.2 then {c with slot:=x,newest:=y.1,gen:=y.2} else c
theorem aBF {d:DS}{first n:Nat}:openC d first n=stepC (stepC ⟨first,n,1,[],0,false⟩ 0 (slotP (slotS d (first+0*n) n))) 1 (slotP (slotS d (first+1*n) n)):=by
 unfold openC;rw[Nat.zero_mul,Nat.one_mul,Nat.add_zero];cases ha:slotP (slotS d first n) with
 | none=>
  cases hb:slotP (slotS d (first+n) n) with
  | none=>rfl
  | some y=>
   have:=(fD hb).1;show _=stepC ⟨first,n,1,[],0,false⟩ 1 (some y)
   simp only[newestP,stepC];rw[if_pos (by show 0<y.2; omega)]
 | some x=>
  have hx:=(fD ha).1;have e:stepC ⟨first,n,1,[],0,false⟩ 0 (some x)=⟨first,n,0,x.1,x.2,false⟩:=by
   simp only[stepC];rw[if_pos (by show 0<x.2; omega)]
  rw[e];cases hb:slotP (slotS d (first+n) n) with
  | none=>rfl
  | some y=>
   simp only[newestP,stepC];by_cases h:x.2<y.2
   ·rw[if_pos h,if_pos h]
   ·rw[if_neg h,if_neg h]
theorem CW.set3 {w:World}{D J:Nat→Prop}{p cb:Nat}{s:DS×CS}(h:CW w D J p cb s){nv:Value}{b:List Int}(hb:SlC w (FF D J) nv b)(hr:Rng b)(tg g:Nat) :
 CW (((w.setCell ⟨cb,3,none⟩ (.int .i64 (tg:Int))).setCell ⟨cb,4,none⟩ nv).setCell ⟨cb,5,none⟩ (.int .i64 (g:Int))) D J p cb (s.1,{s.2 with slot:=tg,newest:=b,gen:=g})∧Upd (fun x=>x=cb) w (((w.setCell ⟨cb,3,none⟩ (.int .i64 (tg:Int))).setCell ⟨cb,4,none⟩ nv).setCell ⟨cb,5,none⟩ (.int .i64 (g:Int))):=by
 obtain⟨sv,h1,h2,h3⟩:=h.obj;have q1:Upd (fun x=>x=cb) w (w.setCell ⟨cb,3,none⟩ (.int .i64 (tg:Int))):=Upd.set rfl;have q2:=q1.setIn (a:=⟨cb,4,none⟩) (v:=nv) rfl;have q3:=q2.setIn (a:=⟨cb,5,none⟩) (v:=.int .i64 (g:Int)) rfl;exact⟨(h.set q3 ⟨nv,((h1.set 3 _).set 4 _).set 5 _,hb.upd q3 (fun x e=>.inr (by rw[e]; exact h.jj)),hr⟩).1,q3⟩
theorem aBG (a:Option Addr)(x y z:Int)(w:World):bldS Tryz.prog 100 #[(0,.pointer a),(1,.int .i64 x),(2,.int .i64 y),(3,.int .i64 z)] w=some (.agg #[.pointer a,.int .i64 x,.int .i64 y,.int .i64 z,.slice none 0 0,.int .i64 0,.bool false],w):=by kernel_rfl
attribute [push_cast] aBG
set_option maxHeartbeats 2000000 in
theorem aBH {w:World}(hK:KT w){D:Nat→Prop}{p:Nat}{d:DS}(h:IsDisk w D p d)(hD0 : ¬D 1){N sz i:Nat}(hs:Sz N sz i d)(hi:i≤900000)(hN:N≤100000)(hz:64≤sz)(hz2:sz≤4096){first count:Nat}(hc4:4≤count)(hfc:first+count≤N)(hc6:count≤60000)(hf6:first≤60000)
 (hsec : ∀y,y<N→(d.content y).length=sz∧Rng (d.content y)) :
 Ok (den Tryz.prog 19 #[.pointer (some ⟨p,0,none⟩),.int .i64 (first:Int),.int .i64 (count:Int)] w) fun v w'=>
  (if d.off then v = .tuple #[.pointer none,.int .i64 8] else ∃cb,w.heap.size≤cb∧v = .tuple #[.pointer (some ⟨cb,0,none⟩),.int .i64 0]∧CW w' D (fun b=>b=cb) p cb (d,openC d first (count/2)))∧Upd (fun _=>False) w w':=by
 have hdl:=hs.dur;have hsz:=hs.size;refine aB (args:=[.pointer (some ⟨p,0,none⟩),.int .i64 (first:Int),.int .i64 (count:Int)]) rs19 Tryz.func19 rfl mixed (by kernel_rfl) O7 rfl ?_
 have h1 : ¬(first:Int)<0:=by omega
 have h2 : ¬(count:Int)<4:=by omega
 have h3 : ¬(N:Int)<(count:Int):=by omega
 have h4 : ¬(N:Int)-(count:Int)<(first:Int):=by omega
 have h5 : ¬(sz:Int)<64:=by omega
 simp(maxSteps:=3000000)(disch:=omega)only[push_cast,seval,h1,h2];refine Ok.use (dW h) ?_;rintro v _ ⟨rfl,rfl⟩;rw[hdl];simp(maxSteps:=3000000)(disch:=omega)only[push_cast,seval,h3];refine Ok.use (dW h) ?_;rintro v _ ⟨rfl,rfl⟩;rw[hdl];simp(maxSteps:=3000000)(disch:=omega)only[push_cast,seval,h4];refine Ok.use (bP h) ?_;rintro v _ ⟨rfl,rfl⟩;rw[hsz];simp(maxSteps:=3000000)(disch:=omega)only[push_cast,seval,h5];refine Ok.use (lD h) ?_;rintro v _ ⟨rfl,rfl⟩;cases hoff:d.off
 ·have e2:IntKind.i64.wrap ((count:Int).tdiv 2)=((count/2:Nat):Int):=by
   rw[show(2:Int)=((2:Nat):Int) from rfl,←Int.ofNat_tdiv,IntKind.wrap_i64]; omega
  obtain⟨n,hn⟩ : ∃n,n=count/2:=⟨_,rfl⟩;rw[←hn] at e2 ⊢;simp(maxSteps:=3000000)(disch:=omega)only[push_cast,seval,e2];have hnew:Blk (w.alloc (.cells [.pointer (some ⟨p,0,none⟩),.int .i64 (first:Int),.int .i64 (n:Int),.int .i64 1,.slice none 0 0,.int .i64 0,.bool false].toArray 100 (0,0))) w.heap.size [.pointer (some ⟨p,0,none⟩),.int .i64 (first:Int),.int .i64 (n:Int),.int .i64 1,.slice none 0 0,.int .i64 0,.bool false] 100:=Blk.new
  have hal:Upd (fun _=>False) w (w.alloc (.cells [.pointer (some ⟨p,0,none⟩),.int .i64 (first:Int),.int .i64 (n:Int),.int .i64 1,.slice none 0 0,.int .i64 0,.bool false].toArray 100 (0,0))):=Upd.alloc
  have hsz1:(w.alloc (.cells [.pointer (some ⟨p,0,none⟩),.int .i64 (first:Int),.int .i64 (n:Int),.int .i64 1,.slice none 0 0,.int .i64 0,.bool false].toArray 100 (0,0))).heap.size=w.heap.size+1:=aI
  have hbd:=h.bd;obtain⟨cb,hcb⟩ : ∃cb,cb=w.heap.size:=⟨_,rfl⟩;have hw0:CW (w.alloc (.cells [.pointer (some ⟨p,0,none⟩),.int .i64 (first:Int),.int .i64 (n:Int),.int .i64 1,.slice none 0 0,.int .i64 0,.bool false].toArray 100 (0,0))) D (fun b=>b=cb) p cb (d,⟨first,n,1,[],0,false⟩):=
   ⟨h.upd hal (fun _ _ h=>h),⟨.slice none 0 0,by rw[hcb]; exact hnew,⟨⟨none,0,rfl,fun h=>absurd rfl h⟩,none,0,rfl,Nat.le_refl _⟩,fun x hx=>by cases hx⟩,rfl,fun b hb=>⟨fun hd=>by have:=hbd b hd; omega,by rw[hsz1,hb,hcb]; omega⟩,hK.upd hal (fun h=>h),hD0,fun e=>by have:=hK.1; omega⟩
  rw[←hcb];generalize (w.alloc (.cells [.pointer (some ⟨p,0,none⟩),.int .i64 (first:Int),.int .i64 (n:Int),.int .i64 1,.slice none 0 0,.int .i64 0,.bool false].toArray 100 (0,0)))=w0 at *
  rw[aBF];refine aG (I:=fun k st w'=>Bx (∃t c,k+t=2∧st = [.int .i64 (t:Int)]∧CW w' D (fun b=>b=cb) p cb (d,c)∧c.first=first∧c.n=n∧c.gen≤4611686018427387904∧Upd (fun x=>x=cb) w0 w'∧
   stepC (stepC ⟨first,n,1,[],0,false⟩ 0 (slotP (slotS d (first+0*n) n))) 1 (slotP (slotS d (first+1*n) n))=(if t=0 then stepC (stepC c 0 (slotP (slotS d (first+0*n) n))) 1 (slotP (slotS d (first+1*n) n)) else if t=1 then stepC c 1 (slotP (slotS d (first+1*n) n)) else c)) ⟨⟩) ?_ 2
   ⟨0,_,by omega,rfl,hw0,rfl,rfl,by show 0≤_; omega,Upd.refl,by rw[if_pos rfl]⟩
  rintro k st w1 ⟨t,c,hk,rfl,hw1,hcf,hcn,hcg,hu1,hrest⟩;by_cases hk0:k=0
  ·obtain rfl:t=2:=by omega
   rw[if_neg (by omega),if_neg (by omega)] at hrest;rw[hrest];simp(maxSteps:=3000000)(disch:=omega)only[push_cast,seval];exact⟨⟨cb,by omega,rfl,hw1⟩,hal.trans hu1 fun x hx e=>by omega⟩
  have htle:(t:Int)<2:=by omega
  have hread:=aBE hw1 hs hi (by omega) hz2 (by show c.first≤_; omega) (by show c.n≤_; omega) (by show 1≤c.n; omega) (x:=t) (by omega) (by show c.first+t*c.n+c.n≤N; rw[hcf,hcn]; have:t*n≤1*n:=Nat.mul_le_mul_right n (by omega); omega) hoff hsec;dsimp only at hread;rw[hcf,hcn] at hread;obtain⟨cf,cn,cs,cnew,cg,cd⟩:=c;dsimp only at hcf hcn hcg;subst hcf hcn;obtain⟨sa,sc,hb1,hn1,_⟩:=hw1.at_;dsimp only at hb1;simp(maxSteps:=3000000)(disch:=omega)only[push_cast,seval,htle,hb1.cell];refine Ok.use hread ?_;rintro v w2 ⟨⟨u,g,hd,rfl,hm⟩,hu2⟩;have hw2:=hw1.quiet hu2;have hb2:=hb1.upd hu2 fun h=>h;have hnext:stepC (stepC ⟨cf,cn,1,[],0,false⟩ 0 (slotP (slotS d (cf+0*cn) cn))) 1 (slotP (slotS d (cf+1*cn) cn))=(if t+1=0 then stepC (stepC (stepC ⟨cf,cn,cs,cnew,cg,cd⟩ t (slotP (slotS d (cf+t*cn) cn))) 0 (slotP (slotS d (cf+0*cn) cn))) 1 (slotP (slotS d (cf+1*cn) cn)) else if t+1=1 then stepC (stepC ⟨cf,cn,cs,cnew,cg,cd⟩ t (slotP (slotS d (cf+t*cn) cn))) 1 (slotP (slotS d (cf+1*cn) cn)) else stepC ⟨cf,cn,cs,cnew,cg,cd⟩ t (slotP (slotS d (cf+t*cn) cn))):=by
   rw[hrest];rw[if_neg (show ¬t+1=0 by omega)];have ht:t=0∨t=1:=by omega
   rcases ht with rfl | rfl
   ·rw[if_pos rfl,if_pos rfl]
   ·rw[if_neg (by omega),if_pos rfl,if_neg (by omega)]
  have hu12:Upd (fun x=>x=cb) w0 w2:=hu1.trans (hu2.mono (G:=fun x=>x=cb) fun _ _ h=>h.elim) fun _ _ h=>h;clear hrest hread;generalize hq:slotP (slotS d (cf+t*cn) cn)=q at *;cases q with
  | none=>
   dsimp only at hm;subst hm;simp(maxSteps:=3000000)(disch:=omega)only[push_cast,seval,htle,hb2.cell];exact⟨k-1,by omega,t+1,⟨cf,cn,cs,cnew,cg,cd⟩,by omega,by simp,hw2,rfl,rfl,hcg,hu12,hnext⟩
  | some y=>
   obtain⟨b,g'⟩:=y;dsimp only at hm;obtain⟨rfl,rfl,hsl⟩:=hm;have hpos:=fD hq;have hst:stepC ⟨cf,cn,cs,cnew,cg,cd⟩ t (some (b,g'))=if cg<g' then ⟨cf,cn,t,b,g',cd⟩ else ⟨cf,cn,cs,cnew,cg,cd⟩:=rfl
   rw[hst] at hnext;obtain⟨ua,uc,rfl,_⟩:=id hsl.2;by_cases hgt:cg<g'
   ·rw[if_pos hgt] at hnext;have hgi:(cg:Int)<(g':Int):=by omega
    have hsl2:SlC w2 (FF D fun b=>b=cb) (.slice ua b.length uc) b:=hsl.mono fun q _ hq2=>hq2.elim (fun hd=>hw1.disk.bd q hd) fun e=>(hw1.sep q e).2;have hrb:Rng b:=by
     obtain⟨kk,e⟩:=hpos.2.2.2;dsimp only at e;rw[e];refine Rng.take (fun x hx=>?_) kk;obtain⟨l,hl,hxl⟩:=List.mem_flatten.1 hx;obtain⟨i,hi,rfl⟩:=List.mem_map.1 (List.mem_of_mem_tail hl);have:=List.mem_range.1 hi;have:t*cn≤1*cn:=Nat.mul_le_mul_right cn (by omega);exact(hsec _ (by omega)).2 x hxl
    obtain⟨hw3,hu3⟩:=hw2.set3 hsl2 hrb t g';simp(maxSteps:=3000000)(disch:=omega)only[push_cast,seval,htle,hb2.cell,hb2.free,hgi];exact⟨k-1,by omega,t+1,⟨cf,cn,t,b,g',cd⟩,by omega,by simp,hw3,rfl,rfl,hpos.2.1,hu12.trans hu3 fun _ _ h=>h,hnext⟩
   ·rw[if_neg hgt] at hnext;have hgi : ¬(cg:Int)<(g':Int):=by omega
    simp(maxSteps:=3000000)(disch:=omega)only[push_cast,seval,htle,hb2.cell,hgi];exact⟨k-1,by omega,t+1,⟨cf,cn,cs,cnew,cg,cd⟩,by omega,by simp,hw2,rfl,rfl,hcg,hu12,hnext⟩
 ·simp(maxSteps:=3000000)(disch:=omega)only[push_cast,seval];exact Upd.refl
open Go
set_option maxRecDepth 100000
structure WfD (n s i : Nat) (d : DS) : Prop where
 sz:Sz n s i d
 dur : ∀l,l∈d.dur→l.length=s∧Rng l
 cache : ∀x,x∈d.cache→x.2.length=s∧Rng x.2
theorem WfD.step {n s i:Nat}{d:DS}(h:WfD n s i d):WfD n s i d.step.2:=by
 refine⟨h.sz.step,?_,by rw[d.step_cache]; exact h.cache⟩;unfold DS.step;split
 ·exact h.dur
 ·split <;> exact h.dur
theorem WfD.mono {n s i j:Nat}{d:DS}(h:WfD n s i d)(hij:i≤j):WfD n s j d:=⟨h.sz.mono hij,h.dur,h.cache⟩
theorem WfD.write {n s i:Nat}{d:DS}(h:WfD n s i d){x:Int}{l:List Int}(hl:Rng l):WfD n s (i+1) (d.write x l).1:=by
 have hs:=h.step;refine⟨h.sz.write x l,?_,?_⟩
 ·unfold DS.write;split
  ·split
   ·exact hs.dur
   ·exact hs.dur
  ·exact h.dur
 ·unfold DS.write;split
  ·rename_i hc;split
   ·intro y hy;rcases List.mem_append.1 hy with hy | hy
    ·exact hs.cache y hy
    ·rw[List.mem_singleton] at hy;rw[hy]; exact⟨by rw[←h.sz.size]; exact hc.2.2,hl⟩
   ·exact hs.cache
  ·exact h.cache
theorem hO {s:Nat}{ch:Nat→Bool}{c:List (Nat×List Int)}{dur:List (List Int)}(hd : ∀l,l∈dur→l.length=s∧Rng l)(hc : ∀x,x∈c→x.2.length=s∧Rng x.2) : ∀{i:Nat} l,l∈settled ch c dur i→l.length=s∧Rng l
 | 0,l,h=>hd l h
 | i+1,l,h=>by
  simp only[settled] at h;split at h
  ·rename_i x hx;split at h
   ·rcases List.mem_or_eq_of_mem_set h with h | h
    ·exact hO hd hc l h
    ·rw[h]; exact hc x (List.mem_of_getElem? hx)
   ·exact hO hd hc l h
  ·exact hO hd hc l h
theorem WfD.sync {n s i:Nat}{d:DS}(h:WfD n s i d):WfD n s i d.sync.1:=by
 refine⟨h.sz.sync,?_,?_⟩
 ·unfold DS.sync;split
  ·exact fun l hl=>hO h.step.dur h.step.cache l hl
  ·exact h.step.dur
 ·unfold DS.sync;split
  ·exact fun x hx=>by cases hx
  ·exact h.step.cache
theorem WfD.crash {n s i:Nat}{d:DS}(h:WfD n s i d)(keep:List Bool):WfD n s 0 (d.crash keep):=
 ⟨h.sz.crash keep,fun l hl=>hO h.dur h.cache l hl,fun x hx=>by cases hx⟩
theorem WfD.fail {n s i:Nat}{d:DS}(h:WfD n s i d){k:Int}(hk:k<9223372036854775808):WfD n s i (d.fail k):=by
 refine⟨h.sz.fail hk,?_,?_⟩
 ·unfold DS.fail;split <;> exact h.dur
 ·unfold DS.fail;split <;> exact h.cache
theorem WfD.new {n s:Nat}:WfD n s 0 (DS.new n s):=⟨Sz.new,fun l hl=>by rw [List.eq_of_mem_replicate hl]; exact ⟨by simp,Rng.zeros⟩,fun x hx=>by cases hx⟩
theorem WfD.content {n s i:Nat}{d:DS}(h:WfD n s i d){y:Nat}(hy:y<n):(d.content y).length=s∧Rng (d.content y):=by
 unfold DS.content;cases hl:lastOf d.cache y with
 | none=>
  have hyd:y<d.dur.length:=by rw[h.sz.dur]; exact hy
  show(d.dur.getD y []).length=s∧Rng (d.dur.getD y []);rw[List.getD_eq_getElem?_getD,List.getElem?_eq_getElem hyd];exact h.dur _ (List.getElem_mem hyd)
 | some l=>exact h.cache _ (iU hl)
theorem WfD.op {n s i:Nat}{d:DS}(h:WfD n s i d){o:DOp}(ho : ∀x,o=some x→Rng x.2):WfD n s (i+1) (d.op o).1:=by
 cases o with
 | none=>exact h.sync.mono (by omega)
 | some x=>exact h.write (ho x rfl)
theorem WfD.ops {n s:Nat} : ∀{l:List DOp} {i:Nat} {d:DS},WfD n s i d→(∀x,some x∈l→Rng x.2)→WfD n s (i+l.length) (runOps d l).1
 | [],i,d,h,_=>h
 | o :: r,i,d,h,ho=>by
  have h1:=h.op (o:=o) fun x hx=>ho x (by rw[←hx]; exact List.mem_cons_self);unfold runOps;split
  ·exact(WfD.ops (l:=r) h1 fun x hx=>ho x (List.mem_cons_of_mem _ hx)).mono (by simp; omega)
  ·exact h1.mono (by simp)
theorem aBI {sz i:Nat}{b:List Int}(h:Rng b):Rng (chunk sz b i):=vC ((h.drop _).take _)
theorem nN {sz at_:Nat}{b:List Int}(h:Rng b) : ∀x,some x∈putOps sz at_ b→Rng x.2:=by
 intro x hx;rcases List.mem_append.1 hx with hx | hx
 ·obtain⟨i,_,e⟩:=List.mem_map.1 hx;cases e;exact aBI h
 ·simp at hx
theorem vH {sz at_ g:Nat}{b:List Int}(h:Rng b) : ∀x,some x∈saveOps sz at_ b g→Rng x.2:=by
 intro x hx;rcases List.mem_append.1 hx with hx | hx
 ·rcases List.mem_append.1 hx with hx | hx
  ·exact nN Rng.zeros x hx
  ·exact nN h x hx
 ·exact nN vD x hx
theorem nO {sz:Nat}(hz:0<sz){at_:Nat}{b:List Int}{d:DS}(hoff:d.off=false)(hca:d.cache = [])(hsz:d.size=sz)(hN:at_+nch sz b.length≤d.dur.length) :
 ((runOps d (putOps sz at_ b)).2=0∧(runOps d (putOps sz at_ b)).1.off=false∧(runOps d (putOps sz at_ b)).1.cache = []∧(runOps d (putOps sz at_ b)).1.dur.length=d.dur.length∧(runOps d (putOps sz at_ b)).1.size=sz∧(d.cnt=none→(runOps d (putOps sz at_ b)).1.cnt=none)∧
  (∀a,a<d.dur.length→DurL (runOps d (putOps sz at_ b)).1 a=if at_≤a∧a<at_+nch sz b.length then chunk sz b (a-at_) else DurL d a))∨
 ((runOps d (putOps sz at_ b)).2≠0∧(runOps d (putOps sz at_ b)).1.off=true∧(runOps d (putOps sz at_ b)).1.dur=d.dur∧(runOps d (putOps sz at_ b)).1.size=sz∧d.cnt≠none∧
  (∀a x,(a,x)∈(runOps d (putOps sz at_ b)).1.cache→∃i,i<nch sz b.length∧a=at_+i∧x=chunk sz b i)):=by
 have key : ∀k t (d':DS),k+t=nch sz b.length→d'.off=false→d'.dur=d.dur→d'.size=sz→(d.cnt=none→d'.cnt=none)→d'.cache=(List.range t).map (fun i=>(at_+i,chunk sz b i))→
  (((runOps d' ((chL sz b at_).drop t ++ [none])).2=0∧(runOps d' ((chL sz b at_).drop t ++ [none])).1.off=false∧(runOps d' ((chL sz b at_).drop t ++ [none])).1.cache = []∧(runOps d' ((chL sz b at_).drop t ++ [none])).1.dur.length=d.dur.length∧(runOps d' ((chL sz b at_).drop t ++ [none])).1.size=sz∧(d.cnt=none→(runOps d' ((chL sz b at_).drop t ++ [none])).1.cnt=none)∧
   (∀a,a<d.dur.length→DurL (runOps d' ((chL sz b at_).drop t ++ [none])).1 a=if at_≤a∧a<at_+nch sz b.length then chunk sz b (a-at_) else DurL d a))∨
  ((runOps d' ((chL sz b at_).drop t ++ [none])).2≠0∧(runOps d' ((chL sz b at_).drop t ++ [none])).1.off=true∧(runOps d' ((chL sz b at_).drop t ++ [none])).1.dur=d.dur∧(runOps d' ((chL sz b at_).drop t ++ [none])).1.size=sz∧d.cnt≠none∧
   (∀a x,(a,x)∈(runOps d' ((chL sz b at_).drop t ++ [none])).1.cache→∃i,i<nch sz b.length∧a=at_+i∧x=chunk sz b i))):=by
  intro k;induction k with
  | zero=>
   intro t d' hk h1 h2 h3 h4 h5;have ht:t=nch sz b.length:=by omega
   rw[List.drop_of_length_le (by rw[dQ]; omega),List.nil_append];have hop:d'.op none=d'.sync:=rfl;have hmem : ∀a x,(a,x)∈d'.cache→∃i,i<nch sz b.length∧a=at_+i∧x=chunk sz b i:=by
    intro a x hx;rw[h5] at hx;obtain⟨i,hi,e⟩:=List.mem_map.1 hx;cases e;exact⟨i,by rw[←ht]; exact List.mem_range.1 hi,rfl,rfl⟩
   rcases lV d' h1 with ⟨s1,s2,s3,s4,s5,s6,s7⟩ | ⟨s1,s2,s3,s4,s5,s6⟩
   ·rw[fB (by rw[hop]; exact s1),hop];refine .inl ⟨rfl,s2,s5,by show d'.sync.1.dur.length=_; rw[s4,h2],s6.trans h3,fun h=>s7 (h4 h),fun a ha=>?_⟩;show d'.sync.1.dur.getD a []=_;rw[s3 a (by rw[h2]; exact ha)];by_cases hr:at_≤a∧a<at_+nch sz b.length
    ·rw[if_pos hr];have : ∀m,m≤nch sz b.length→a-at_<m→lastOf ((List.range m).map (fun i=>(at_+i,chunk sz b i))) a=some (chunk sz b (a-at_)):=by
      intro m;induction m with
      | zero=>intro _ h; omega
      | succ m ih=>
       intro hm hlt;rw[List.range_succ,List.map_append,List.map_singleton,lS];by_cases e:at_+m=a
       ·rw[if_pos e,show a-at_=m by omega]
       ·rw[if_neg e]; exact ih (by omega) (by omega)
     unfold DS.content;rw[h5,this t (by omega) (by omega)];rfl
    ·rw[if_neg hr,sI fun x hx=>by
      obtain⟨i,hi,e,_⟩:=hmem a x hx;omega,h2]
     rfl
   ·rw[fC (by rw[hop,s1]; decide),hop];refine .inr ⟨by rw[s1]; decide,s2,s3.trans h2,s5.trans h3,fun h=>s6 (h4 h),?_⟩;rw[s4];exact hmem
  | succ k ih=>
   intro t d' hk h1 h2 h3 h4 h5;rw[vF (by omega),List.cons_append];have hop:d'.op (some (at_+t,chunk sz b t))=d'.write ((at_+t:Nat):Int) (chunk sz b t):=rfl;rcases lU d' h1 (x:=at_+t) (l:=chunk sz b t) (by rw[h2]; omega) (by rw[h3,nI]) with ⟨s1,s2,s3,s4,s5,s6⟩ | ⟨s1,s2,s3,s4,s5,s6⟩
   ·rw[fB (by rw[hop]; exact s1),hop];refine ih (t+1) _ (by omega) s2 (s3.trans h2) (s5.trans h3) (fun h=>s6 (h4 h)) ?_;rw[s4,h5,List.range_succ,List.map_append];rfl
   ·rw[fC (by rw[hop,s1]; decide),hop];refine .inr ⟨by rw[s1]; decide,s2,s3.trans h2,s5.trans h3,fun h=>s6 (h4 h),?_⟩;rw[s4,h5];intro a x hx;obtain⟨i,hi,e⟩:=List.mem_map.1 hx;cases e;have:=List.mem_range.1 hi;exact⟨i,by omega,rfl,rfl⟩
 have:=key (nch sz b.length) 0 d (by omega) hoff rfl hsz (fun h=>h) (by rw[hca]; rfl);rw[List.drop_zero] at this;exact this
open Go
set_option maxRecDepth 100000
attribute [push_cast] sL
open Go
set_option maxRecDepth 100000
theorem nP : ∀{l:List Int} {a:Nat},l.foldl (fun n x=>n*256+x.toNat) a=a*256 ^ l.length+numL l
 | [],a=>by simp[numL]
 | x :: l,a=>by
  have h1:=nP (l:=l) (a:=a*256+x.toNat);have h2:=nP (l:=l) (a:=x.toNat);have e:numL (x :: l)=l.foldl (fun n x=>n*256+x.toNat) x.toNat:=by simp[numL]
  rw[List.foldl_cons,h1,e,h2,List.length_cons,Nat.pow_succ,Nat.add_mul,Nat.mul_assoc,Nat.mul_comm 256];omega
theorem vI {x:Int}{l:List Int}:numL (x :: l)=x.toNat*256 ^ l.length+numL l:=by
 have e:numL (x :: l)=l.foldl (fun n x=>n*256+x.toNat) x.toNat:=by simp[numL]
 rw[e,nP]
theorem nQ {n:Nat} : ∀{k:Nat},numL (beL k n)=n%256 ^ k
 | 0=>by simp[beL,numL,Nat.mod_one]
 | k+1=>by
  rw[beL,vI,nQ (k:=k),bG,Int.toNat_natCast,Nat.pow_succ,Nat.mod_mul,Nat.mul_comm];omega
theorem aBJ {n:Nat}:numL (List.replicate n 0)=0:=by
 induction n with
 | zero=>rfl
 | succ n ih=>rw[List.replicate_succ,vI,ih]; simp
def slotSL (L:Nat→List Int)(x n:Nat):List (List Int):=(List.range n).map fun i=>L (x+i)
def openL (L:Nat→List Int)(first n:Nat):CS:=
 let r:=newestP (slotP (slotSL L first n)) (slotP (slotSL L (first+n) n))
 ⟨first,n,r.1,r.2.1,r.2.2,false⟩
theorem aBK {d:DS}{first n:Nat}:openC d first n=openL d.content first n:=rfl
theorem fE {L L':Nat→List Int}{x n:Nat}(h : ∀a,x≤a→a<x+n→L a=L' a):slotSL L x n=slotSL L' x n:=by
 apply List.map_congr_left;intro i hi;have:=List.mem_range.1 hi;exact h _ (by omega) (by omega)
theorem jV {L L':Nat→List Int}{first n:Nat}(h : ∀a,first≤a→a<first+2*n→L a=L' a):openL L first n=openL L' first n:=by
 unfold openL;rw[fE (L:=L) (L':=L') (x:=first) fun a h1 h2=>h a h1 (by omega),fE (L:=L) (L':=L') (x:=first+n) fun a h1 h2=>h a (by omega) (by omega)]
theorem fF {L:Nat→List Int}{x n:Nat}(h:1≤n):slotSL L x n=L x :: (List.range (n-1)).map fun i=>L (x+1+i):=by
 obtain⟨m,rfl⟩ : ∃m,n=m+1:=⟨n-1,by omega⟩;rw[slotSL,List.range_succ_eq_map,Nat.add_sub_cancel];simp only[List.map_cons,List.map_map,Nat.add_zero,List.cons.injEq,true_and];apply List.map_congr_left;intro i _;show L (x+(i+1))=_;rw[show x+(i+1)=x+1+i by omega]
theorem jW {h:List Int}{r:List (List Int)}{z:Nat}(hz:h=List.replicate z 0):slotP (h :: r)=none:=by
 unfold slotP;dsimp only;rw[if_neg];rintro⟨h1,_⟩;rw[List.headD_cons,hz,List.take_replicate,aBJ] at h1;omega
def bodyL (L:Nat→List Int)(x t:Nat):List Int:=((List.range t).map fun i=>L (x+1+i)).flatten
theorem vJ {L:Nat→List Int}{x t:Nat}:bodyL L x (t+1)=bodyL L x t ++ L (x+1+t):=by simp [bodyL,List.range_succ]
theorem jX {L:Nat→List Int}{x sz:Nat} : ∀{t:Nat},(∀i,i<t→(L (x+1+i)).length=sz)→(bodyL L x t).length=t*sz
 | 0,_=>by simp[bodyL]
 | t+1,h=>by rw[vJ,List.length_append,jX (t:=t) fun i hi=>h i (by omega),h t (by omega),Nat.succ_mul]
theorem vK {L:Nat→List Int}{x sz:Nat}(hz:0<sz){b:List Int}(hc : ∀i,i<nch sz b.length→L (x+1+i)=chunk sz b i) : ∀{t:Nat},(∀i,i<t→(L (x+1+i)).length=sz)→(bodyL L x t).take b.length=b.take (t*sz)
 | 0,_=>by simp[bodyL]
 | t+1,h=>by
  have hl:=jX (L:=L) (x:=x) (sz:=sz) (t:=t) fun i hi=>h i (by omega);have ih:=vK (t:=t) hz hc fun i hi=>h i (by omega);rw[vJ,List.take_append,hl,ih,Nat.succ_mul,List.take_add];congr 1;by_cases ht:t<nch sz b.length
  ·have hlt:=(gX hz).1 ht;rw[Nat.mul_comm] at hlt;rw[hc t ht,chunk,pad,Nat.mul_comm sz t];have hl2:((b.drop (t*sz)).take sz).length=min sz (b.length-t*sz):=by rw[List.length_take,List.length_drop]
   by_cases hs:sz≤b.length-t*sz
   ·rw[show sz-((b.drop (t*sz)).take sz).length=0 by omega];simp only[List.replicate_zero,List.append_nil];rw[List.take_of_length_le (by omega)]
   ·rw[List.take_append_of_le_length (by omega),List.take_of_length_le (by omega)]
  ·have hge : ¬sz*t<b.length:=fun hh=>ht ((gX hz).2 hh);rw[Nat.mul_comm] at hge;rw[show b.length-t*sz=0 by omega,List.take_zero,List.drop_of_length_le (by omega),List.take_nil]
theorem aBL {sz g:Nat}{b:List Int}(hg:g<2 ^ 64):numL ((hdrP sz b g).take 8)=g:=by
 unfold hdrP pad headP;rw[List.append_assoc,List.append_assoc,List.take_append_of_le_length (by rw[bG]; omega),List.take_of_length_le (by rw[bG]; omega),nQ];exact Nat.mod_eq_of_lt hg
theorem aBM {sz g:Nat}{b:List Int}(hb:b.length<2 ^ 32):numL (((hdrP sz b g).drop 8).take 4)=b.length:=by
 unfold hdrP pad headP;rw[List.append_assoc,List.append_assoc,List.drop_left' (by rw[bG]),List.take_append_of_le_length (by rw[bG]; omega),List.take_of_length_le (by rw[bG]; omega),nQ];exact Nat.mod_eq_of_lt hb
theorem aBN {L:Nat→List Int}{x n sz g:Nat}{b:List Int}(hz:44≤sz)(hn:1≤n)(hh:L x=hdrP sz b g)(hc : ∀i,i<nch sz b.length→L (x+1+i)=chunk sz b i)(hl : ∀i,i<n-1→(L (x+1+i)).length=sz)(hb:b.length≤(n-1)*sz)(hb2:b.length<2 ^ 32)(hg:1≤g∧g≤4611686018427387904) :
 slotP (slotSL L x n)=some (b,g):=by
 rw[fF hn];have hbl:=jX hl;have htk:=vK (by omega) hc hl;rw[List.take_of_length_le (i:=(n-1)*sz) hb] at htk;unfold slotP;dsimp only[List.headD_cons,List.tail_cons];rw[hh,aBL (by omega),aBM hb2];have e:((List.range (n-1)).map fun i=>L (x+1+i)).flatten=bodyL L x (n-1):=rfl;rw[e,htk,if_pos ⟨hg.1,hg.2,by omega,by rw[dC (by omega)]⟩]
theorem aBO {a b:Option (List Int×Nat)}(ha : ∀x,a=some x→1≤x.2)(hb : ∀x,b=some x→1≤x.2) :
 (if 0<(newestP a b).2.2∧(newestP a b).1=0 then newestP a none else newestP none b)=newestP a b:=by
 cases a with
 | none=>
  cases b with
  | none=>rfl
  | some y=>simp[newestP]
 | some x=>
  have:=ha x rfl;cases b with
  | none=>
   have e:newestP (some x) none=(0,x):=rfl;rw[e,if_pos ⟨by show 0<x.2; omega,rfl⟩]
  | some y=>
   have:=hb y rfl;simp only[newestP];by_cases h:x.2<y.2
   ·simp only[h,if_true];simp
   ·simp only[h,if_false];rw[if_pos ⟨by omega,trivial⟩]
theorem aBP {a b:Option (List Int×Nat)}{z:List Int}(ha : ∀x,a=some x→1≤x.2)(hb : ∀x,b=some x→1≤x.2) :
 (if 0<(newestP a b).2.2∧(newestP a b).1=0 then newestP a (some (z,(newestP a b).2.2+1)) else newestP (some (z,(newestP a b).2.2+1)) b)=(if 0<(newestP a b).2.2∧(newestP a b).1=0 then 1 else 0,z,(newestP a b).2.2+1):=by
 cases a with
 | none=>
  cases b with
  | none=>rfl
  | some y=>
   have:=hb y rfl;simp[newestP];exact if_neg (by show ¬y.2+1<y.2; omega)
 | some x=>
  have:=ha x rfl;cases b with
  | none=>
   have e:newestP (some x) none=(0,x):=rfl;rw[e,if_pos ⟨by show 0<x.2; omega,rfl⟩,if_pos ⟨by show 0<x.2; omega,rfl⟩];simp[newestP]
  | some y=>
   have:=hb y rfl;simp only[newestP];by_cases h:x.2<y.2
   ·simp only[h,if_true];simp
   ·simp only[h,if_false];have hx:0<x.2:=by omega
    simp[hx]
theorem jY {ss:List (List Int)} : ∀x,slotP ss=some x→1≤x.2:=fun _ h=>(fD h).1
theorem aBQ {L0 L:Nat→List Int}{first n z:Nat}(hn:1≤n){A:Nat}(hA:A=first+(openL L0 first n).target*n)(h1 : ∀a,first≤a→a<first+2*n→(a<A∨A+n≤a)→L a=L0 a)(h2:L A=List.replicate z 0) :
 openL L first n=openL L0 first n:=by
 have hk:=aBO (a:=slotP (slotSL L0 first n)) (b:=slotP (slotSL L0 (first+n) n)) jY jY
 have hT:(openL L0 first n).target=if 0<(newestP (slotP (slotSL L0 first n)) (slotP (slotSL L0 (first+n) n))).2.2∧(newestP (slotP (slotSL L0 first n)) (slotP (slotSL L0 (first+n) n))).1=0 then 1 else 0:=rfl
 rw[hT] at hA;unfold openL;by_cases hc:0<(newestP (slotP (slotSL L0 first n)) (slotP (slotSL L0 (first+n) n))).2.2∧(newestP (slotP (slotSL L0 first n)) (slotP (slotSL L0 (first+n) n))).1=0
 ·rw[if_pos hc] at hk hA;have e2:slotP (slotSL L (first+n) n)=none:=by
   rw[fF hn];exact jW (z:=z) (by rw[←h2,hA,Nat.one_mul])
  have e1:slotSL L first n=slotSL L0 first n:=fE fun a q1 q2=>h1 a q1 (by omega) (.inl (by omega))
  rw[e1,e2,hk]
 ·rw[if_neg hc] at hk hA;have e2:slotP (slotSL L first n)=none:=by
   rw[fF hn];exact jW (z:=z) (by rw[←h2,hA,Nat.zero_mul,Nat.add_zero])
  have e1:slotSL L (first+n) n=slotSL L0 (first+n) n:=fE fun a q1 q2=>h1 a (by omega) (by omega) (.inr (by omega))
  rw[e1,e2,hk]
theorem aBR {L0 L:Nat→List Int}{first n sz:Nat}(hz:44≤sz)(hn:1≤n){b:List Int}{A:Nat}(hA:A=first+(openL L0 first n).target*n)(h1 : ∀a,first≤a→a<first+2*n→(a<A∨A+n≤a)→L a=L0 a)
 (hh:L A=hdrP sz b ((openL L0 first n).gen+1)) (hc : ∀i,i<nch sz b.length→L (A+1+i)=chunk sz b i) (hl : ∀i,i<n-1→(L (A+1+i)).length=sz) (hb:b.length≤(n-1)*sz) (hb2:b.length<2 ^ 32) (hg:(openL L0 first n).gen<4611686018427387904) :
 openL L first n = {openL L0 first n with slot:=(openL L0 first n).target,newest:=b,gen:=(openL L0 first n).gen+1}:=by
 have hk:=aBP (z:=b) (a:=slotP (slotSL L0 first n)) (b:=slotP (slotSL L0 (first+n) n)) jY jY
 have hs:=aBN hz hn hh hc hl hb hb2 ⟨by omega,by omega⟩;have hT:(openL L0 first n).target=if 0<(newestP (slotP (slotSL L0 first n)) (slotP (slotSL L0 (first+n) n))).2.2∧(newestP (slotP (slotSL L0 first n)) (slotP (slotSL L0 (first+n) n))).1=0 then 1 else 0:=rfl
 have hG:(openL L0 first n).gen=(newestP (slotP (slotSL L0 first n)) (slotP (slotSL L0 (first+n) n))).2.2:=rfl
 rw[hT] at hA ⊢;rw[hG] at hs;show(⟨first,n,_,_,_,false⟩:CS)=⟨first,n,_,_,_,false⟩
 rw[hG];by_cases hc:0<(newestP (slotP (slotSL L0 first n)) (slotP (slotSL L0 (first+n) n))).2.2∧(newestP (slotP (slotSL L0 first n)) (slotP (slotSL L0 (first+n) n))).1=0
 ·rw[if_pos hc,if_pos hc] at hk;rw[if_pos hc] at hA ⊢;have e1:slotSL L first n=slotSL L0 first n:=fE fun a q1 q2=>h1 a q1 (by omega) (.inl (by omega))
  rw[hA,Nat.one_mul] at hs;rw[e1,hs,hk]
 ·rw[if_neg hc,if_neg hc] at hk;rw[if_neg hc] at hA ⊢;have e1:slotSL L (first+n) n=slotSL L0 (first+n) n:=fE fun a q1 q2=>h1 a (by omega) (by omega) (.inr (by omega))
  rw[hA,Nat.zero_mul,Nat.add_zero] at hs;rw[e1,hs,hk]
theorem cM {sz len:Nat}(hz:0<sz)(h:len=sz):nch sz len=1:=by
 subst h;unfold nch;rw[Nat.div_eq_of_lt_le] <;> omega
theorem jZ {sz:Nat}{x:List Int}(h:x.length=sz):chunk sz x 0=x:=by
 unfold chunk pad;rw[Nat.mul_zero,List.drop_zero,List.take_of_length_le (by omega),h,Nat.sub_self];simp
theorem j8 {sz len m:Nat}(hz:0<sz)(h:len≤m*sz):nch sz len≤m:=by
 rcases Nat.lt_or_ge m (nch sz len) with hh | hh
 ·have:=(gX hz).1 hh;rw[Nat.mul_comm] at this;omega
 ·exact hh
theorem nR {d:DS}{L:Nat→List Int}(hL : ∀a,Poss d a (L a))(a:Nat):L a=DurL d a∨(a,L a)∈d.cache:=hL a
structure Live (N sz first n : Nat) (d : DS) (c : CS) : Prop where
 off:d.off=false
 ca:d.cache = []
 len:d.dur.length=N
 size:d.size=sz
 opn:c=openL (DurL d) first n
theorem aBS {N sz first n:Nat}{d:DS}{c:CS}(h:Live N sz first n d c)(hw : ∀a,a<N→(DurL d a).length=sz)(hz:44≤sz)(hn:1≤n)(hN:first+2*n≤N){b:List Int}(hb:b.length≤(n-1)*sz)(hb2:b.length<2 ^ 32)(hg:c.gen<4611686018427387904){A:Nat}(hA:A=first+c.target*n) :
 ((runOps d (saveOps sz A b (c.gen+1))).2=0∧Live N sz first n (runOps d (saveOps sz A b (c.gen+1))).1 {c with slot:=c.target,newest:=b,gen:=c.gen+1}∧(d.cnt=none→(runOps d (saveOps sz A b (c.gen+1))).1.cnt=none)∧
  (∀a,a<N→DurL (runOps d (saveOps sz A b (c.gen+1))).1 a=if a=A then hdrP sz b (c.gen+1) else if A+1≤a∧a<A+1+nch sz b.length then chunk sz b (a-(A+1)) else DurL d a))∨
 ((runOps d (saveOps sz A b (c.gen+1))).2≠0∧(runOps d (saveOps sz A b (c.gen+1))).1.off=true∧d.cnt≠none∧
  ∀L:Nat→List Int,(∀a,Poss (runOps d (saveOps sz A b (c.gen+1))).1 a (L a))→openL L first n=c∨openL L first n = {c with slot:=c.target,newest:=b,gen:=c.gen+1}):=by
 obtain⟨hoff,hca,hlen,hsz,hop⟩:=h;have hz0:0<sz:=by omega
 have hnb:=j8 hz0 hb;have ht1:c.target≤1:=by unfold CS.target; split <;> omega
 have htn:c.target*n≤1*n:=Nat.mul_le_mul_right n ht1;have hAN:A+n≤N:=by omega
 have hAN2:A+1+nch sz b.length≤A+n:=by omega
 have hA':A=first+(openL (DurL d) first n).target*n:=by rw[←hop]; exact hA
 have hfirst:c.first=first:=by rw[hop]; rfl
 have kill : ∀L:Nat→List Int,(∀a,a<N→(a<A∨A+n≤a)→L a=DurL d a)→L A=List.replicate sz 0→openL L first n=c:=fun L h1 h2=>by
  rw[aBQ (z:=sz) hn hA' (fun a q1 q2 q3=>h1 a (by omega) q3) h2,←hop]
 have newL : ∀L:Nat→List Int,(∀a,a<N→(a<A∨A+n≤a)→L a=DurL d a)→L A=hdrP sz b (c.gen+1)→(∀i,i<nch sz b.length→L (A+1+i)=chunk sz b i)→(∀i,nch sz b.length≤i→i<n-1→L (A+1+i)=DurL d (A+1+i))→openL L first n = {c with slot:=c.target,newest:=b,gen:=c.gen+1}:=fun L h1 h2 h3 h4=>by
  have:=aBR (b:=b) (sz:=sz) hz hn hA' (fun a q1 q2 q3=>h1 a (by omega) q3) (by rw[←hop]; exact h2) h3 (fun i hi=>by
   by_cases hh:i<nch sz b.length
   ·rw[h3 i hh]; exact nI
   ·rw[h4 i (by omega) hi]; exact hw _ (by omega)) hb hb2 (by rw[←hop]; exact hg)
  rw[this,←hop]
 unfold saveOps;rw[List.append_assoc];rcases nO hz0 (at_:=A) (b:=List.replicate sz 0) hoff hca hsz (by rw[cM hz0 (by simp),hlen]; omega) with ⟨p1,p2,p3,p4,p5,p6,p7⟩ | ⟨p1,p2,p3,p4,p5,p6⟩;rotate_left
 ·rw[gZ p1];refine .inr ⟨p1,p2,p5,fun L hL=>.inl ?_⟩;rw[cM hz0 (by simp)] at p6;have hcase : ∀a,L a=DurL d a∨(a=A∧L a=List.replicate sz 0):=fun a=>by
   rcases nR hL a with e | e
   ·left; rw[e]; unfold DurL; rw[p3]
   ·obtain⟨i,hi,e1,e2⟩:=p6 _ _ e;obtain rfl:i=0:=by omega
    rw[jZ (by simp)] at e2;exact .inr ⟨by omega,e2⟩
  rcases hcase A with e | ⟨_,e⟩
  ·rw[jV (L':=DurL d) fun a q1 q2=>(hcase a).elim (fun h=>h) fun h=>by rw[h.1]; exact e,←hop]
  ·exact kill L (fun a ha hq=>(hcase a).elim (fun h=>h) fun h=>by omega) e
 rw[gY p1];rw[cM hz0 (by simp)] at p7;generalize (runOps d (putOps sz A (List.replicate sz 0))).1=d1 at *;have v1 : ∀a,a<N→DurL d1 a=if a=A then List.replicate sz 0 else DurL d a:=fun a ha=>by
  rw[p7 a (by omega)];by_cases e:a=A
  ·rw[if_pos ⟨by omega,by omega⟩,if_pos e,e,Nat.sub_self,jZ (by simp)]
  ·rw[if_neg (by omega),if_neg e]
 clear p7;rcases nO hz0 (at_:=A+1) (b:=b) p2 p3 p5 (by rw[p4,hlen]; omega) with ⟨q1,q2,q3,q4,q5,q6,q7⟩ | ⟨q1,q2,q3,q4,q5,q6⟩;rotate_left
 ·rw[gZ q1];refine .inr ⟨q1,q2,fun hh=>q5 (p6 hh),fun L hL=>.inl ?_⟩;have hcase : ∀a,L a=DurL d1 a∨(A+1≤a∧a<A+n):=fun a=>by
   rcases nR hL a with e | e
   ·left; rw[e]; unfold DurL; rw[q3]
   ·obtain⟨i,hi,e1,e2⟩:=q6 _ _ e;exact .inr (by omega)
  refine kill L (fun a ha hq=>?_) ?_
  ·rcases hcase a with e | e
   ·rw[e,v1 a ha,if_neg (by omega)]
   ·omega
  ·rcases hcase A with e | e
   ·rw[e,v1 A (by omega),if_pos rfl]
   ·omega
 rw[gY q1];generalize (runOps d1 (putOps sz (A+1) b)).1=d2 at *;have v2 : ∀a,a<N→DurL d2 a=if a=A then List.replicate sz 0 else if A+1≤a∧a<A+1+nch sz b.length then chunk sz b (a-(A+1)) else DurL d a:=fun a ha=>by
  rw[q7 a (by rw[p4]; omega)];by_cases e:a=A
  ·rw[if_neg (by omega),v1 a ha,if_pos e,if_pos e]
  ·rw[if_neg e,v1 a ha,if_neg e]
 clear q7;have hhl:(hdrP sz b (c.gen+1)).length=sz:=dC hz;rcases nO hz0 (at_:=A) (b:=hdrP sz b (c.gen+1)) q2 q3 q5 (by rw[cM hz0 hhl,q4,p4,hlen]; omega) with ⟨r1,r2,r3,r4,r5,r6,r7⟩ | ⟨r1,r2,r3,r4,r5,r6⟩;rotate_left
 ·refine .inr ⟨r1,r2,fun hh=>r5 (q6 (p6 hh)),fun L hL=>?_⟩;rw[cM hz0 hhl] at r6;have hcase : ∀a,L a=DurL d2 a∨(a=A∧L a=hdrP sz b (c.gen+1)):=fun a=>by
   rcases nR hL a with e | e
   ·left; rw[e]; unfold DurL; rw[r3]
   ·obtain⟨i,hi,e1,e2⟩:=r6 _ _ e;obtain rfl:i=0:=by omega
    rw[jZ hhl] at e2;exact .inr ⟨by omega,e2⟩
  have hout : ∀a,a<N→(a<A∨A+n≤a)→L a=DurL d a:=fun a ha hq=>by
   rcases hcase a with e | e
   ·rw[e,v2 a ha,if_neg (by omega),if_neg (by omega)]
   ·omega
  rcases hcase A with e | ⟨_,e⟩
  ·left;exact kill L hout (by rw[e,v2 A (by omega),if_pos rfl])
  ·right;refine newL L hout e (fun i hi=>?_) fun i hi hi2=>?_
   ·rcases hcase (A+1+i) with e | e
    ·rw[e,v2 _ (by omega),if_neg (by omega),if_pos ⟨by omega,by omega⟩,show A+1+i-(A+1)=i by omega]
    ·omega
   ·rcases hcase (A+1+i) with e | e
    ·rw[e,v2 _ (by omega),if_neg (by omega),if_neg (by omega)]
    ·omega
 rw[cM hz0 hhl] at r7;generalize runOps d2 (putOps sz A (hdrP sz b (c.gen+1)))=r at *;have v3 : ∀a,a<N→DurL r.1 a=if a=A then hdrP sz b (c.gen+1) else if A+1≤a∧a<A+1+nch sz b.length then chunk sz b (a-(A+1)) else DurL d a:=fun a ha=>by
  rw[r7 a (by rw[q4,p4]; omega)];by_cases e:a=A
  ·rw[if_pos ⟨by omega,by omega⟩,if_pos e,e,Nat.sub_self,jZ hhl]
  ·rw[if_neg (by omega),v2 a ha,if_neg e,if_neg e]
 refine .inl ⟨r1,⟨r2,r3,by rw[r4,q4,p4,hlen],r5,?_⟩,fun hh=>r6 (q6 (p6 hh)),v3⟩;symm;refine newL _ (fun a ha hq=>?_) ?_ (fun i hi=>?_) fun i hi hi2=>?_
 ·rw[v3 a ha,if_neg (by omega),if_neg (by omega)]
 ·rw[v3 A (by omega),if_pos rfl]
 ·rw[v3 _ (by omega),if_neg (by omega),if_pos ⟨by omega,by omega⟩,show A+1+i-(A+1)=i by omega]
 ·rw[v3 _ (by omega),if_neg (by omega),if_neg (by omega)]
open Go
set_option maxRecDepth 100000
theorem aBT {a b:Option (List Int×Nat)}:newestP a b=(1,[],0)∨(∃x,a=some x∧newestP a b=(0,x))∨(∃x,b=some x∧newestP a b=(1,x)):=by
 cases a with
 | none=>
  cases b with
  | none=>exact .inl rfl
  | some y=>exact .inr (.inr ⟨y,rfl,rfl⟩)
 | some x=>
  cases b with
  | none=>exact .inr (.inl ⟨x,rfl,rfl⟩)
  | some y=>
   simp only[newestP];split
   ·exact .inr (.inr ⟨y,rfl,rfl⟩)
   ·exact .inr (.inl ⟨x,rfl,rfl⟩)
theorem vL {L:Nat→List Int}{x n sz:Nat}(hn:1≤n)(hl : ∀a,x≤a→a<x+n→(L a).length=sz):(slotSL L x n).tail.flatten.length=(n-1)*sz:=by
 rw[fF hn,List.tail_cons];exact jX fun i hi=>hl _ (by omega) (by omega)
theorem aBU {L:Nat→List Int}{first n sz:Nat}(hn:1≤n)(hl : ∀a,first≤a→a<first+2*n→(L a).length=sz) :
 (openL L first n).gen≤4611686018427387904∧(openL L first n).newest.length≤(n-1)*sz∧(openL L first n).slot≤1:=by
 unfold openL;rcases aBT (a:=slotP (slotSL L first n)) (b:=slotP (slotSL L (first+n) n)) with e | ⟨x,h,e⟩ | ⟨x,h,e⟩
 ·rw[e]; exact⟨by show 0≤_; omega,by show 0≤_; omega,by show 1≤1; omega⟩
 ·rw[e];have hp:=fD h;rw[vL hn fun a h1 h2=>hl a (by omega) (by omega)] at hp;exact⟨hp.2.1,hp.2.2.1,by show 0≤1; omega⟩
 ·rw[e];have hp:=fD h;rw[vL hn fun a h1 h2=>hl a (by omega) (by omega)] at hp;exact⟨hp.2.1,hp.2.2.1,by show 1≤1; omega⟩
theorem Live.facts {N sz first n:Nat}{d:DS}{c:CS}(h:Live N sz first n d c)(hn:1≤n)(hN:first+2*n≤N)(hw : ∀a,a<N→(DurL d a).length=sz) :
 c.gen≤4611686018427387904∧c.newest.length≤(n-1)*sz∧c.slot≤1∧c.first=first∧c.n=n∧c.down=false:=by
 have:=aBU (L:=DurL d) (first:=first) (sz:=sz) hn fun a h1 h2=>hw a (by omega)
 rw[←h.opn] at this;exact⟨this.1,this.2.1,this.2.2,by rw[h.opn]; rfl,by rw[h.opn]; rfl,by rw[h.opn]; rfl⟩
theorem WfD.durl {N s i:Nat}{d:DS}(h:WfD N s i d){a:Nat}(ha:a<N):(DurL d a).length=s∧Rng (DurL d a):=by
 have hyd:a<d.dur.length:=by rw[h.sz.dur]; exact ha
 unfold DurL;rw[List.getD_eq_getElem?_getD,List.getElem?_eq_getElem hyd];exact h.dur _ (List.getElem_mem hyd)
theorem aBV {N sz first n i:Nat}{d:DS}{c:CS}(h:Live N sz first n d c)(hw:WfD N sz i d)(hz:44≤sz)(hz2:sz≤4096)(hn:1≤n)(hn2:n≤60000)(hN:first+2*n≤N)(b:List Int) :
 (((n-1)*sz<b.length∨c.gen=4611686018427387904)∧csave (d,c) b=((d,c),6))∨
 (b.length≤(n-1)*sz∧c.gen<4611686018427387904∧(csave (d,c) b).2=0∧Live N sz first n (csave (d,c) b).1.1 (csave (d,c) b).1.2∧(csave (d,c) b).1.2 = {c with slot:=c.target,newest:=b,gen:=c.gen+1}∧(d.cnt=none→(csave (d,c) b).1.1.cnt=none)∧
  (∀a,a<N→DurL (csave (d,c) b).1.1 a=if a=first+c.target*n then hdrP sz b (c.gen+1) else if first+c.target*n+1≤a∧a<first+c.target*n+1+nch sz b.length then chunk sz b (a-(first+c.target*n+1)) else DurL d a))∨
 (b.length≤(n-1)*sz∧c.gen<4611686018427387904∧csave (d,c) b=(((runOps d (saveOps sz (first+c.target*n) b (c.gen+1))).1,{c with down:=true}),8)∧(runOps d (saveOps sz (first+c.target*n) b (c.gen+1))).1.off=true∧d.cnt≠none∧
  ∀L:Nat→List Int,(∀a,Poss (runOps d (saveOps sz (first+c.target*n) b (c.gen+1))).1 a (L a))→openL L first n=c∨openL L first n = {c with slot:=c.target,newest:=b,gen:=c.gen+1}):=by
 obtain⟨f1,f2,f3,f4,f5,f6⟩:=h.facts hn hN fun a ha=>(hw.durl ha).1;have hsz:=h.size;obtain⟨cf,cn,cs,cnew,cg,cd⟩:=c;dsimp only at f1 f2 f3 f4 f5 f6;subst f4 f5 f6;unfold csave;dsimp only;rw[hsz];simp only[Bool.false_eq_true,if_false];by_cases hlim:(cn-1)*sz<b.length∨cg=4611686018427387904
 ·left;rw[if_pos hlim];exact⟨hlim,rfl⟩
 ·right;rw[if_neg hlim];have hb:b.length≤(cn-1)*sz:=by omega
  have hg:cg<4611686018427387904:=by omega
  have hm:(cn-1)*sz≤60000*4096:=Nat.mul_le_mul (by omega) hz2;rcases aBS h (fun a ha=>(hw.durl ha).1) hz hn hN hb (by omega) hg rfl with ⟨s1,s2,s3,s4⟩ | ⟨s1,s2,s3,s4⟩
  ·left;rw[if_pos s1];exact⟨hb,hg,rfl,s2,rfl,s3,s4⟩
  ·right;rw[if_neg s1];exact⟨hb,hg,rfl,s2,s3,s4⟩
theorem vM {N sz i:Nat}{d:DS}{c:CS}(h:WfD N sz i d){b:List Int}(hb:Rng b){k:Nat}(hk : ∀at_ g,(saveOps d.size at_ b g).length≤k):WfD N sz (i+k) (csave (d,c) b).1.1:=by
 have hr : ∀at_ g,WfD N sz (i+k) (runOps d (saveOps d.size at_ b g)).1:=fun at_ g=>(h.ops (vH hb)).mono (by have:=hk at_ g; omega);unfold csave;dsimp only;split
 ·exact h.mono (by omega)
 ·split
  ·exact h.mono (by omega)
  ·split
   ·exact hr _ _
   ·exact hr _ _
theorem vN {sz at_ g:Nat}{b:List Int}(hz:44≤sz):(saveOps sz at_ b g).length=nch sz b.length+5:=by
 unfold saveOps putOps;simp only[List.length_append,dQ,List.length_singleton];rw[cM (by omega) (show(List.replicate sz (0:Int)).length=sz by simp),cM (by omega) (dC hz)];omega
theorem aBW {L:Nat→List Int}{first n z:Nat}(hn:1≤n)(h1:L first=List.replicate z 0)(h2:L (first+n)=List.replicate z 0):openL L first n=⟨first,n,1,[],0,false⟩:=by
 unfold openL;rw[fF hn,fF hn,jW h1,jW h2];rfl
theorem aBX {N s a:Nat}(ha:a<N):DurL (DS.new N s) a=List.replicate s 0:=by
 unfold DurL DS.new;rw[List.getD_eq_getElem?_getD,List.getElem?_replicate,if_pos ha];rfl
open Go
set_option maxRecDepth 100000
theorem vO {d:DS}{s:Nat}(hs:0<s){f:Nat} : ∀{k:Nat},(∀a,f≤a→a<f+k→(d.content a).length=s)→(secs d f k).length=k*s∧∀p,p<k*s→(secs d f k)[p]? =(d.content (f+p/s))[p%s]?
 | 0,_=>⟨by simp[secs],fun p hp=>by simp at hp⟩
 | k+1,h=>by
  obtain⟨h1,h2⟩:=vO hs (k:=k) fun a h1 h2=>h a h1 (by omega);have h3:=h (f+k) (by omega) (by omega);refine⟨by rw[secs,List.length_append,h1,h3,Nat.add_mul,Nat.one_mul],fun p hp=>?_⟩;rw[secs];by_cases hpk:p<k*s
  ·rw[List.getElem?_append_left (by rw[h1]; exact hpk)];exact h2 p hpk
  ·rw[List.getElem?_append_right (by rw[h1]; omega),h1];rw[Nat.add_mul,Nat.one_mul] at hp;have hq:p/s=k:=by
    refine Nat.div_eq_of_lt_le (by omega) ?_;rw[Nat.add_mul,Nat.one_mul]; omega
   have hm:p%s=p-k*s:=by
    have:=sE (p:=p) hs;rw[hq] at this;omega
   rw[hq,hm]
theorem vP {ls:List (List Int)}{k:Nat}(h:(stream ls).length≤k)(hk:k≤250000) : ∀b,b∈ls→b.length<2 ^ 64:=by
 intro b hb;have:=lP hb;omega
theorem aBY {n f c s:Nat}{d:DS}{ls:List (List Int)}(h:GoodD n f c s d ls)(hd:Dims n f c s)(hlen : ∀a,a<d.dur.length→(d.content a).length=d.size):jopen d f c=(some (jsOf f c s ls),0):=by
 have hs1:=hd.s1;have hfc:=hd.fc;have hc1:=hd.c1;have hct : ∀a,d.content a=DurL d a:=fun a=>gI h.cache;have hhd:headD (d.content f)=some (stream ls).length:=by rw[hct]; exact h.holds.1
 obtain⟨g1,g2⟩:=vO (d:=d) (s:=s) (by omega) (f:=f+1) (k:=c-1) fun a h1 h2=>by
  rw[hlen a (by rw[h.sz.dur]; omega),h.sz.size]
 have htk:(secs d (f+1) (c-1)).take (stream ls).length=stream ls:=by
  apply List.ext_getElem?;intro p;by_cases hp:p<(stream ls).length
  ·rw[List.getElem?_take_of_lt hp,g2 p (Nat.lt_of_lt_of_le hp h.fit),hct];exact h.holds.2 p hp
  ·rw[List.getElem?_eq_none (by rw[List.length_take]; omega),List.getElem?_eq_none (by omega)]
 unfold jopen;rw[if_neg (by rw[h.off]; decide),hhd];dsimp only;rw[h.sz.size,if_neg (by have:=h.fit; omega),htk,rE (vP h.fit hd.area)];rfl
theorem GoodD.spl {n f c s:Nat}{d:DS}{ls:List (List Int)}(h:GoodD n f c s d ls)(hd:Dims n f c s):spl (stream ls)=some ls:=rE (vP h.fit hd.area)
open Go
set_option maxRecDepth 100000
inductive Steps (R : Nat → Prop) (d : DS) : DS → Prop where
 | refl:Steps R d d
 | write {d1:DS} (h:Steps R d d1) (x:Int) (l:List Int) (hx:R x.toNat) (hl:Rng l):Steps R d (d1.write x l).1
 | sync {d1:DS} (h:Steps R d d1):Steps R d d1.sync.1
theorem Steps.trans {R:Nat→Prop}{d d1 d2:DS}(h1:Steps R d d1)(h2:Steps R d1 d2):Steps R d d2:=by
 induction h2 with
 | refl=>exact h1
 | write h x l hx hl ih=>exact ih.write x l hx hl
 | sync h ih=>exact ih.sync
theorem Steps.wf {R:Nat→Prop}{d d':DS}(h:Steps R d d'){n s i:Nat}(hw:WfD n s i d) : ∃k,WfD n s k d':=by
 induction h with
 | refl=>exact⟨i,hw⟩
 | write h x l hx hl ih=>obtain⟨k,hk⟩:=ih; exact⟨k+1,hk.write hl⟩
 | sync h ih=>obtain⟨k,hk⟩:=ih; exact⟨k,hk.sync⟩
theorem hP {d:DS}:d.step.2.dur=d.dur:=by
 unfold DS.step;split
 ·rfl
 ·split <;> rfl
theorem Steps.poss {R:Nat→Prop}{d d':DS}(h:Steps R d d'){a:Nat}(ha : ¬R a){b:List Int}(hb:Poss d' a b):Poss d a b:=by
 induction h with
 | refl=>exact hb
 | @write d1 h x l hx hl ih=>
  apply ih;unfold DS.write at hb;split at hb
  ·split at hb
   ·rcases hb with hb | hb
    ·exact .inl (by rw[hb]; show d1.step.2.dur.getD a []=_; rw[hP])
    ·rcases List.mem_append.1 hb with hb | hb
     ·exact .inr (by rw[d1.step_cache] at hb; exact hb)
     ·simp at hb;exact absurd (hb.1 ▸ hx) ha
   ·rcases hb with hb | hb
    ·exact .inl (by rw[hb,hP])
    ·exact .inr (by rw[d1.step_cache] at hb; exact hb)
  ·exact hb
 | @sync d1 h ih=>
  apply ih;unfold DS.sync at hb;split at hb
  ·rcases hb with hb | hb
   ·rw[hb];have:=rY (ch:=fun _=>true) (dur:=d1.step.2.dur) (a:=a) (c:=d1.step.2.cache) _ rfl;rw[hP,d1.step_cache] at this;unfold Poss;have e:(d1.step.2.settle fun _=>true).dur=settled (fun _=>true) d1.cache d1.dur d1.cache.length:=by
     unfold DS.settle;rw[hP,d1.step_cache]
    rw[e];exact this
   ·cases hb
  ·rcases hb with hb | hb
   ·exact .inl (by rw[hb,hP])
   ·exact .inr (by rw[d1.step_cache] at hb; exact hb)
theorem j9 {d:DS}(h:d.cache = []){a:Nat}{b:List Int}(hb:Poss d a b):b=DurL d a:=by
 rcases hb with hb | hb
 ·exact hb
 ·rw[h] at hb; cases hb
theorem vQ {R:Nat→Prop}{z:DS×JS}{x:Int}{b:List Int}(hR:R (((z.2.first:Int)+x).toNat))(hb:Rng b):Steps R z.1 (jwrite z x b).1:=Steps.refl.write _ _ hR hb.pad
theorem nS {R:Nat→Prop}{z:DS×JS}{n:Nat}(hR:R z.2.first):Steps R z.1 (jcommit z n).1:=by
 have h1:Steps R z.1 (jwrite z 0 (headL n)).1:=vQ (by rw[Int.add_zero,Int.toNat_natCast]; exact hR) lW;unfold jcommit;split
 ·exact h1
 ·exact h1.sync
theorem vR {R:Nat→Prop}{f c s:Nat}(hR : ∀a,f≤a→a<f+c→R a){next:List Int}(hn:Rng next)(hfit:next.length≤(c-1)*s)(hs:0<s) : ∀{k i:Nat} {z:DS×JS},z.2.first=f→z.1.size=s→Steps R z.1 (jloop next k i z).1
 | 0,_,_,_,_=>.refl
 | k+1,i,z,hf,hz=>by
  rw[jloop];split
  ·rename_i hi;rw[hz] at hi;have hic:i<c-1:=by
    have:i*s<(c-1)*s:=Nat.lt_of_lt_of_le hi hfit;exact Nat.lt_of_mul_lt_mul_right this
   have h1:Steps R z.1 (jwrite z ((1+i:Nat):Int) ((next.drop (i*z.1.size)).take z.1.size)).1:=vQ (hR _ (by rw[hf]; omega) (by rw[hf]; omega)) ((hn.drop _).take _)
   split
   ·exact h1
   ·refine h1.trans (vR hR hn hfit hs hf ?_);show(z.1.write _ _).1.size=s;unfold DS.write;split
    ·split
     ·show z.1.step.2.size=s;rw[←hz]; unfold DS.step; split
      ·rfl
      ·split <;> rfl
     ·rw[←hz]; unfold DS.step; split
      ·rfl
      ·split <;> rfl
    ·exact hz
  ·exact .refl
theorem aBZ {R:Nat→Prop}{z:DS×JS}(hR:R z.2.first):Steps R z.1 (jreset z).1.1:=by
 unfold jreset;split
 ·exact .refl
 ·split
  ·exact nS (z:=jready z) hR
  ·exact nS (z:=jready z) hR
theorem vS {R:Nat→Prop}{z:DS×JS}:Steps R z.1 (jsync z).1:=Steps.refl.sync
theorem vT {next:List Int} : ∀{k i:Nat} {z:DS×JS},(jloop next k i z).2.first=z.2.first
 | 0,_,_=>rfl
 | k+1,i,z=>by
  rw[jloop];split
  ·split
   ·rfl
   ·rw[vT]; rfl
  ·rfl
theorem aB0 {R:Nat→Prop}{f c s:Nat}(hR : ∀a,f≤a→a<f+c→R a){z:DS×JS}{recs:List (List Int)}(hn:Rng (z.2.stream ++ stream recs))(har:z.2.area=(c-1)*s)(hle:z.2.stream.length≤z.2.area)(hs:0<s)(hf:z.2.first=f)(hz:z.1.size=s)(hc:0<c):Steps R z.1 (jappend z recs).1.1:=by
 unfold jappend;split
 ·exact .refl
 ·split
  ·exact .refl
  ·split
   ·exact .refl
   ·rename_i hfit;have h1:Steps R z.1 (jloop (z.2.stream ++ stream recs) (z.2.stream ++ stream recs).length (z.2.stream.length/z.1.size) (jready z)).1:=vR (z:=jready z) (f:=f) (c:=c) (s:=s) hR hn (by rw[List.length_append]; omega) hs hf hz;dsimp only;split
    ·exact h1
    ·split
     ·exact h1.trans vS
     ·have h2:=(h1.trans vS).trans (nS (R:=R) (z:=jsync (jloop (z.2.stream ++ stream recs) (z.2.stream ++ stream recs).length (z.2.stream.length/z.1.size) (jready z))) (n:=(z.2.stream ++ stream recs).length) (by
       show R (jloop (z.2.stream ++ stream recs) (z.2.stream ++ stream recs).length (z.2.stream.length/z.1.size) (jready z)).2.first
       rw[vT];exact hR _ (by show f≤z.2.first; omega) (by show z.2.first<f+c; omega)))
      split
      ·exact h2
      ·exact h2
theorem vU {R:Nat→Prop} : ∀{l:List DOp} {d:DS},(∀x,some x∈l→R x.1∧Rng x.2)→Steps R d (runOps d l).1
 | [],d,_=>.refl
 | o :: r,d,h=>by
  have h1:Steps R d (d.op o).1:=by
   cases o with
   | none=>exact Steps.refl.sync
   | some x=>
    have:=h x List.mem_cons_self;exact Steps.refl.write _ _ (by rw[Int.toNat_natCast]; exact this.1) this.2
  unfold runOps;split
  ·exact h1.trans (vU fun x hx=>h x (List.mem_cons_of_mem _ hx))
  ·exact h1
theorem nT {sz at_:Nat}{b:List Int}{x:Nat×List Int}(h:some x∈putOps sz at_ b):at_≤x.1∧x.1<at_+nch sz b.length:=by
 rcases List.mem_append.1 h with h | h
 ·obtain⟨i,hi,e⟩:=List.mem_map.1 h;have:=List.mem_range.1 hi;injection e with e;rw[←e];exact⟨by omega,by omega⟩
 ·simp at h
theorem aB1 {R:Nat→Prop}{d:DS}{sz A n g:Nat}{b:List Int}(hz:44≤sz)(hn:1≤n)(hb:b.length≤(n-1)*sz)(hr:Rng b)(hR : ∀a,A≤a→a<A+n→R a):Steps R d (runOps d (saveOps sz A b g)).1:=by
 have hbn:=j8 (sz:=sz) (by omega) hb;refine vU fun x hx=>⟨?_,vH hr x hx⟩;have h1:nch sz (List.replicate sz (0:Int)).length=1:=cM (by omega) (by simp);have h2:nch sz (hdrP sz b g).length=1:=cM (by omega) (dC hz);rcases List.mem_append.1 hx with hx | hx
 ·rcases List.mem_append.1 hx with hx | hx
  ·have:=nT hx;exact hR _ (by omega) (by omega)
  ·have:=nT hx;exact hR _ (by omega) (by omega)
 ·have:=nT hx;exact hR _ (by omega) (by omega)
theorem aB2 {R:Nat→Prop}{s:DS×CS}{b:List Int}(hz:44≤s.1.size)(hn:1≤s.2.n)(ht:s.2.slot≤1)(hr:Rng b)(hR : ∀a,s.2.first≤a→a<s.2.first+2*s.2.n→R a):Steps R s.1 (csave s b).1.1:=by
 unfold csave;split
 ·exact .refl
 ·split
  ·exact .refl
  ·rename_i hfit;have htg:s.2.target*s.2.n≤1*s.2.n:=Nat.mul_le_mul_right _ (by unfold CS.target; split <;> omega);have h1:Steps R s.1 (runOps s.1 (saveOps s.1.size (s.2.first+s.2.target*s.2.n) b (s.2.gen+1))).1:=aB1 (n:=s.2.n) hz hn (by omega) hr fun a h1 h2=>hR a (by omega) (by omega);split
   ·exact h1
   ·exact h1
end Go.Proofs.YtpgigkceoolgeaaGreatDoor.Fd
