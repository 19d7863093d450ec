import Derived.Test.YtpgigkceoolgeaaGreatDoorS011
set_option linter.all false
namespace Go.Proofs.YtpgigkceoolgeaaGreatDoor.Fd
open Go
set_option maxRecDepth 100000
theorem VV {w:World}{D J:Nat→Prop}{p jb:Nat}{s:DS×JS}(h:JW w D J p jb s){n sz i:Nat}(hs:Sz n sz i s.1)(hi:i≤700000000)(hz:16≤sz)(hz2:sz≤4096)(hf:s.2.first≤100000) :
 Ok (den Tryz.prog 125 #[.pointer (some ⟨jb,0,none⟩)] w) fun u w'=>u = .int .i64 (jreset s).2∧∃D',JW w' D' J p jb (jreset s).1∧JT w w' D D' jb:=by
 refine aB (args:=[.pointer (some ⟨jb,0,none⟩)]) rs125 Tryz.func125 rfl mixed (by kernel_rfl) R5 rfl ?_;simp(maxSteps:=3000000)(disch:=omega)only[push_cast,seval];refine Ok.use (rO h) ?_;rintro u w1 ⟨rfl,hw1,ht1⟩;have hf1:(jready s).2.first=s.2.first:=rfl
 have hd1:(jready s).1=s.1:=rfl;have hA:jreset s=_:=rfl;conv at hA=>rhs; unfold jreset
 cases hdn:(jready s).2.down;rotate_left
 ·rw[if_pos hdn] at hA;rw[hA];simp(maxSteps:=3000000)(disch:=omega)only[push_cast,seval];exact⟨D,hw1,ht1⟩
 rw[if_neg (by rw[hdn]; decide)] at hA;rw[←hd1] at hs;generalize hs1e:jready s=s1 at *;have hhl:=lQ (k:=0) (by omega);simp(maxSteps:=3000000)(disch:=omega)only[push_cast,seval];refine Ok.use (rS hw1 hs (by omega) (by omega) hz2 (by rw[hf1]; exact hf) (k:=0) (by omega) (by omega)) ?_;rintro u w2 ⟨rfl,D2,hw2,ht2⟩;have ht02:=ht1.trans ht2;cases hdn2:(jcommit s1 0).2.down;rotate_left
 ·rw[if_pos hdn2] at hA;rw[hA];simp(maxSteps:=3000000)(disch:=omega)only[push_cast,seval];exact⟨D2,hw2,ht02⟩
 rw[if_neg (by rw[hdn2]; decide)] at hA;rw[hA];obtain⟨sa9,sc9,b9,_,_,_⟩:=hw2.down_iff;have hu10:Upd (fun b=>b=jb) w2 (w2.setCell ⟨jb,3,none⟩ (.slice none 0 0)):=Upd.set rfl;obtain⟨hw10,ht10⟩:=hw2.set hu10 (j':={(jcommit s1 0).2 with stream:=[]}) ⟨_,b9.set 3 _,⟨⟨none,0,rfl,fun h=>absurd rfl h⟩,none,0,rfl,Nat.le_refl _⟩,fun x hx=>by simp at hx⟩;simp(maxSteps:=3000000)(disch:=omega)only[push_cast,seval,b9.cell,b9.free];exact⟨D2,hw10,ht02.trans ht10⟩
structure RngD (d : DS) : Prop where
 dur : ∀l,l∈d.dur→Rng l
 cache : ∀x,x∈d.cache→Rng x.2
theorem iU {c:List (Nat×List Int)}{s:Nat}{l:List Int}(h:lastOf c s=some l):(s,l)∈c:=by
 unfold lastOf at h;cases hf:c.reverse.find? fun x=>x.1 == s with
 | none=>rw[hf] at h; cases h
 | some x=>
  rw[hf] at h;simp at h;have h1:=List.mem_of_find?_eq_some hf;have h2:=List.find?_some hf;simp at h2;rw[←h,←h2];exact List.mem_reverse.1 h1
theorem RngD.content {d:DS}(h:RngD d){s:Nat}(hs:s<d.dur.length):Rng (d.content s):=by
 unfold DS.content;cases hl:lastOf d.cache s with
 | none=>
  rw[Option.getD_none,List.getD_eq_getElem?_getD,List.getElem?_eq_getElem hs];exact h.dur _ (List.getElem_mem hs)
 | some l=>exact h.cache _ (iU hl)
theorem IsDisk.content_len {w:World}{F:Nat→Prop}{p:Nat}{d:DS}(h:IsDisk w F p d){s:Nat}(hs:s<d.dur.length):(d.content s).length=d.size:=by
 obtain⟨q,durs,cv,cachs,armed,left,h⟩:=h;unfold DS.content;cases hl:lastOf d.cache s with
 | none=>
  rw[Option.getD_none,List.getD_eq_getElem?_getD,List.getElem?_eq_getElem hs];have hm:=List.getElem_mem hs;generalize d.dur[s]=y at hm;rw[h.dur] at hm;obtain⟨x,hx,he⟩:=List.mem_map.1 hm;simp only[Option.getD_some];rw[←he];exact(h.durc x hx).2.1
 | some l=>
  have hm:=iU hl;rw[h.cache] at hm;obtain⟨x,hx,he⟩:=List.mem_map.1 hm;injection he with e1 e2;rw[Option.getD_some,←e2];exact(h.cachc x hx).2.1
def secs (d:DS)(f:Nat):Nat→List Int
 | 0=>[]
 | k+1=>secs d f k ++ d.content (f+k)
theorem lR {w:World}{F:Nat→Prop}{p:Nat}{d:DS}(h:IsDisk w F p d){f:Nat} : ∀{k:Nat},f+k≤d.dur.length→(secs d f k).length=k*d.size
 | 0,_=>by simp[secs]
 | k+1,hk=>by rw[secs,List.length_append,lR h (by omega),h.content_len (by omega),Nat.add_mul,Nat.one_mul]
theorem rU {d:DS}(h:RngD d){f:Nat} : ∀{k:Nat},f+k≤d.dur.length→Rng (secs d f k)
 | 0,_=>fun x hx=>by simp[secs] at hx
 | k+1,hk=>(rU h (by omega)).append (h.content (by omega))
theorem rV {d:DS}{f:Nat} : ∀{k:Nat},secs d f (k+1)=d.content f ++ secs d (f+1) k
 | 0=>by simp[secs]
 | k+1=>by
  rw[secs,rV (k:=k),secs,List.append_assoc];congr 3;omega
def jopen (d:DS)(f c:Nat):Option JS×Int:=
 if d.off then (none,8) else
 match headD (d.content f) with
 | none=>(none,12)
 | some k=>if (c-1)*d.size<k then (none,12) else
  match spl ((secs d (f+1) (c-1)).take k) with
  | none=>(none,12)
  | some _=>(some ⟨f,(c-1)*d.size,(secs d (f+1) (c-1)).take k,false⟩,0)
def OpenR (w w':World)(p:Nat)(u:Value):Option JS×Int→Prop
 | (none,e)=>u = .tuple #[.pointer none,.int .i64 e]
 | (some j,e)=>∃jb,u = .tuple #[.pointer (some ⟨jb,0,none⟩),.int .i64 e]∧w.heap.size≤jb∧jb<w'.heap.size∧JO w' (fun b=>b<w.heap.size∨b=jb) p jb j
theorem VW (a:Option Addr)(f ar:Int)(w:World):bldS Tryz.prog 108 #[(0,.pointer a),(1,.int .i64 f),(2,.int .i64 ar)] w=some (.agg #[.pointer a,.int .i64 f,.int .i64 ar,.slice none 0 0,.bool false],w):=by kernel_rfl
attribute [push_cast] VW
set_option maxHeartbeats 4000000 in
theorem VX {w:World}{D:Nat→Prop}{p:Nat}{d:DS}(h:IsDisk w D p d){n sz i:Nat}(hs:Sz n sz i d)(hi:i≤900000000)(hz:16≤sz)(hz2:sz≤4096)(hr:RngD d){f c:Nat}(hn:n≤65536)(hc:2≤c)(hfc:f+c≤n)(har:c*sz≤250000) :
 Ok (den Tryz.prog 22 #[.pointer (some ⟨p,0,none⟩),.int .i64 (f:Int),.int .i64 (c:Int)] w) fun u w'=>OpenR w w' p u (jopen d f c)∧Upd (fun _=>False) w w':=by
 have hdl:=hs.dur;have hsz:=hs.size;refine aB (args:=[.pointer (some ⟨p,0,none⟩),.int .i64 (f:Int),.int .i64 (c:Int)]) rs22 Tryz.func22 rfl mixed (by kernel_rfl) PA rfl ?_;simp(maxSteps:=3000000)(disch:=omega)only[push_cast,seval];refine Ok.use (dW h) ?_;rintro u w1 ⟨rfl,rfl⟩;rw[hdl];simp(maxSteps:=3000000)(disch:=omega)only[push_cast,seval];refine Ok.use (dW h) ?_;rintro u w1 ⟨rfl,rfl⟩;rw[hdl];simp(maxSteps:=3000000)(disch:=omega)only[push_cast,seval];refine Ok.use (bP h) ?_;rintro u w1 ⟨rfl,rfl⟩;rw[hsz];obtain⟨A,hA⟩ : ∃A,A=(c-1)*sz:=⟨_,rfl⟩;have em:((c:Int)-1)*(sz:Int)=(A:Int):=by
  rw[hA,show(c:Int)-1=((c-1:Nat):Int) from by omega]; simp
 have hA2:A+sz=c*sz:=by
  rw[hA];obtain⟨c',rfl⟩ : ∃c',c=c'+1:=⟨c-1,by omega⟩;rw[Nat.add_sub_cancel,Nat.add_mul,Nat.one_mul]
 simp(maxSteps:=3000000)(disch:=omega)only[push_cast,seval,em];have hj0:Blk (w.alloc (.cells [.pointer (some ⟨p,0,none⟩),.int .i64 f,.int .i64 A,.slice none 0 0,.bool false].toArray 108 (0,0))) w.heap.size [.pointer (some ⟨p,0,none⟩),.int .i64 f,.int .i64 A,.slice none 0 0,.bool false] 108:=Blk.new;have hu1:Upd (fun _=>False) w (w.alloc (.cells [.pointer (some ⟨p,0,none⟩),.int .i64 f,.int .i64 A,.slice none 0 0,.bool false].toArray 108 (0,0))):=Upd.alloc;have hsz1:(w.alloc (.cells [.pointer (some ⟨p,0,none⟩),.int .i64 f,.int .i64 A,.slice none 0 0,.bool false].toArray 108 (0,0))).heap.size=w.heap.size+1:=aI;generalize w.alloc (.cells [.pointer (some ⟨p,0,none⟩),.int .i64 f,.int .i64 A,.slice none 0 0,.bool false].toArray 108 (0,0))=w1 at *;have h1:=h.upd hu1 (fun _ _ h=>h);refine aG (I:=fun k st w'=>Bx (∃(i':Nat) (v:Value),k+i'=c∧st = [v,.int .i64 (i':Int)]∧Bow w' v (secs d f i')∧(∀g,v.ownBlock=some g→w1.heap.size≤g)∧Upd (fun _=>False) w1 w'∧(0<i'→d.off=false)) ⟨⟩) ?_ c
  ⟨0,.slice none 0 0,rfl,rfl,Bow.nil,by simp[Value.ownBlock],Upd.refl,fun h=>by omega⟩
 rintro k st w2 ⟨i',v,hk,rfl,hown,hfr,hu2,hoff⟩;have h2:=h1.upd hu2 (fun _ _ h=>h);have hlen:=lR h (f:=f) (k:=i') (by rw[hdl]; omega);rw[hsz] at hlen;have hle:i'*sz≤c*sz:=Nat.mul_le_mul_right _ (by omega);obtain⟨va,vc,rfl,hvc⟩:=hown.form;by_cases hk0:k=0;rotate_left
 ·have hic:i'<c:=by omega
  simp(maxSteps:=3000000)(disch:=omega)only[push_cast,seval];refine Ok.use (lE h2 (by omega) (by have:=hs.few; omega) ((f:Int)+(i':Int))) ?_;rintro u w3 ⟨u0,rfl,hres,hu3⟩;have hrd:d.read ((f:Int)+(i':Int))=if d.off then (none,8) else (some (d.content (f+i')),0):=by
   unfold DS.read;rw[if_pos ⟨by omega,by omega⟩,show((f:Int)+(i':Int)).toNat=f+i' from by omega]
  have hu03:=(hu1.trans hu2 (fun _ _ h=>h)).trans hu3 (fun _ _ h=>h);cases ho:d.off;rotate_left
  ·rw[hrd,ho,if_pos rfl] at hres ⊢;have hop:jopen d f c=(none,8):=by unfold jopen; rw[if_pos ho]
   rw[hop];have hres:u0 = .slice none 0 0:=hres;subst hres;simp(maxSteps:=3000000)(disch:=omega)only[push_cast,seval];exact⟨rfl,hu03⟩
  ·rw[hrd,ho,if_neg (by decide)] at hres ⊢;obtain⟨b,rfl,hb,hblk⟩:=hres;have hcl:=h.content_len (s:=f+i') (by rw[hdl]; omega);have hsl:SlB w3 (fun _=>False) (CV b (d.content (f+i'))) (d.content (f+i')):=cX hblk (fun h=>h);have hown3:=hown.upd hu3 (fun _ _ h=>h);have hs2:=hu2.size;unfold CV at hsl ⊢;have hsz':sz≤c*sz:=Nat.le_mul_of_pos_left _ (by omega);simp(maxSteps:=3000000)(disch:=omega)only[push_cast,seval];refine bH hown3 hsl (by rw[hlen,hcl,hsz]; omega) ?_;intro v4 w4 hown4 hu4 hfr4;obtain⟨va4,vc4,hv4,_⟩:=hown4.form;have hs3:=hu3.size;simp(maxSteps:=3000000)(disch:=omega)only[push_cast,seval];refine⟨k-1,by omega,i'+1,v4,by omega,by simp,hown4,fun g hg=>?_,(hu2.trans hu3 (fun _ _ h=>h)).trans hu4 (fun b hb e=>by have:=hfr b e; omega),fun _=>by first | rfl | exact ho⟩
   rcases hfr4 g hg with h | h
   ·exact hfr g h
   ·omega
 obtain rfl:i'=c:=by omega
 have ho:=hoff (by omega);obtain⟨c',rfl⟩ : ∃c',i'=c'+1:=⟨i'-1,by omega⟩;have hop:jopen d f (c'+1)=_:=rfl;conv at hop=>rhs; unfold jopen
 rw[if_neg (by rw[ho]; decide),Nat.add_sub_cancel,hsz] at hop;rw[Nat.add_sub_cancel] at hA;rw[←hA] at hop;have hsec:=rV (d:=d) (f:=f) (k:=c');have hr1:=hr.content (s:=f) (by omega);have hr2:=rU hr (f:=f+1) (k:=c') (by omega);have hl1:=h.content_len (s:=f) (by omega);have hl2:=lR h (f:=f+1) (k:=c') (by omega);rw[hsz] at hl1 hl2;rw[←hA] at hl2;have e1:(secs d f (c'+1)).take sz=d.content f:=by rw[hsec,List.take_append_of_le_length (by omega),List.take_of_length_le (by omega)]
 have e2:(secs d f (c'+1)).drop sz=secs d (f+1) c':=by rw[hsec,List.drop_append_of_le_length (by omega),List.drop_of_length_le (by omega),List.nil_append]
 have hlA:(secs d f (c'+1)).length=sz+A:=by rw[hsec,List.length_append,hl1,hl2]
 obtain⟨g,cc,hv,hg,_,_⟩:=Buf.of_own hown (by omega);injection hv with q1 _ q3;subst q1;subst q3;have hslv:SlB w2 (fun _=>False) (.slice (some ⟨g,0,none⟩) (secs d f (c'+1)).length vc) (secs d f (c'+1)):=hown.slb fun _ _ h=>h;generalize secs d f (c'+1)=all at *;generalize secs d (f+1) c'=ar at *;generalize d.content f=hd at *;have hj2:=hj0.upd hu2 (fun h=>h);simp(maxSteps:=3000000)(disch:=omega)only[push_cast,seval];refine Ok.use (bP h2) ?_;rintro u w3 ⟨rfl,rfl⟩;rw[hsz];have htk:=gH hslv (n:=sz) (by omega) hvc;rw[e1] at htk;simp(maxSteps:=3000000)(disch:=omega)only[push_cast,seval];rw[show(Value.slice (some ⟨g,0,none⟩) sz vc) = .slice (some ⟨g,0,none⟩) hd.length vc from by rw[hl1]];rw[←hl1] at htk;refine Ok.use (VN htk hr1 (by omega) (by omega)) ?_;rintro u w3 ⟨⟨nn,ok,rfl,hhd,hnn⟩,hu3⟩;have hu13:=hu2.trans hu3 (fun _ _ h=>h);have hu03:=hu1.trans hu13 (fun _ _ h=>h);have hj3:=hj2.upd hu3 (fun h=>h);rw[hhd] at hop;have hs13:=hu13.size;cases ok
 ·have hop:jopen d f (c'+1)=(none,12):=hop;rw[hop];simp(maxSteps:=3000000)(disch:=omega)only[push_cast,seval,hj3.cell];exact⟨rfl,hu03⟩
 simp only[if_true] at hop;have hnn:=hnn rfl;by_cases hbig:A<nn
 ·rw[if_pos hbig] at hop;rw[hop];simp(maxSteps:=3000000)(disch:=omega)only[push_cast,seval,hj3.cell];exact⟨rfl,by first | exact hu03 | exact hu03.drew'⟩
 rw[if_neg hbig] at hop;have hsz1l:w.heap.size<w1.heap.size:=by omega
 have hu4:Upd (fun _=>False) w3 (w3.alloc (.cells #[] 5 (0,0))):=Upd.alloc;have hbn:Blk (w3.alloc (.cells #[] 5 (0,0))) w3.heap.size [] 5:=Blk.new (cs:=[]);have hsz4:(w3.alloc (.cells #[] 5 (0,0))).heap.size=w3.heap.size+1:=aI;simp(maxSteps:=3000000)(disch:=omega)only[push_cast,seval,hj3.cell];generalize w3.alloc (.cells #[] 5 (0,0))=w4 at *;have hu14:=hu13.trans hu4 (fun _ _ h=>h);have h4:=h1.upd hu14 (fun _ _ h=>h);have hj4:=hj3.upd hu4 (fun h=>h);refine Ok.use (bP h4) ?_;rintro u w5 ⟨rfl,rfl⟩;rw[hsz];simp(maxSteps:=3000000)(disch:=omega)only[push_cast,seval,hj4.cell];refine Ok.use (bP h4) ?_;rintro u w5 ⟨rfl,rfl⟩;rw[hsz];have hst:=gC (hslv.upd (hu3.trans hu4 (fun _ _ h=>h)) (fun _ h=>h.elim)) (l:=sz) (n:=nn) (by omega) hvc;rw[e2,Nat.zero_add] at hst;have ez:((sz:Int)+(nn:Int)).toNat-sz=nn:=by omega
 have hstl:(ar.take nn).length=nn:=by rw[List.length_take]; omega
 have hrs:Rng (ar.take nn):=hr2.take nn;simp(maxSteps:=3000000)(disch:=omega)only[push_cast,seval,hj4.cell,ez];refine bH (Bow.empty hbn) hst (by rw[hstl]; simp; omega) ?_;intro v5 w5 hown5 hu5 hfr5;rw[List.nil_append] at hown5;generalize hstr:ar.take nn=str at *;obtain⟨va5,vc5,rfl,hvc5⟩:=hown5.form;have hs14:=hu14.size;have hs3':w1.heap.size≤w3.heap.size:=hs13;have hu15:Upd (fun _=>False) w1 w5:=hu14.trans hu5 fun b hb e=>by have e:=aU e; omega
 have hj5:=hj0.upd hu15 (fun h=>h);have hfr5' : ∀g,(Value.slice va5 str.length vc5).ownBlock=some g→w1.heap.size≤g:=by
  intro g hg;rcases hfr5 g hg with h | h
  ·have:=aU h; omega
  ·omega
 have hu6:Upd (fun b=>b=w.heap.size) w5 (w5.setCell ⟨w.heap.size,3,none⟩ (.slice va5 str.length vc5)):=Upd.set rfl;have hj6:=hj5.set 3 (.slice va5 str.length vc5);simp(maxSteps:=3000000)(disch:=omega)only[push_cast,seval,hj4.cell,hj5.cell,hj5.free,ez];generalize w5.setCell ⟨w.heap.size,3,none⟩ (.slice va5 str.length vc5)=w6 at *;have hu16:Upd (fun b=>b=w.heap.size) w1 w6:=(hu15.mono fun _ _ h=>h.elim).trans hu6 (fun _ _ h=>h);have hu06:Upd (fun _=>False) w w6:=hu1.trans hu16 fun b hb e=>by omega
 have hown6:=hown5.upd hu6 fun g hg e=>by have:=hfr5' g hg; omega
 have hsl6:SlC w6 (fun b=>b<w.heap.size∨b=w.heap.size) (.slice va5 str.length vc5) str:=hown6.slc fun g hg e=>by have:=hfr5' g hg; omega
 refine Ok.use (rN hsl6.1 hrs (by omega)) ?_;rintro u w7 ⟨⟨u0,ok,rfl,hm⟩,hu7⟩;have hu07:=hu06.trans hu7 (fun _ _ h=>h);have hs6:=hu6.size;have hs7:=hu7.size;have hs5:=hu15.size;cases hsp:spl str with
 | none=>
  rw[hsp] at hm hop;obtain⟨rfl,rfl⟩:=hm;rw[hop];simp(maxSteps:=3000000)(disch:=omega)only[push_cast,seval];exact⟨rfl,hu07⟩
 | some ls=>
  rw[hsp] at hm hop;obtain⟨rfl,hm⟩:=hm;rw[hop];simp(maxSteps:=3000000)(disch:=omega)only[push_cast,seval];exact⟨⟨_,rfl,Nat.le_refl _,by omega,_,hj6.upd hu7 (fun h=>h),hsl6.upd hu7 (fun _ h=>h.elim),hrs⟩,hu07⟩
open Go
set_option maxRecDepth 100000
theorem rW {ch:Nat→Bool}{c:List (Nat×List Int)}{x:Nat×List Int}{dur:List (List Int)} : ∀{i:Nat},i≤c.length→settled ch (c ++ [x]) dur i=settled ch c dur i
 | 0,_=>rfl
 | i+1,h=>by
  simp only[settled];rw[List.getElem?_append_left (by omega),rW (i:=i) (by omega)]
theorem rX {ch:Nat→Bool}{c:List (Nat×List Int)}{x:Nat×List Int}{dur:List (List Int)}:settled ch (c ++ [x]) dur (c.length+1)=if ch c.length then (settled ch c dur c.length).set x.1 x.2 else settled ch c dur c.length:=by
 simp only[settled];rw[List.getElem?_append_right (Nat.le_refl _),Nat.sub_self,rW (Nat.le_refl _)];simp
def Poss (d:DS)(a:Nat)(b:List Int):Prop:=b=d.dur.getD a []∨(a,b)∈d.cache
theorem rY {ch:Nat→Bool}{dur:List (List Int)}{a:Nat} : ∀{c:List (Nat×List Int)} (k:Nat),k=c.length→(settled ch c dur k).getD a []=dur.getD a []∨(a,(settled ch c dur k).getD a [])∈c:=by
 intro c k;induction k generalizing c with
 | zero=>intro _; exact .inl rfl
 | succ k ih=>
  intro hk;obtain⟨c',x,rfl⟩ : ∃c' x,c=c' ++ [x]:=by
   have hne:c≠[]:=by intro e; subst e; simp at hk
   exact⟨c.dropLast,c.getLast hne,(List.dropLast_concat_getLast hne).symm⟩
  have hk':k=c'.length:=by simp at hk; omega
  subst hk';rw[rX];have h:=ih (c:=c') rfl;split
  ·by_cases e:x.1=a
   ·by_cases hl:a<(settled ch c' dur c'.length).length
    ·right;rw[List.getD_eq_getElem?_getD,e,List.getElem?_set_self hl,Option.getD_some];refine List.mem_append.2 (.inr ?_);rw[List.mem_singleton,←e]
    ·left;have hl2:=hl;rw[dG] at hl2;rw[List.getD_eq_getElem?_getD,List.getElem?_eq_none (by rw[List.length_set]; omega),List.getD_eq_getElem?_getD,List.getElem?_eq_none (by omega)]
   ·rw[List.getD_eq_getElem?_getD,List.getElem?_set_ne e,←List.getD_eq_getElem?_getD];rcases h with h | h
    ·exact .inl h
    ·exact .inr (List.mem_append.2 (.inl h))
  ·rcases h with h | h
   ·exact .inl h
   ·exact .inr (List.mem_append.2 (.inl h))
theorem rZ {d:DS}{keep:List Bool}{a:Nat}:Poss d a ((d.crash keep).dur.getD a []):=rY _ rfl
theorem lS {c:List (Nat×List Int)}{x:Nat×List Int}{a:Nat}:lastOf (c ++ [x]) a=if x.1=a then some x.2 else lastOf c a:=by
 unfold lastOf;rw[List.reverse_append,List.reverse_singleton,List.singleton_append,List.find?_cons];by_cases h:x.1=a
 ·simp[h]
 ·have:(x.1 == a)=false:=by simpa using h
  rw[this];simp[h]
theorem VY {dur:List (List Int)}{a:Nat}(ha:a<dur.length) : ∀{c:List (Nat×List Int)} (k:Nat),k=c.length→(settled (fun _=>true) c dur k).getD a []=(lastOf c a).getD (dur.getD a []):=by
 intro c k;induction k generalizing c with
 | zero=>
  intro hk;obtain rfl:c = []:=List.eq_nil_of_length_eq_zero hk.symm;rfl
 | succ k ih=>
  intro hk;obtain⟨c',x,rfl⟩ : ∃c' x,c=c' ++ [x]:=by
   have hne:c≠[]:=by intro e; subst e; simp at hk
   exact⟨c.dropLast,c.getLast hne,(List.dropLast_concat_getLast hne).symm⟩
  have hk':k=c'.length:=by simp at hk; omega
  subst hk';rw[rX,if_pos rfl,lS];by_cases e:x.1=a
  ·rw[if_pos e,List.getD_eq_getElem?_getD,e,List.getElem?_set_self (by rw[dG]; exact ha)];rfl
  ·rw[if_neg e,List.getD_eq_getElem?_getD,List.getElem?_set_ne e,←List.getD_eq_getElem?_getD];exact ih rfl
theorem sA (d:DS)(hoff:d.off=false):(d.step.1=true∧d.step.2.off=false∧d.step.2.dur=d.dur∧d.step.2.cache=d.cache∧d.step.2.size=d.size∧(d.cnt=none→d.step.2.cnt=none))∨
 (d.step.1=false∧d.step.2.off=true∧d.step.2.dur=d.dur∧d.step.2.cache=d.cache∧d.step.2.size=d.size∧d.cnt≠none):=by
 unfold DS.step;rw[hoff];simp only[Bool.false_eq_true,if_false];cases hc:d.cnt with
 | none=>exact .inl ⟨rfl,by first | rfl | exact hoff,rfl,rfl,rfl,fun _=>hc⟩
 | some k=>
  cases k with
  | zero=>exact .inr ⟨rfl,rfl,rfl,rfl,rfl,by simp⟩
  | succ k=>exact .inl ⟨rfl,by first | rfl | exact hoff,rfl,rfl,rfl,by simp⟩
theorem lU (d:DS)(hoff:d.off=false){x:Nat}{l:List Int}(hx:x<d.dur.length)(hl:l.length=d.size) :
 ((d.write x l).2=0∧(d.write x l).1.off=false∧(d.write x l).1.dur=d.dur∧(d.write x l).1.cache=d.cache ++ [(x,l)]∧(d.write x l).1.size=d.size∧(d.cnt=none→(d.write x l).1.cnt=none))∨
 ((d.write x l).2=8∧(d.write x l).1.off=true∧(d.write x l).1.dur=d.dur∧(d.write x l).1.cache=d.cache∧(d.write x l).1.size=d.size∧d.cnt≠none):=by
 have e:d.write x l=if d.step.1 then ({d.step.2 with cache:=d.step.2.cache ++ [(x,l)]},0) else (d.step.2,8):=by
  unfold DS.write;rw[if_pos ⟨by omega,by omega,hl⟩,Int.toNat_natCast]
 rw[e];rcases sA d hoff with ⟨h1,h2,h3,h4,h5,h6⟩ | ⟨h1,h2,h3,h4,h5,h6⟩
 ·rw[h1];exact .inl ⟨rfl,h2,h3,by rw[if_pos rfl]; simp only[h4],h5,h6⟩
 ·rw[h1];exact .inr ⟨rfl,h2,h3,h4,h5,h6⟩
theorem lV (d:DS)(hoff:d.off=false) :
 (d.sync.2=0∧d.sync.1.off=false∧(∀a,a<d.dur.length→d.sync.1.dur.getD a []=d.content a)∧d.sync.1.dur.length=d.dur.length∧d.sync.1.cache = []∧d.sync.1.size=d.size∧(d.cnt=none→d.sync.1.cnt=none))∨
 (d.sync.2=8∧d.sync.1.off=true∧d.sync.1.dur=d.dur∧d.sync.1.cache=d.cache∧d.sync.1.size=d.size∧d.cnt≠none):=by
 unfold DS.sync;rcases sA d hoff with ⟨h1,h2,h3,h4,h5,h6⟩ | ⟨h1,h2,h3,h4,h5,h6⟩
 ·rw[h1];refine .inl ⟨rfl,h2,fun a ha=>?_,?_,rfl,h5,h6⟩
  ·show(settled (fun _=>true) d.step.2.cache d.step.2.dur d.step.2.cache.length).getD a []=_;rw[h3,h4,VY ha _ rfl];rfl
  ·show(settled _ _ _ _).length=_;rw[dG,h3]
 ·rw[h1];exact .inr ⟨rfl,h2,h3,h4,h5,h6⟩
theorem sB {d d':DS}{x:Nat}{l:List Int}(hd:d'.dur=d.dur)(hc:d'.cache=d.cache ++ [(x,l)]){a:Nat}:d'.content a=if x=a then l else d.content a:=by
 unfold DS.content;rw[hc,hd,lS];by_cases h:x=a
 ·simp[h]
 ·simp[h]
theorem gI {d:DS}(h:d.cache = []){a:Nat}:d.content a=d.dur.getD a []:=by
 unfold DS.content; rw[h]; rfl
def HoldsL (L:Nat→List Int)(f s:Nat)(st:List Int):Prop:=headD (L f)=some st.length∧∀p,p<st.length→(L (f+1+p/s))[p%s]? =st[p]?
def DurL (d:DS)(a:Nat):List Int:=d.dur.getD a []
def Safe (d:DS)(f s:Nat)(Q:List Int→Prop):Prop:=∀L:Nat→List Int,(∀a,Poss d a (L a))→∃st,Q st∧HoldsL L f s st
theorem Safe.same {d d':DS}{f s:Nat}{Q:List Int→Prop}(h:Safe d f s Q)(h1:d'.dur=d.dur)(h2:d'.cache=d.cache):Safe d' f s Q:=by
 intro L hL;refine h L fun a=>?_;have:=hL a;unfold Poss at *;rwa [h1,h2] at this
structure Mid (d0 d : DS) (f c s : Nat) (st : List Int) : Prop where
 dur:d.dur=d0.dur
 size:d.size=d0.size
 only : ∀a b,(a,b)∈d.cache→∃i,a=f+1+i∧i<c-1∧∀o,o<s→i*s+o<st.length→b[o]? =st[i*s+o]?
theorem Mid.safe {d0 d:DS}{f c s:Nat}{st:List Int}(h:Mid d0 d f c s st)(hs:0<s)(hh:HoldsL (DurL d0) f s st):Safe d f s (· =st):=by
 intro L hL;refine⟨st,rfl,?_,fun p hp=>?_⟩
 ·rcases hL f with e | e
  ·rw[e,h.dur]; exact hh.1
  ·obtain⟨i,h1,_⟩:=h.only _ _ e; omega
 ·rcases hL (f+1+p/s) with e | e
  ·rw[e,h.dur]; exact hh.2 p hp
  ·obtain⟨i,h1,_,h2⟩:=h.only _ _ e;have hi:p/s=i:=by omega
   have hm:=Nat.mod_lt p hs;have hd:i*s+p%s=p:=by rw[←hi,Nat.mul_comm]; exact Nat.div_add_mod p s
   rw[h2 (p%s) hm (by omega),hd]
theorem sC {next:List Int}{s i o:Nat}(ho:o<s)(hp:i*s+o<next.length):(pad s ((next.drop (i*s)).take s))[o]? =next[i*s+o]? :=by
 have hl:o<((next.drop (i*s)).take s).length:=by rw[List.length_take,List.length_drop]; omega
 rw[pad,List.getElem?_append_left hl,List.getElem?_take_of_lt ho,List.getElem?_drop]
theorem sE {p s:Nat}(hs:0<s):p/s*s+p%s=p:=by rw [Nat.mul_comm]; exact Nat.div_add_mod p s
theorem sF {d0:DS}{f c s:Nat}{st next:List Int}(hs:0<s)(hpre : ∀p,p<st.length→next[p]? =st[p]?)(hfit:next.length≤(c-1)*s)(hn:f+c≤d0.dur.length)(hsz:d0.size=s) :
 ∀{k i:Nat} {z:DS×JS},next.length≤(i+k)*s→Mid d0 z.1 f c s st→z.1.off=false→z.2.down=false→z.2.first=f→
  (∀p,p<next.length→p<i*s→(z.1.content (f+1+p/s))[p%s]? =next[p]?)→z.1.content f=d0.dur.getD f []→
  Mid d0 (jloop next k i z).1 f c s st∧(z.1.cnt=none→(jloop next k i z).1.cnt=none)∧(((jloop next k i z).1.off=true∧(jloop next k i z).2.down=true∧z.1.cnt≠none)∨((jloop next k i z).1.off=false∧(jloop next k i z).2.down=false∧
   (∀p,p<next.length→((jloop next k i z).1.content (f+1+p/s))[p%s]? =next[p]?)∧(jloop next k i z).1.content f=d0.dur.getD f []))
 | 0,i,z,hk,hm,hoff,hdn,_,hc,hcf=>by
  rw[jloop];rw[Nat.add_zero] at hk;exact⟨hm,fun h=>h,.inr ⟨hoff,hdn,fun p hp=>hc p hp (by omega),hcf⟩⟩
 | k+1,i,z,hk,hm,hoff,hdn,hf,hc,hcf=>by
  rw[jloop];have hzs:z.1.size=s:=by rw[hm.size]; exact hsz
  rw[hzs];by_cases hi:i*s<next.length
  rotate_left
  ·rw[if_neg hi];exact⟨hm,fun h=>h,.inr ⟨hoff,hdn,fun p hp=>hc p hp (by omega),hcf⟩⟩
  rw[if_pos hi];have hic:i<c-1:=by
   refine Nat.lt_of_mul_lt_mul_right (a:=s) ?_;omega
  have hbl:((next.drop (i*s)).take s).length≤s:=List.length_take_le _ _
  have hx:f+(1+i)<z.1.dur.length:=by rw[hm.dur]; omega
  have hw:=lU z.1 hoff (x:=f+(1+i)) (l:=pad s ((next.drop (i*s)).take s)) hx (by rw[gG hbl,hzs])
  have ejw:jwrite z ((1+i:Nat):Int) ((next.drop (i*s)).take s)=((z.1.write ((f+(1+i):Nat):Int) (pad s ((next.drop (i*s)).take s))).1,{z.2 with down:=z.2.down || decide ((z.1.write ((f+(1+i):Nat):Int) (pad s ((next.drop (i*s)).take s))).2≠0)}):=by
   unfold jwrite;rw[hzs,hf,←Int.natCast_add]
  rcases hw with ⟨h1,h2,h3,h4,h5,h6⟩ | ⟨h1,h2,h3,h4,h5,h6⟩
  ·have hd':(jwrite z ((1+i:Nat):Int) ((next.drop (i*s)).take s)).2.down=false:=by rw[ejw,h1,hdn]; rfl
   rw[if_neg (by rw[hd']; decide)];have hm':Mid d0 (jwrite z ((1+i:Nat):Int) ((next.drop (i*s)).take s)).1 f c s st:=by
    rw[ejw];refine⟨h3.trans hm.dur,h5.trans hm.size,fun a b hab=>?_⟩;rw[h4] at hab;rcases List.mem_append.1 hab with hab | hab
    ·exact hm.only a b hab
    ·rw[List.mem_singleton] at hab;injection hab with ea eb;refine⟨i,by omega,hic,fun o ho hp=>?_⟩;rw[eb,sC ho (by
      have:(i*s+o)<next.length:=by
       have:=hpre (i*s+o) hp;rw[List.getElem?_eq_getElem hp] at this;exact(List.getElem?_eq_some_iff.1 this).1
      exact this)]
     exact hpre _ hp
   have hct : ∀a,(jwrite z ((1+i:Nat):Int) ((next.drop (i*s)).take s)).1.content a=if f+(1+i)=a then pad s ((next.drop (i*s)).take s) else z.1.content a:=by
    intro a;rw[ejw];exact sB h3 h4
   have:=sF (st:=st) hs hpre hfit hn hsz (k:=k) (i:=i+1) (z:=jwrite z ((1+i:Nat):Int) ((next.drop (i*s)).take s)) (by rw[show i+1+k=i+(k+1) from by omega]; exact hk) hm' (by rw[ejw]; exact h2) hd' hf
    (fun p hp hlt=>by
     rw[hct];have hds:=sE (p:=p) hs;have hm2:=Nat.mod_lt p hs;by_cases e:p/s=i
     ·rw[if_pos (by omega),sC hm2 (by rw[←e]; omega),←e,hds]
     ·rw[if_neg (by omega)];refine hc p hp ?_;have:p/s<i+1:=Nat.div_lt_of_lt_mul (by rw[Nat.mul_comm]; exact hlt);have h9:(p/s+1)*s≤i*s:=Nat.mul_le_mul_right _ (by omega);rw[Nat.add_mul,Nat.one_mul] at h9;omega)
    (by rw[hct,if_neg (by omega)]; exact hcf)
   refine⟨this.1,fun h=>this.2.1 (by rw[ejw]; exact h6 h),?_⟩;rcases this.2.2 with ⟨g1,g2,g3⟩ | g
   ·refine .inl ⟨g1,g2,fun h=>g3 ?_⟩;rw[ejw]; exact h6 h
   ·exact .inr g
  ·have hd':(jwrite z ((1+i:Nat):Int) ((next.drop (i*s)).take s)).2.down=true:=by rw[ejw,h1]; simp
   rw[if_pos hd'];refine⟨?_,fun h=>absurd h h6,.inl ⟨by rw[ejw]; exact h2,hd',h6⟩⟩;rw[ejw];refine⟨h3.trans hm.dur,h5.trans hm.size,fun a b hab=>hm.only a b ?_⟩;rw[h4] at hab;exact hab
open Go
set_option maxRecDepth 100000
theorem RngD.write {d:DS}(h:RngD d){x:Int}{l:List Int}(hl:Rng l):RngD (d.write x l).1:=by
 have hs:RngD d.step.2:=by
  unfold DS.step;split
  ·exact h
  ·split <;> exact⟨h.dur,h.cache⟩
 unfold DS.write;split
 ·split
  ·refine⟨hs.dur,fun y hy=>?_⟩;rcases List.mem_append.1 hy with hy | hy
   ·exact hs.cache y hy
   ·rw[List.mem_singleton] at hy;rw[hy]; exact hl
  ·exact hs
 ·exact h
theorem iV {ch:Nat→Bool}{c:List (Nat×List Int)}{dur:List (List Int)}(hd : ∀l,l∈dur→Rng l)(hc : ∀x,x∈c→Rng x.2) : ∀{i:Nat} l,l∈settled ch c dur i→Rng l
 | 0,l,h=>hd l h
 | i+1,l,h=>by
  simp only[settled] at h;split at h
  ·rename_i x hx;split at h
   ·rcases List.mem_or_eq_of_mem_set h with h | h
    ·exact iV hd hc l h
    ·rw[h]; exact hc x (List.mem_of_getElem? hx)
   ·exact iV hd hc l h
  ·exact iV hd hc l h
theorem RngD.settle {d:DS}(h:RngD d)(ch:Nat→Bool):RngD (d.settle ch):=⟨fun l hl=>iV h.dur h.cache l hl,fun x hx=>by cases hx⟩
theorem RngD.step {d:DS}(h:RngD d):RngD d.step.2:=by
 unfold DS.step;split
 ·exact h
 ·split <;> exact⟨h.dur,h.cache⟩
theorem RngD.sync {d:DS}(h:RngD d):RngD d.sync.1:=by
 unfold DS.sync;split
 ·exact h.step.settle _
 ·exact h.step
theorem RngD.new {n s:Nat}:RngD (DS.new n s):=⟨fun l hl=>by rw [List.eq_of_mem_replicate hl]; exact Rng.zeros,fun x hx=>by cases hx⟩
theorem Rng.pad {s:Nat}{l:List Int}(h:Rng l):Rng (pad s l):=h.append Rng.zeros
theorem lW {n:Nat}:Rng (headL n):=by
 unfold headL;rw[cQ];refine Rng.append (fun x hx=>?_) (bC n);simp at hx;omega
theorem iW {z:DS×JS}(h:RngD z.1){x:Int}{b:List Int}(hb:Rng b):RngD (jwrite z x b).1:=h.write hb.pad
theorem VZ {z:DS×JS}(h:RngD z.1):RngD (jsync z).1:=h.sync
theorem sG {z:DS×JS}(h:RngD z.1){n:Nat}:RngD (jcommit z n).1:=by
 unfold jcommit;split
 ·exact iW h lW
 ·exact VZ (iW h lW)
theorem sH {next:List Int}(hn:Rng next) : ∀{k i:Nat} {z:DS×JS},RngD z.1→RngD (jloop next k i z).1
 | 0,_,_,h=>h
 | k+1,i,z,h=>by
  rw[jloop];split
  ·split
   ·exact iW h ((hn.drop _).take _)
   ·exact sH hn (iW h ((hn.drop _).take _))
  ·exact h
theorem Sz.jsync {n sz i:Nat}{s:DS×JS}(h:Sz n sz i s.1):Sz n sz i (jsync s).1:=h.sync
theorem Sz.jcommit {n sz i:Nat}{s:DS×JS}(h:Sz n sz i s.1){m:Nat}:Sz n sz (i+1) (jcommit s m).1:=by
 unfold Fd.jcommit;split
 ·exact h.jwrite _ _
 ·exact(h.jwrite _ _).jsync
theorem Sz.jloop {n sz:Nat}{next:List Int} : ∀{k i0 i:Nat} {z:DS×JS},Sz n sz i z.1→Sz n sz (i+k) (jloop next k i0 z).1
 | 0,_,_,_,h=>h
 | k+1,i0,i,z,h=>by
  rw[Fd.jloop];split
  ·split
   ·exact(h.jwrite _ _).mono (by omega)
   ·have:=Sz.jloop (next:=next) (k:=k) (i0:=i0+1) (h.jwrite ((1+i0:Nat):Int) ((next.drop (i0*z.1.size)).take z.1.size))
    exact this.mono (by omega)
  ·exact h.mono (by omega)
theorem Sz.jappend {n sz i:Nat}{z:DS×JS}(h:Sz n sz i z.1)(recs:List (List Int)):Sz n sz (i+(z.2.stream ++ stream recs).length+1) (jappend z recs).1.1:=by
 unfold Fd.jappend;have h0:Sz n sz i (jready z).1:=h;split
 ·exact h0.mono (by omega)
 ·split
  ·exact h0.mono (by omega)
  ·split
   ·exact h0.mono (by omega)
   ·have h1:=Sz.jloop (next:=z.2.stream ++ stream recs) (k:=(z.2.stream ++ stream recs).length) (i0:=z.2.stream.length/z.1.size) h0
    dsimp only;split
    ·exact h1.mono (by omega)
    ·split
     ·exact h1.jsync.mono (by omega)
     ·split
      ·exact h1.jsync.jcommit
      ·exact h1.jsync.jcommit
theorem Sz.jreset {n sz i:Nat}{z:DS×JS}(h:Sz n sz i z.1):Sz n sz (i+1) (jreset z).1.1:=by
 unfold Fd.jreset;have h0:Sz n sz i (jready z).1:=h;split
 ·exact h0.mono (by omega)
 ·split
  ·exact h0.jcommit
  ·exact h0.jcommit
theorem sI {d:DS}{a:Nat}(h : ∀b,(a,b)∉d.cache):d.content a=d.dur.getD a []:=by
 unfold DS.content;cases hl:lastOf d.cache a with
 | none=>rfl
 | some l=>exact absurd (iU hl) (h l)
theorem V3 {d:DS}(h:d.cache = []){L:Nat→List Int}(hL : ∀a,Poss d a (L a))(a:Nat):L a=DurL d a:=by
 rcases hL a with e | e
 ·exact e
 ·rw[h] at e; cases e
theorem V4 {d:DS}(h:d.cache = []){f s:Nat}{st:List Int}{Q:List Int→Prop}(hh:HoldsL (DurL d) f s st)(hQ:Q st):Safe d f s Q:=by
 intro L hL;have:L=DurL d:=funext fun a=>V3 h hL a;rw[this];exact⟨st,hQ,hh⟩
theorem sJ {z:DS×JS}{f s:Nat}{old new:List Int}(hoff:z.1.off=false)(hca:z.1.cache = [])(hold:HoldsL (DurL z.1) f s old)(hnew : ∀p,p<new.length→(DurL z.1 (f+1+p/s))[p%s]? =new[p]?)
 (hdn:z.2.down=false) (hf:z.2.first=f) (hfl:f<z.1.dur.length) (hsz:z.1.size=s) (hs:11≤s) (hnl:new.length<2 ^ 21) :
 ((jcommit z new.length).2=z.2∧(jcommit z new.length).1.off=false∧(jcommit z new.length).1.cache = []∧HoldsL (DurL (jcommit z new.length).1) f s new∧(z.1.cnt=none→(jcommit z new.length).1.cnt=none)∧(∀a,a<z.1.dur.length→a≠f→DurL (jcommit z new.length).1 a=DurL z.1 a)∧DurL (jcommit z new.length).1 f=pad s (headL new.length))∨
 ((jcommit z new.length).2 = {z.2 with down:=true}∧(jcommit z new.length).1.off=true∧Safe (jcommit z new.length).1 f s (fun st=>st=old∨st=new)∧z.1.cnt≠none):=by
 have hhl:=lQ (k:=new.length) hnl;have hbl:(headL new.length).length≤s:=by omega
 have hhd:headD (pad s (headL new.length))=some new.length:=U9 (by omega) hbl;have ejw:jwrite z 0 (headL new.length)=((z.1.write (f:Int) (pad s (headL new.length))).1,{z.2 with down:=decide ((z.1.write (f:Int) (pad s (headL new.length))).2≠0)}):=by
  unfold jwrite;rw[hsz,hf,Int.add_zero,hdn];simp
 have hz2:z.2 = {z.2 with down:=false}:=by rw[←hdn]
 have ne1 : ∀q,f+1+q≠f:=fun q=>by omega
 rcases lU z.1 hoff (x:=f) (l:=pad s (headL new.length)) hfl (by rw[gG hbl,hsz]) with ⟨h1,h2,h3,h4,h5,h6⟩ | ⟨h1,h2,h3,h4,h5,h6⟩
 ·rw[hca,List.nil_append] at h4;have ejw':jwrite z 0 (headL new.length)=((z.1.write (f:Int) (pad s (headL new.length))).1,z.2):=by
   rw[ejw,h1];rw[show decide ((0:Int)≠0)=false from rfl,←hz2]
  have ejc:jcommit z new.length=jsync (jwrite z 0 (headL new.length)):=by
   unfold jcommit;rw[if_neg (by rw[ejw']; show ¬z.2.down=true; rw[hdn]; decide)]
  rw[ejc,ejw'];generalize (z.1.write (f:Int) (pad s (headL new.length))).1=d1 at *;have hpos : ∀{L:Nat→List Int},(∀a,Poss d1 a (L a))→∀a,a≠f→L a=DurL z.1 a:=by
   intro L hL a ha;rcases hL a with e | e
   ·rw[e,h3]; rfl
   ·rw[h4,List.mem_singleton] at e;injection e with e1 _;exact absurd e1 ha
  have hct : ∀a,d1.content a=if f=a then pad s (headL new.length) else DurL z.1 a:=by
   intro a;rw[sB (d:=z.1) h3 (by rw[h4,hca]; rfl),gI hca];rfl
  rcases lV d1 h2 with ⟨g1,g2,g3,g4,g5,g6,g7⟩ | ⟨g1,g2,g3,g4,g5,g6⟩
  ·left;have ejs:jsync (d1,z.2)=(d1.sync.1,z.2):=by
    unfold jsync;rw[g1,hdn];rw[show(false || decide ((0:Int)≠0))=false from rfl,←hz2]
   rw[ejs];have hdl : ∀a,a<z.1.dur.length→DurL d1.sync.1 a=if f=a then pad s (headL new.length) else DurL z.1 a:=by
    intro a ha;show d1.sync.1.dur.getD a []=_;rw[g3 a (by rw[h3]; exact ha),hct]
   refine⟨rfl,g2,g5,⟨by rw[hdl f hfl,if_pos rfl]; exact hhd,fun p hp=>?_⟩,fun h=>g7 (h6 h),fun a ha hne=>by rw[hdl a ha,if_neg (Ne.symm hne)],by rw[hdl f hfl,if_pos rfl]⟩;have hn:=hnew p hp;have hlt:f+1+p/s<z.1.dur.length:=by
    refine Classical.byContradiction fun hlt=>?_;unfold DurL at hn;rw[List.getD_eq_getElem?_getD,List.getElem?_eq_none (Nat.le_of_not_lt hlt),List.getElem?_eq_getElem hp] at hn;simp at hn
   rw[hdl _ hlt,if_neg (Ne.symm (ne1 _))];exact hn
  ·right;have ejs:jsync (d1,z.2)=(d1.sync.1,{z.2 with down:=true}):=by
    unfold jsync;rw[g1];simp
   rw[ejs];refine⟨rfl,g2,?_,fun h=>g6 (h6 h)⟩;refine Safe.same (d:=d1) (fun L hL=>?_) g3 g4;rcases hL f with e | e
   ·refine⟨old,.inl rfl,?_,fun p hp=>?_⟩
    ·rw[e,h3]; exact hold.1
    ·rw[hpos hL _ (ne1 _)]; exact hold.2 p hp
   ·refine⟨new,.inr rfl,?_,fun p hp=>?_⟩
    ·rw[h4,List.mem_singleton] at e;injection e with _ e;rw[e]; exact hhd
    ·rw[hpos hL _ (ne1 _)]; exact hnew p hp
 ·right;have ejw':jwrite z 0 (headL new.length)=((z.1.write (f:Int) (pad s (headL new.length))).1,{z.2 with down:=true}):=by
   rw[ejw,h1]; rfl
  have ejc:jcommit z new.length=jwrite z 0 (headL new.length):=by
   unfold jcommit;rw[if_pos (by rw[ejw'])]
  rw[ejc,ejw'];exact⟨rfl,h2,(V4 hca hold (.inl rfl)).same h3 h4,h6⟩
open Go
set_option maxRecDepth 100000
structure GoodD (n f c s : Nat) (d : DS) (ls : List (List Int)) : Prop where
 sz:Sz n s 0 d
 off:d.off=false
 cache:d.cache = []
 rng:RngD d
 holds:HoldsL (DurL d) f s (stream ls)
 fit:(stream ls).length≤(c-1)*s
 rl:RngL ls
structure Dims (n f c s : Nat) : Prop where
 s1:16≤s
 s2:s≤4096
 c1:2≤c
 fc:f+c≤n
 n1:n≤65536
 ar:c*s≤250000
theorem Dims.area {n f c s:Nat}(h:Dims n f c s):(c-1)*s≤250000:=Nat.le_trans (Nat.mul_le_mul_right _ (by omega)) h.ar
def jsOf (f c s:Nat)(ls:List (List Int)):JS:=⟨f,(c-1)*s,stream ls,false⟩
structure BadD (n f c s i : Nat) (d : DS) (Q : List (List Int) → Prop) : Prop where
 sz:Sz n s i d
 off:d.off=true
 rng:RngD d
 safe:Safe d f s fun st=>∃ls,Q ls∧st=stream ls∧(stream ls).length≤(c-1)*s∧RngL ls
theorem GoodD.new {n f c s:Nat}(h:Dims n f c s):GoodD n f c s (DS.new n s) []:=by
 refine⟨Sz.new,rfl,rfl,RngD.new,⟨?_,fun p hp=>by rw[cA] at hp; simp at hp⟩,by rw[cA]; simp,fun l hl=>by simp at hl⟩;have hf:=h.fc;have hc:=h.c1;have e:DurL (DS.new n s) f=List.replicate s 0:=by
  unfold DurL DS.new;simp only;rw[List.getD_eq_getElem?_getD,List.getElem?_replicate,if_pos (by omega)];rfl
 rw[e,U8,cA];rfl
theorem sK {ls:List (List Int)}(h:RngL ls):Rng (stream ls):=by
 intro x hx;obtain⟨l,hl,hx⟩:=List.mem_flatMap.1 hx;rcases List.mem_append.1 hx with hx | hx
 ·exact bC _ x hx
 ·exact h l hl x hx
theorem RngL.append {a b:List (List Int)}(h1:RngL a)(h2:RngL b):RngL (a ++ b):=by
 intro l hl;rcases List.mem_append.1 hl with hl | hl
 ·exact h1 l hl
 ·exact h2 l hl
theorem GoodD.jready {n f c s:Nat}{d:DS}{ls:List (List Int)}(h:GoodD n f c s d ls):jready (d,jsOf f c s ls)=(d,jsOf f c s ls):=by
 unfold Fd.jready jsOf;rw[h.off];rfl
structure OpRes (n f c s : Nat) (d : DS) (ls next : List (List Int)) (r : (DS × JS) × Int) : Prop where
 sz:Sz n s 300000 r.1.1
 res:(r.2=0∧GoodD n f c s r.1.1 next∧r.1.2=jsOf f c s next∧(d.cnt=none→r.1.1.cnt=none)∧(∀a,a<n→(a<f∨f+c≤a)→DurL r.1.1 a=DurL d a)∧((r.1.1=d∧next=ls)∨DurL r.1.1 f=pad s (headL (stream next).length)))∨
  (r.2=8∧r.1.2 = {jsOf f c s ls with down:=true}∧BadD n f c s 300000 r.1.1 (fun x=>x=ls∨x=next)∧d.cnt≠none)
theorem V5 {n f c s:Nat}{d:DS}{ls:List (List Int)}(h:GoodD n f c s d ls)(hd:Dims n f c s):OpRes n f c s d ls [] (jreset (d,jsOf f c s ls)):=by
 have hs1:=hd.s1;have hf:=hd.fc;have hc:=hd.c1;have hsz:=(Sz.jreset (z:=(d,jsOf f c s ls)) h.sz).mono (show 0+1≤300000 by omega);have hcs:=sJ (z:=(d,jsOf f c s ls)) (f:=f) (s:=s) (old:=stream ls) (new:=[]) h.off h.cache h.holds (fun p hp=>by simp at hp) rfl rfl (by rw[show(d,jsOf f c s ls).1.dur.length=n from h.sz.dur]; omega) h.sz.size (by omega) (by simp);have hrng:=sG (z:=(d,jsOf f c s ls)) h.rng (n:=0);have hcsz:=Sz.jcommit (s:=(d,jsOf f c s ls)) h.sz (m:=0);have e:jreset (d,jsOf f c s ls)=if (jcommit (d,jsOf f c s ls) 0).2.down then (jcommit (d,jsOf f c s ls) 0,8) else (((jcommit (d,jsOf f c s ls) 0).1,{(jcommit (d,jsOf f c s ls) 0).2 with stream:=[]}),0):=by
  unfold jreset;rw[h.jready];rfl
 refine⟨hsz,?_⟩;rw[e];rcases hcs with ⟨h1,h2,h3,h4,h5,h6,h7⟩ | ⟨h1,h2,h3,h4⟩
 ·left;have h1:(jcommit (d,jsOf f c s ls) 0).2=jsOf f c s ls:=h1;have h2:(jcommit (d,jsOf f c s ls) 0).1.off=false:=h2;have h3:(jcommit (d,jsOf f c s ls) 0).1.cache = []:=h3;rw[if_neg (by rw[h1]; exact Bool.noConfusion)];refine⟨rfl,⟨⟨hcsz.dur,hcsz.size,by rw[h3]; exact Nat.le_refl _,hcsz.cnt⟩,h2,h3,hrng,h4,by rw[cA]; simp,fun l hl=>by simp at hl⟩,by rw[h1]; rfl,h5,fun a ha hout=>?_,.inr h7⟩;exact h6 a (by rw[show(d,jsOf f c s ls).1.dur.length=n from h.sz.dur]; exact ha) (by omega)
 ·right;have h1:(jcommit (d,jsOf f c s ls) 0).2 = {jsOf f c s ls with down:=true}:=h1;rw[if_pos (by rw[h1])];refine⟨rfl,h1,⟨hcsz.mono (by omega),h2,hrng,fun L hL=>?_⟩,h4⟩;obtain⟨st,g1,g2⟩:=h3 L hL;rcases g1 with rfl | rfl
  ·exact⟨_,⟨ls,.inl rfl,rfl,h.fit,h.rl⟩,g2⟩
  ·exact⟨_,⟨[],.inr rfl,rfl,by rw[cA]; simp,fun l hl=>by simp at hl⟩,g2⟩
theorem V6 {n f c s:Nat}{d:DS}{ls recs:List (List Int)}(h:GoodD n f c s d ls)(hfull:(c-1)*s<(stream (ls ++ recs)).length):jappend (d,jsOf f c s ls) recs=((d,jsOf f c s ls),7):=by
 have hne:recs≠[]:=by
  intro e;subst e;rw[List.append_nil] at hfull;have:=h.fit;omega
 unfold jappend;rw[h.jready];have hdn : ¬(jsOf f c s ls).down=true:=Bool.false_ne_true;rw[if_neg hdn,if_neg hne,if_pos];rw[cY,List.length_append] at hfull;have:=h.fit;show(c-1)*s-(stream ls).length<(stream recs).length;omega
theorem V7 {n f c s:Nat}{d:DS}{ls recs:List (List Int)}(h:GoodD n f c s d ls)(hd:Dims n f c s)(hr:RngL recs)(hfit:(stream (ls ++ recs)).length≤(c-1)*s):OpRes n f c s d ls (ls ++ recs) (jappend (d,jsOf f c s ls) recs):=by
 have hs1:=hd.s1;have hfc:=hd.fc;have hc1:=hd.c1;have har:=hd.area;have hnext:stream (ls ++ recs)=stream ls ++ stream recs:=cY;have hszA:=Sz.jappend (z:=(d,jsOf f c s ls)) h.sz recs;have hszA':Sz n s 300000 (jappend (d,jsOf f c s ls) recs).1.1:=hszA.mono (by
  show 0+(stream ls ++ stream recs).length+1≤300000;rw[←hnext];omega)
 refine⟨hszA',?_⟩;have hdn : ¬(jsOf f c s ls).down=true:=Bool.false_ne_true;have hA:jappend (d,jsOf f c s ls) recs=_:=rfl;conv at hA=>rhs; unfold jappend
 rw[h.jready,if_neg hdn] at hA;by_cases hr0:recs = []
 ·rw[if_pos hr0] at hA;rw[hA];subst hr0;rw[List.append_nil];exact .inl ⟨rfl,h,rfl,fun h=>h,fun _ _ _=>rfl,.inl ⟨rfl,rfl⟩⟩
 rw[if_neg hr0,if_neg (by
  show ¬(c-1)*s-(stream ls).length<(stream recs).length;have:=h.fit;rw[hnext,List.length_append] at hfit;omega)] at hA
 have hNe:(jsOf f c s ls).stream ++ stream recs=stream (ls ++ recs):=hnext.symm;have hsize:d.size=s:=h.sz.size;have hdl:d.dur.length=n:=h.sz.dur;rw[show((d,jsOf f c s ls):DS×JS).2.stream=stream ls from rfl,show((d,jsOf f c s ls):DS×JS).1.size=s from hsize,←hnext] at hA;dsimp only at hA;have hrl:=h.rl.append hr;have hNr:=sK hrl;obtain⟨N,hN⟩ : ∃N,N=stream (ls ++ recs):=⟨_,rfl⟩;have hpre : ∀p,p<(stream ls).length→N[p]? =(stream ls)[p]? :=by
  intro p hp;rw[hN,hnext,List.getElem?_append_left hp]
 have hlen:(stream ls).length≤N.length:=by rw[hN,hnext,List.length_append]; omega
 rw[←hN] at hA hfit hNr;have hmid0:Mid d d f c s (stream ls):=⟨rfl,rfl,fun a b hab=>by rw[h.cache] at hab; cases hab⟩;have hloop:=sF (d0:=d) (f:=f) (c:=c) (s:=s) (st:=stream ls) (next:=N) (by omega) hpre hfit (by rw[hdl]; exact hfc) hsize (k:=N.length) (i:=(stream ls).length/s) (z:=(d,jsOf f c s ls))
  (by
   have:N.length*1≤N.length*s:=Nat.mul_le_mul_left _ (by omega);rw[Nat.add_mul];omega) hmid0 h.off rfl rfl
  (fun p hp hlt=>by
   have hd0:=Nat.div_mul_le_self (stream ls).length s;have hps:p<(stream ls).length:=Nat.lt_of_lt_of_le hlt hd0;rw[hpre p hps];show(d.content _)[_]? =_;rw[gI h.cache];exact h.holds.2 p hps)
  (by show d.content f=_; rw[gI h.cache])
 have hlrng:=sH (next:=N) hNr (k:=N.length) (i:=(stream ls).length/s) (z:=(d,jsOf f c s ls)) h.rng
 have hlsz:=Sz.jloop (next:=N) (k:=N.length) (i0:=(stream ls).length/s) (z:=(d,jsOf f c s ls)) h.sz
 have hkeep:=rT (next:=N) (k:=N.length) (i:=(stream ls).length/s) (s:=(d,jsOf f c s ls))
 have hlsz':=hlsz.mono (show 0+N.length≤300000 by omega);obtain⟨k1,k2,k3⟩:=hkeep;generalize jloop N N.length ((stream ls).length/s) (d,jsOf f c s ls)=z2 at *;obtain⟨hmid,hcnt2,hcase⟩:=hloop;have js2 : ∀b,z2.2.down=b→z2.2 = {jsOf f c s ls with down:=b}:=by
  intro b hb;obtain⟨d2,first,area,st,dn⟩:=z2
  simp only at hb k1 k2 k3;subst hb k1 k2 k3;rfl
 have hQold : ∀{x:DS},Safe x f s (· =stream ls)→Safe x f s fun st=>∃l,(l=ls∨l=ls ++ recs)∧st=stream l∧(stream l).length≤(c-1)*s∧RngL l:=by
  intro x hx L hL;obtain⟨st,g1,g2⟩:=hx L hL;exact⟨st,⟨ls,.inl rfl,g1,h.fit,h.rl⟩,g2⟩
 rcases hcase with ⟨h1,h2,h3⟩ | ⟨h1,h2,h3,h4⟩
 ·rw[if_pos h2] at hA;rw[hA];exact .inr ⟨rfl,js2 true h2,⟨hlsz',h1,hlrng,hQold (hmid.safe (by omega) h.holds)⟩,h3⟩
 have hj2:=js2 false h2;rw[if_neg (by rw[h2]; decide)] at hA;have hdl2:z2.1.dur.length=n:=hlsz.dur;rcases lV z2.1 h1 with ⟨g1,g2,g3,g4,g5,g6,g7⟩ | ⟨g1,g2,g3,g4,g5,g6⟩;rotate_left
 ·have hjs:jsync z2=(z2.1.sync.1,{jsOf f c s ls with down:=true}):=by
   unfold jsync;rw[g1,hj2];rfl
  rw[hjs,if_pos rfl] at hA;rw[hA];refine .inr ⟨rfl,rfl,⟨hlsz'.sync,g2,hlrng.sync,hQold ((hmid.safe (by omega) h.holds).same g3 g4)⟩,fun h=>g6 (hcnt2 h)⟩
 have hjs:jsync z2=(z2.1.sync.1,jsOf f c s ls):=by
  unfold jsync;rw[g1,hj2];rfl
 rw[hjs,if_neg hdn] at hA;have hsz3:=hlsz'.sync;have hrg3:=hlrng.sync;generalize z2.1.sync.1=d3 at *;have hd3 : ∀a,a<n→DurL d3 a=z2.1.content a:=fun a ha=>g3 a (by rw[hdl2]; exact ha);have hnew3 : ∀p,p<N.length→(DurL d3 (f+1+p/s))[p%s]? =N[p]? :=by
  intro p hp;have h9:=h3 p hp;have hlt:f+1+p/s<n:=by
   have h8:p/s<c-1:=Nat.div_lt_of_lt_mul (by rw[Nat.mul_comm]; omega);generalize p/s=q at h8 ⊢;omega
  rw[hd3 _ hlt];exact h9
 have hold3:HoldsL (DurL d3) f s (stream ls):=by
  refine⟨?_,fun p hp=>by rw[hnew3 p (by omega),hpre p hp]⟩;rw[hd3 f (by omega),h4];exact h.holds.1
 have hcs:=sJ (z:=(d3,jsOf f c s ls)) (f:=f) (s:=s) (old:=stream ls) (new:=N) g2 g5 hold3 hnew3 rfl rfl (by show f<d3.dur.length; rw[hsz3.dur]; omega) hsz3.size (by omega) (by omega);have hcrng:=sG (z:=(d3,jsOf f c s ls)) hrg3 (n:=N.length);have hcsz:=Sz.jcommit (s:=(d3,jsOf f c s ls)) ((show Sz n s 0 d3 from⟨hsz3.dur,hsz3.size,by rw[g5]; exact Nat.le_refl _,hsz3.cnt⟩)) (m:=N.length);rcases hcs with ⟨q1,q2,q3,q4,q5,q6,q7⟩ | ⟨q1,q2,q3,q4⟩
 ·rw[if_neg (by rw[q1]; exact hdn)] at hA;rw[hA];refine .inl ⟨rfl,⟨⟨hcsz.dur,hcsz.size,by rw[q3]; exact Nat.le_refl _,hcsz.cnt⟩,q2,q3,hcrng,by rw[←hN]; exact q4,by rw[←hN]; exact hfit,hrl⟩,by rw[q1,hN]; rfl,fun h=>q5 (g7 (hcnt2 h)),fun a ha hout=>?_,.inr (by rw[←hN]; exact q7)⟩;have e1:=q6 a (by show a<d3.dur.length; rw[hsz3.dur]; exact ha) (by omega);rw[e1];show DurL d3 a=_;rw[hd3 a ha,sI (fun b hab=>?_),hmid.dur]
  ·rfl
  ·obtain⟨i,e2,e3,_⟩:=hmid.only a b hab;omega
 ·rw[if_pos (by rw[q1])] at hA;rw[hA];refine .inr ⟨rfl,q1,⟨hcsz.mono (by omega),q2,hcrng,fun L hL=>?_⟩,fun h=>q4 (g7 (hcnt2 h))⟩;obtain⟨st,p1,p2⟩:=q3 L hL;rcases p1 with rfl | rfl
  ·exact⟨_,⟨ls,.inl rfl,rfl,h.fit,h.rl⟩,p2⟩
  ·exact⟨_,⟨ls ++ recs,.inr rfl,hN,by rw[←hN]; exact hfit,hrl⟩,p2⟩
end Go.Proofs.YtpgigkceoolgeaaGreatDoor.Fd
