import Derived.Test.YtpgigkceoolgeaaGreatDoorS034
set_option linter.all false
namespace Go.Proofs.YtpgigkceoolgeaaGreatDoor.Fd
open Go
set_option maxRecDepth 100000
def SmC (x:Cmd):Prop:=x.ws.length≤6∧x.tag.length≤100∧∀y,y∈x.ws→y.o.length≤40∧y.d.length≤200
theorem iE {α:Type}{f:α→List Int}{m:Nat} : ∀{l:List α},(∀x,x∈l→(f x).length≤m)→(l.flatMap f).length≤l.length*m
 | [],_=>Nat.zero_le _
 | x :: l,h=>by
  have:=iE (l:=l) fun y hy=>h y (List.mem_cons_of_mem _ hy);have hx:=h x List.mem_cons_self;rw[List.flatMap_cons,List.length_append,List.length_cons,Nat.add_mul];omega
theorem fM {l:List Int}{m:Nat}(h:l.length≤m)(hm:m≤1000000):(encB l).length≤10+m:=by
 have:=aL (n:=l.length) (by omega);simp only[encB,List.length_append];omega
theorem SmC.cmdB {x:Cmd}(h:SmC x)(hw:CmdW x):CmdB x:=by
 refine⟨hw,?_⟩;obtain⟨w1,w2,w3,w4,w5,w6⟩:=hw;obtain⟨h1,h2,h3⟩:=h;have e1:=bQ w1;have e2:=bQ w2;have e3:=bQ w3;have e4:=bQ w4;have e5:=aL (n:=x.ws.length) (by omega);have e6:=iE (f:=encW) (m:=260) (l:=x.ws) fun y hy=>by
  have:=fM (h3 y hy).1 (by decide);have:=fM (h3 y hy).2 (by decide);simp only[encW,List.length_append];omega
 have e7:=fM h2 (by decide);have e8:x.ws.length*260≤6*260:=Nat.mul_le_mul_right _ h1;have:(encC x).length=(encI x.client).length+(encI x.seq).length+(encI x.kind).length+(encU x.ws.length).length+(x.ws.flatMap encW).length+(encI x.rep).length+(encB x.tag).length:=by simp only[encC,encC0,List.length_append]
 omega
theorem fN {s:ByteArray}{w:World}:lenS Tryz.prog 9 (.string s) w=some (.int .i64 (s.size:Int),w):=by kernel_rfl
set_option maxHeartbeats 4000000 in
theorem kL {w:World}{F:Nat→Prop}{v:Value}{l:List Cmd}(hv:SlD eC w F v l){m:Nat}(hm:m≤1000) :
 Ok (den Tryz.prog 37 #[v,.int .i64 (m:Int)] w) fun u w'=>(∃b,u = .bool b∧(b=true→l.length≤m∧∀x,x∈l→CmdB x))∧Upd NoB w w':=by
 obtain⟨va,vc,rfl,_⟩:=hv.form;refine aB (args:=[.slice va l.length vc,.int .i64 (m:Int)]) rs37 Tryz.func37 rfl mixed (by kernel_rfl) PO rfl ?_;by_cases hlen:m<l.length
 ·have h1:(m:Int)<(l.length:Int):=by omega
  simp(disch:=omega)only[push_cast,seval,h1];exact⟨⟨false,rfl,fun e=>by cases e⟩,Upd.refl⟩
 have h1 : ¬(m:Int)<(l.length:Int):=by omega
 simp(disch:=omega)only[push_cast,seval,h1];refine aG (I:=fun k st w'=>Bx (∃i:Nat,k+i=l.length∧st = [.int .i64 (i:Int)]∧w'=w∧∀(j:Nat) (x:Cmd),j<i→l[j]? =some x→SmC x) ⟨⟩) ?_ l.length ⟨0,rfl,rfl,rfl,fun j x h=>by omega⟩;rintro k st w2 ⟨i,hk,rfl,rfl,hsm⟩;by_cases hk0:k=0
 ·obtain rfl:i=l.length:=by omega
  simp(disch:=omega)only[push_cast,seval];refine⟨⟨true,rfl,fun _=>⟨by omega,fun x hx=>?_⟩⟩,Upd.refl⟩;obtain⟨j,hj⟩:=List.getElem?_of_mem hx;exact(hsm j x (List.getElem?_eq_some_iff.1 hj).1 hj).cmdB (hv.allC x hx)
 have hi:i<l.length:=by omega
 have hi':(i:Int)<(l.length:Int):=by omega
 have hx:=List.getElem?_eq_getElem hi;generalize l[i]=x at hx;obtain⟨g,o,cs,rfl,hg,hx1,hx2⟩:=hv.row hx;obtain⟨wv,tv,rfl,hws,htag,hi1,hi2,hi3,hi4,hww,hrt⟩:=hx1;obtain⟨wa,wc,rfl,_⟩:=hws.form;obtain⟨ta,tc,rfl⟩:=htag.form;have es:eC.s=6:=rfl;rw[es] at hx2;have u0:Upd NoB w2 w2:=Upd.refl;have r3:w2.cell? ⟨g,o+i*6+3,none⟩=some (.slice wa x.ws.length wc):=hx2 u0 3 (by decide);have r5:w2.cell? ⟨g,o+i*6+5,none⟩=some (.slice ta x.tag.length tc):=hx2 u0 5 (by decide);by_cases c1:6<x.ws.length
 ·have c1':(6:Int)<(x.ws.length:Int):=by omega
  simp(maxSteps:=3000000)(disch:=omega)only[push_cast,seval,hi',r3,r5,c1'];exact⟨⟨false,rfl,fun e=>by cases e⟩,Upd.refl⟩
 have c1' : ¬(6:Int)<(x.ws.length:Int):=by omega
 by_cases c2:100<x.tag.length
 ·have c2':(100:Int)<(x.tag.length:Int):=by omega
  simp(maxSteps:=3000000)(disch:=omega)only[push_cast,seval,hi',r3,r5,c1',c2'];exact⟨⟨false,rfl,fun e=>by cases e⟩,Upd.refl⟩
 have c2' : ¬(100:Int)<(x.tag.length:Int):=by omega
 simp(maxSteps:=3000000)(disch:=omega)only[push_cast,seval,hi',r3,r5,c1',c2'];refine aG (I:=fun k st w'=>Bx (∃j:Nat,k+j=x.ws.length∧st = [.int .i64 (j:Int)]∧w'=w2∧∀(q:Nat) (y:Wt),q<j→x.ws[q]? =some y→y.o.length≤40∧y.d.length≤200) ⟨⟩) ?_ x.ws.length ⟨0,rfl,rfl,rfl,fun j x h=>by omega⟩;rintro k' st w3 ⟨j,hk',rfl,rfl,hsw⟩;by_cases hk0':k'=0
 ·obtain rfl:j=x.ws.length:=by omega
  simp(maxSteps:=3000000)(disch:=omega)only[push_cast,seval,r3,r5];refine⟨k-1,by omega,i+1,by omega,rfl,rfl,fun q y hq hy=>?_⟩;rcases Nat.lt_or_ge q i with hqi | hqi
  ·exact hsm q y hqi hy
  ·obtain rfl:q=i:=by omega
   rw[hx] at hy;injection hy with hy;subst hy;refine⟨by omega,by omega,fun z hz=>?_⟩;obtain⟨r,hr⟩:=List.getElem?_of_mem hz;exact hsw r z (List.getElem?_eq_some_iff.1 hr).1 hr
 have hj:j<x.ws.length:=by omega
 have hj':(j:Int)<(x.ws.length:Int):=by omega
 have hy:=List.getElem?_eq_getElem hj;generalize x.ws[j]=y at hy;obtain⟨g2,o2,ys,rfl,hg2,hy1,hy2⟩:=hws.row hy;obtain⟨dv,rfl,hd,hyw⟩:=hy1;obtain⟨da,dc,rfl⟩:=hd.form;have ew:eW.s=2:=rfl;rw[ew] at hy2;have p0:w3.cell? ⟨g2,o2+j*2,none⟩=some (.string (strOfNums y.o)):=hy2 u0 0 (by decide);have p1:w3.cell? ⟨g2,o2+j*2+1,none⟩=some (.slice da y.d.length dc):=hy2 u0 1 (by decide);by_cases c3:40<y.o.length
 ·have c3':(40:Int)<(y.o.length:Int):=by omega
  simp(maxSteps:=3000000)(disch:=omega)only[push_cast,seval,hi',hj',r3,r5,p0,p1,fN,bW,c3'];exact⟨⟨false,rfl,fun e=>by cases e⟩,Upd.refl⟩
 have c3' : ¬(40:Int)<(y.o.length:Int):=by omega
 by_cases c4:200<y.d.length
 ·have c4':(200:Int)<(y.d.length:Int):=by omega
  simp(maxSteps:=3000000)(disch:=omega)only[push_cast,seval,hi',hj',r3,r5,p0,p1,fN,bW,c3',c4'];exact⟨⟨false,rfl,fun e=>by cases e⟩,Upd.refl⟩
 have c4' : ¬(200:Int)<(y.d.length:Int):=by omega
 simp(maxSteps:=3000000)(disch:=omega)only[push_cast,seval,hi',hj',r3,r5,p0,p1,fN,bW,c3',c4'];refine⟨k'-1,by omega,j+1,by omega,rfl,rfl,fun q z hq hz=>?_⟩;rcases Nat.lt_or_ge q j with hqj | hqj
 ·exact hsw q z hqj hz
 ·obtain rfl:q=j:=by omega
  rw[hy] at hz;injection hz with hz;subst hz;exact⟨by omega,by omega⟩
set_option maxHeartbeats 4000000 in
theorem aCa {w:World}{F:Nat→Prop}{c:Cmd}{cs:List Value}(hc:eC.C w F c cs)(hl:c.ws.length≤1000) :
 Ok (den Tryz.prog 159 #[.agg cs.toArray] w) fun u w'=>(∃b,u = .bool b)∧Upd NoB w w':=by
 obtain⟨wv,tv,rfl,hws,htag,hi1,hi2,hi3,hi4,hww,hrt⟩:=hc;obtain⟨wa,wc,rfl,_⟩:=hws.form;obtain⟨ta,tc,rfl⟩:=htag.form;refine aB (args:=[.agg #[.int .i64 c.client,.int .i64 c.seq,.int .i64 c.kind,.slice wa c.ws.length wc,.int .i64 c.rep,.slice ta c.tag.length tc]]) rs159 Tryz.func159 rfl mixed (by kernel_rfl) S3 rfl ?_;rw[aD];generalize hKs:KS _ _ _ _ _=Ks;simp(disch:=omega)only[push_cast,seval];have b0:=Blk.new (w:=w) (cs:=[.int .i64 c.client,.int .i64 c.seq,.int .i64 c.kind,.slice wa c.ws.length wc,.int .i64 c.rep,.slice ta c.tag.length tc]) (E:=76);have u0:Upd NoB w (w.alloc (.cells [.int .i64 c.client,.int .i64 c.seq,.int .i64 c.kind,.slice wa c.ws.length wc,.int .i64 c.rep,.slice ta c.tag.length tc].toArray 76 (0,0))):=Upd.alloc;generalize w.alloc (.cells [.int .i64 c.client,.int .i64 c.seq,.int .i64 c.kind,.slice wa c.ws.length wc,.int .i64 c.rep,.slice ta c.tag.length tc].toArray 76 (0,0))=w0 at *;have hws0:=hws.q aR u0;have h0c:=b0.cell;subst hKs;rw[aC];by_cases c1:(8:Int)<(c.ws.length:Int)
 ·simp(maxSteps:=3000000)(disch:=omega)only[push_cast,seval,h0c,c1];exact⟨⟨_,rfl⟩,u0⟩
 by_cases c2:(600:Int)<(c.tag.length:Int)
 ·simp(maxSteps:=3000000)(disch:=omega)only[push_cast,seval,h0c,c1,c2];exact⟨⟨_,rfl⟩,u0⟩
 by_cases c3:c.client < -1000
 ·simp(maxSteps:=3000000)(disch:=omega)only[push_cast,seval,h0c,c1,c2,c3];exact⟨⟨_,rfl⟩,u0⟩
 by_cases c4:1000<c.client
 ·simp(maxSteps:=3000000)(disch:=omega)only[push_cast,seval,h0c,c1,c2,c3,c4];exact⟨⟨_,rfl⟩,u0⟩
 simp(maxSteps:=3000000)(disch:=omega)only[push_cast,seval,h0c,c1,c2,c3,c4];refine aG (I:=fun k st w'=>Bx (∃j:Nat,k+j=c.ws.length∧st = [.int .i64 (j:Int)]∧w'=w0) ⟨⟩) ?_ c.ws.length ⟨0,rfl,rfl,rfl⟩;rintro k st w2 ⟨j,hk,rfl,rfl⟩;by_cases hk0:k=0
 ·obtain rfl:j=c.ws.length:=by omega
  simp(maxSteps:=3000000)(disch:=omega)only[push_cast,seval,h0c];exact⟨⟨_,rfl⟩,u0⟩
 have hj:j<c.ws.length:=by omega
 have hj':(j:Int)<(c.ws.length:Int):=by omega
 have hy:=List.getElem?_eq_getElem hj;generalize c.ws[j]=y at hy;obtain⟨g2,o2,ys,rfl,hg2,hy1,hy2⟩:=hws0.row hy;obtain⟨dv,rfl,hd,hyw⟩:=hy1;obtain⟨da,dc,rfl⟩:=hd.form;have ew:eW.s=2:=rfl;rw[ew] at hy2;have u2:Upd NoB w2 w2:=Upd.refl;have p0:w2.cell? ⟨g2,o2+j*2,none⟩=some (.string (strOfNums y.o)):=hy2 u2 0 (by decide);have p1:w2.cell? ⟨g2,o2+j*2+1,none⟩=some (.slice da y.d.length dc):=hy2 u2 1 (by decide);by_cases d1:(600:Int)<(y.d.length:Int)
 ·simp(maxSteps:=3000000)(disch:=omega)only[push_cast,seval,h0c,hj',p0,p1,fN,bW,d1];exact⟨⟨_,rfl⟩,u0⟩
 by_cases d2:(100:Int)<(y.o.length:Int)
 ·simp(maxSteps:=3000000)(disch:=omega)only[push_cast,seval,h0c,hj',p0,p1,fN,bW,d1,d2];exact⟨⟨_,rfl⟩,u0⟩
 simp(maxSteps:=3000000)(disch:=omega)only[push_cast,seval,h0c,hj',p0,p1,fN,bW,d1,d2];exact⟨k-1,by omega,j+1,by omega,rfl,rfl⟩
set_option maxHeartbeats 4000000 in
theorem wW {w:World}{F:Nat→Prop}{v:Value}{l:List Cmd}(hv:SlD eC w F v l){m:Nat}(hm:m≤1000) :
 Ok (den Tryz.prog 126 #[v,.int .i64 (m:Int)] w) fun u w'=>(∃b,u = .bool b)∧Upd NoB w w':=by
 obtain⟨va,vc,rfl,_⟩:=hv.form;refine aB (args:=[.slice va l.length vc,.int .i64 (m:Int)]) rs126 Tryz.func126 rfl mixed (by kernel_rfl) R6 rfl ?_;by_cases hlen:m<l.length
 ·have h1:(m:Int)<(l.length:Int):=by omega
  simp(disch:=omega)only[push_cast,seval,h1];exact⟨⟨false,rfl⟩,Upd.refl⟩
 have h1 : ¬(m:Int)<(l.length:Int):=by omega
 simp(disch:=omega)only[push_cast,seval,h1];refine aG (I:=fun k st w'=>Bx (∃i:Nat,k+i=l.length∧st = [.int .i64 (i:Int)]∧Upd NoB w w') ⟨⟩) ?_ l.length ⟨0,rfl,rfl,Upd.refl⟩;rintro k st w2 ⟨i,hk,rfl,u2⟩;by_cases hk0:k=0
 ·obtain rfl:i=l.length:=by omega
  simp(disch:=omega)only[push_cast,seval];exact⟨⟨_,rfl⟩,u2⟩
 have hi:i<l.length:=by omega
 have hi':(i:Int)<(l.length:Int):=by omega
 have hx:=List.getElem?_eq_getElem hi;generalize l[i]=x at hx;obtain⟨g,o,cs,rfl,hg,hx1,hx2⟩:=(hv.q aA u2).row hx;have es:eC.s=6:=rfl;have kc:=aA.len hx1;rw[es] at hx2 kc;have z2:Upd NoB w2 w2:=Upd.refl;have lA:=bN (P:=Tryz.prog) (t:=76) (w:=w2) (b:=g) (o:=o+i*6) (cs:=cs) (by kernel_rfl) (by rw[kc]; kernel_rfl) (by rw[kc]; exact hx2 z2);have hx3:=hx1;obtain⟨wv,tv,rfl,hws,htag,_⟩:=hx3;obtain⟨wa,wc,rfl,_⟩:=hws.form;have r3:w2.cell? ⟨g,o+i*6+3,none⟩=some (.slice wa x.ws.length wc):=hx2 z2 3 (by decide);by_cases c1:(4:Int)<(x.ws.length:Int)
 ·simp(maxSteps:=3000000)(disch:=omega)only[push_cast,seval,hi',r3,c1];exact⟨⟨_,rfl⟩,u2⟩
 simp(maxSteps:=3000000)(disch:=omega)only[push_cast,seval,hi',r3,c1,lA];refine Ok.use (aCa hx1 (by omega)) ?_;rintro u w3 ⟨⟨b,rfl⟩,u3⟩;have v3:=u2.trans u3 fun _ _ h=>h;cases b
 ·simp(maxSteps:=3000000)(disch:=omega)only[push_cast,seval];exact⟨⟨_,rfl⟩,v3⟩
 ·simp(maxSteps:=3000000)(disch:=omega)only[push_cast,seval];exact⟨k-1,by omega,i+1,by omega,rfl,v3⟩
open Go
set_option maxRecDepth 100000
def SmT (x:Crt):Prop:=x.c.reads.length≤6∧(∀r,r∈x.c.reads→r.tag.length≤600)∧x.acks.length≤14∧∀a,a∈x.acks→a.tag.length≤600
set_option maxHeartbeats 8000000 in
theorem aCb {w:World}{F:Nat→Prop}{x:Crt}{cs:List Value}(hc:eT.C w F x cs) :
 Ok (den Tryz.prog 75 #[.agg cs.toArray] w) fun u w'=>(∃b,u = .bool b∧(b=true→SmT x))∧Upd NoB w w':=by
 obtain⟨ks,av,rfl,hks,hav,hxw⟩:=hc;obtain⟨rv,bv,fv,ov,rfl,hrs,hbs,hfs,hos,i1,i2,i3,i4,_⟩:=hks;obtain⟨ra,rc,rfl,_⟩:=hrs.form;obtain⟨ba,bc,rfl,_⟩:=hbs.form;obtain⟨fa,fc,rfl,_⟩:=hfs.form;obtain⟨oa,oc,rfl⟩:=hos.form;obtain⟨aa,ac,rfl,_⟩:=hav.form;simp only[List.cons_append,List.nil_append];refine aB (args:=[.agg #[.int .i64 x.c.rr,.int .i64 x.c.rl,.int .i64 x.c.rn,.slice ra x.c.reads.length rc,.slice ba x.c.base.length bc,.slice fa x.c.conf.length fc,.int .i64 x.c.count,.slice oa x.c.root.length oc,.slice aa x.acks.length ac]]) rs75 Tryz.func75 rfl mixed (by kernel_rfl) QQ rfl ?_;rw[aD];generalize hKs:KS _ _ _ _ _=Ks;simp(disch:=omega)only[push_cast,seval];have b0:=Blk.new (w:=w) (cs:=[.int .i64 x.c.rr,.int .i64 x.c.rl,.int .i64 x.c.rn,.slice ra x.c.reads.length rc,.slice ba x.c.base.length bc,.slice fa x.c.conf.length fc,.int .i64 x.c.count,.slice oa x.c.root.length oc,.slice aa x.acks.length ac]) (E:=88);have u0:Upd NoB w (w.alloc (.cells [.int .i64 x.c.rr,.int .i64 x.c.rl,.int .i64 x.c.rn,.slice ra x.c.reads.length rc,.slice ba x.c.base.length bc,.slice fa x.c.conf.length fc,.int .i64 x.c.count,.slice oa x.c.root.length oc,.slice aa x.acks.length ac].toArray 88 (0,0))):=Upd.alloc;generalize w.alloc (.cells [.int .i64 x.c.rr,.int .i64 x.c.rl,.int .i64 x.c.rn,.slice ra x.c.reads.length rc,.slice ba x.c.base.length bc,.slice fa x.c.conf.length fc,.int .i64 x.c.count,.slice oa x.c.root.length oc,.slice aa x.acks.length ac].toArray 88 (0,0))=w0 at *;have hrs0:=hrs.q aW u0;have hav0:=hav.q bF u0;have h0c:=b0.cell;have uu:Upd NoB w0 w0:=Upd.refl;subst hKs;rw[aC];simp(maxSteps:=3000000)(disch:=omega)only[push_cast,seval];refine aG (I:=fun k st w'=>Bx (∃j:Nat,k+j=x.c.reads.length∧st = [.int .i64 (j:Int)]∧w'=w0∧j≤6∧∀(q:Nat) (r:Rid),q<j→x.c.reads[q]? =some r→r.tag.length≤600) ⟨⟩) ?_ x.c.reads.length ⟨0,rfl,rfl,rfl,by omega,fun q r h=>by omega⟩;rintro k st w2 ⟨j,hk,rfl,rfl,hj6,hsr⟩;by_cases hk0:k=0;rotate_left
 ·have hj:j<x.c.reads.length:=by omega
  have hj':(j:Int)<(x.c.reads.length:Int):=by omega
  have hy:=List.getElem?_eq_getElem hj;generalize x.c.reads[j]=y at hy;obtain⟨g,o,ys,rfl,hg,hy1,hy2⟩:=hrs0.row hy;obtain⟨tv,rfl,hd,_⟩:=hy1;obtain⟨da,dc,rfl⟩:=hd.form;have er:eR.s=3:=rfl;rw[er] at hy2;have p2:w2.cell? ⟨g,o+j*3+2,none⟩=some (.slice da y.tag.length dc):=hy2 uu 2 (by decide);by_cases c0:(6:Int)≤(j:Int)
  ·simp(maxSteps:=3000000)(disch:=omega)only[push_cast,seval,h0c,hj',c0];exact⟨⟨false,rfl,fun e=>by cases e⟩,u0⟩
  by_cases c1:(600:Int)<(y.tag.length:Int)
  ·simp(maxSteps:=3000000)(disch:=omega)only[push_cast,seval,h0c,hj',c0,p2,c1];exact⟨⟨false,rfl,fun e=>by cases e⟩,u0⟩
  simp(maxSteps:=3000000)(disch:=omega)only[push_cast,seval,h0c,hj',c0,p2,c1];refine⟨k-1,by omega,j+1,by omega,rfl,rfl,by omega,fun q r hq hr=>?_⟩;rcases Nat.lt_or_ge q j with hqj | hqj
  ·exact hsr q r hqj hr
  ·obtain rfl:q=j:=by omega
   rw[hy] at hr;injection hr with hr;subst hr;omega
 obtain rfl:j=x.c.reads.length:=by omega
 simp(maxSteps:=3000000)(disch:=omega)only[push_cast,seval,h0c];refine aG (I:=fun k st w'=>Bx (∃j:Nat,k+j=x.acks.length∧st = [.int .i64 (j:Int)]∧w'=w2∧j≤14∧∀(q:Nat) (r:Akk),q<j→x.acks[q]? =some r→r.tag.length≤600) ⟨⟩) ?_ x.acks.length ⟨0,rfl,rfl,rfl,by omega,fun q r h=>by omega⟩;rintro k' st w3 ⟨j,hk',rfl,rfl,hj14,hsa⟩;by_cases hk0':k'=0;rotate_left
 ·have hj:j<x.acks.length:=by omega
  have hj':(j:Int)<(x.acks.length:Int):=by omega
  have hy:=List.getElem?_eq_getElem hj;generalize x.acks[j]=y at hy;obtain⟨g,o,ys,rfl,hg,hy1,hy2⟩:=hav0.row hy;obtain⟨tv,rfl,hd,_⟩:=hy1;obtain⟨da,dc,rfl⟩:=hd.form;have er:eA.s=2:=rfl;rw[er] at hy2;have p2:w3.cell? ⟨g,o+j*2+1,none⟩=some (.slice da y.tag.length dc):=hy2 uu 1 (by decide);by_cases c0:(14:Int)≤(j:Int)
  ·simp(maxSteps:=3000000)(disch:=omega)only[push_cast,seval,h0c,hj',c0];exact⟨⟨false,rfl,fun e=>by cases e⟩,u0⟩
  by_cases c1:(600:Int)<(y.tag.length:Int)
  ·simp(maxSteps:=3000000)(disch:=omega)only[push_cast,seval,h0c,hj',c0,p2,c1];exact⟨⟨false,rfl,fun e=>by cases e⟩,u0⟩
  simp(maxSteps:=3000000)(disch:=omega)only[push_cast,seval,h0c,hj',c0,p2,c1];refine⟨k'-1,by omega,j+1,by omega,rfl,rfl,by omega,fun q r hq hr=>?_⟩;rcases Nat.lt_or_ge q j with hqj | hqj
  ·exact hsa q r hqj hr
  ·obtain rfl:q=j:=by omega
   rw[hy] at hr;injection hr with hr;subst hr;omega
 obtain rfl:j=x.acks.length:=by omega
 have hT:SmT x:=⟨hj6,fun r hr=>by
  obtain⟨q,hq⟩:=List.getElem?_of_mem hr;exact hsr q r (List.getElem?_eq_some_iff.1 hq).1 hq,hj14,fun a ha=>by
  obtain⟨q,hq⟩:=List.getElem?_of_mem ha;exact hsa q a (List.getElem?_eq_some_iff.1 hq).1 hq⟩
 by_cases c1:(x.c.root.length:Int)≤600;rotate_left
 ·simp(maxSteps:=3000000)(disch:=omega)only[push_cast,seval,h0c,c1];exact⟨⟨_,rfl,fun _=>hT⟩,u0⟩
 simp(maxSteps:=3000000)(disch:=omega)only[push_cast,seval,h0c,c1];refine Ok.use (wW (hbs.q aA u0) (m:=6) (by decide)) ?_;rintro u w4 ⟨⟨b4,rfl⟩,u4⟩;have v4:=u0.trans u4 fun _ _ h=>h;have h4c:=(b0.upd u4 fun h=>h).cell;cases b4
 ·simp(maxSteps:=3000000)(disch:=omega)only[push_cast,seval,h4c];exact⟨⟨_,rfl,fun _=>hT⟩,v4⟩
 simp(maxSteps:=3000000)(disch:=omega)only[push_cast,seval,h4c];refine Ok.use (wW (hfs.q aA v4) (m:=6) (by decide)) ?_;rintro u w5 ⟨⟨b5,rfl⟩,u5⟩;have v5:=v4.trans u5 fun _ _ h=>h;have h5c:=((b0.upd u4 fun h=>h).upd u5 fun h=>h).cell;cases b5
 ·simp(maxSteps:=3000000)(disch:=omega)only[push_cast,seval,h5c];exact⟨⟨_,rfl,fun _=>hT⟩,v5⟩
 have c2:(x.c.reads.length:Int)≤6:=by omega
 have c3:(x.acks.length:Int)≤14:=by omega
 simp(maxSteps:=3000000)(disch:=omega)only[push_cast,seval,h5c,c2,c3];exact⟨⟨_,rfl,fun _=>hT⟩,v5⟩
open Go
set_option maxRecDepth 100000
set_option maxHeartbeats 4000000 in
theorem aCc {w:World}{F:Nat→Prop}{v:Value}{l:List Crt}(hv:SlD eT w F v l) :
 Ok (den Tryz.prog 38 #[v] w) fun u w'=>(∃b,u = .bool b∧(b=true→l.length≤4∧∀x,x∈l→SmT x))∧Upd NoB w w':=by
 obtain⟨va,vc,rfl,_⟩:=hv.form;refine aB (args:=[.slice va l.length vc]) rs38 Tryz.func38 rfl mixed (by kernel_rfl) PP rfl ?_;by_cases h1:(4:Int)<(l.length:Int)
 ·simp(disch:=omega)only[push_cast,seval,h1];exact⟨⟨false,rfl,fun e=>by cases e⟩,Upd.refl⟩
 simp(disch:=omega)only[push_cast,seval,h1];refine aG (I:=fun k st w'=>Bx (∃i:Nat,k+i=l.length∧st = [.int .i64 (i:Int)]∧Upd NoB w w'∧∀(q:Nat) (x:Crt),q<i→l[q]? =some x→SmT x) ⟨⟩) ?_ l.length ⟨0,rfl,rfl,Upd.refl,fun q x h=>by omega⟩;rintro k st w2 ⟨i,hk,rfl,u2,hs⟩;by_cases hk0:k=0
 ·obtain rfl:i=l.length:=by omega
  simp(disch:=omega)only[push_cast,seval];refine⟨⟨true,rfl,fun _=>⟨by omega,fun x hx=>?_⟩⟩,u2⟩;obtain⟨q,hq⟩:=List.getElem?_of_mem hx;exact hs q x (List.getElem?_eq_some_iff.1 hq).1 hq
 have hi:i<l.length:=by omega
 have hi':(i:Int)<(l.length:Int):=by omega
 have hx:=List.getElem?_eq_getElem hi;generalize l[i]=x at hx;obtain⟨g,o,cs,rfl,hg,hx1,hx2⟩:=(hv.q aM u2).row hx;have es:eT.s=9:=rfl;have kc:=aM.len hx1;rw[es] at hx2 kc;have z2:Upd NoB w2 w2:=Upd.refl;have lA:=bN (P:=Tryz.prog) (t:=88) (w:=w2) (b:=g) (o:=o+i*9) (cs:=cs) (by kernel_rfl) (by rw[kc]; kernel_rfl) (by rw[kc]; exact hx2 z2);simp(maxSteps:=3000000)(disch:=omega)only[push_cast,seval,hi',lA];refine Ok.use (aCb hx1) ?_;rintro u w3 ⟨⟨b,rfl,hb⟩,u3⟩;have v3:=u2.trans u3 fun _ _ h=>h;cases b
 ·simp(maxSteps:=3000000)(disch:=omega)only[push_cast,seval];exact⟨⟨false,rfl,fun e=>by cases e⟩,v3⟩
 ·simp(maxSteps:=3000000)(disch:=omega)only[push_cast,seval];refine⟨k-1,by omega,i+1,by omega,rfl,v3,fun q y hq hy=>?_⟩;rcases Nat.lt_or_ge q i with hqi | hqi
  ·exact hs q y hqi hy
  ·obtain rfl:q=i:=by omega
   rw[hx] at hy;injection hy with hy;subst hy;exact hb rfl
def SmT2 (x:Crt):Prop:=x.c.base.length≤6∧(∀y,y∈x.c.base→CmdB y)∧x.c.conf.length≤6∧(∀y,y∈x.c.conf→CmdB y)∧x.c.root.length≤100
theorem aCd {x:Crt}(hw:CrtW x)(h:SmT x)(h2:SmT2 x):(encT x).length≤40000:=by
 obtain⟨h1,h3,h4,h5⟩:=h;obtain⟨g1,g2,g3,g4,g5⟩:=h2;obtain⟨⟨i1,i2,i3,i4,_,hr,_,_⟩,ha⟩:=hw;have e1:=bQ i1;have e2:=bQ i2;have e3:=bQ i3;have e4:=bQ i4;have e5:=aL (n:=x.c.reads.length) (by omega);have e6:=iE (f:=encR) (m:=630) (l:=x.c.reads) fun r hr'=>by
  have:=bQ (hr r hr').1;have:=bQ (hr r hr').2.1;have:=fM (h3 r hr') (by decide);simp only[encR,List.length_append];omega
 have e7:=dS g2 (by omega);have e8:=dS g4 (by omega);have e9:=fM g5 (by decide);have f1:x.c.reads.length*630≤6*630:=Nat.mul_le_mul_right _ h1;have f2:x.c.base.length*2010≤6*2010:=Nat.mul_le_mul_right _ g1;have f3:x.c.conf.length*2010≤6*2010:=Nat.mul_le_mul_right _ g3;have ek:=gK (c:=x.c);have hk:(encK x.c).length≤30000:=by omega
 have a1:=iE (f:=encA) (m:=620) (l:=x.acks) fun a ha'=>by
  have:=bQ (ha a ha').1;have:=fM (h5 a ha') (by decide);simp only[encA,List.length_append];omega
 have a2:x.acks.length*620≤14*620:=Nat.mul_le_mul_right _ h4;have a3:=aL (n:=x.acks.length) (by omega);have a4:=aL (n:=(encK x.c).length) (by omega);rw[cD];omega
theorem aCe {b:Bas}(hw:BasW b)(h1:b.steps.length≤4)(h2 : ∀x,x∈b.steps→SmT x∧SmT2 x)(h3:b.taken.length≤8)(h4 : ∀x,x∈b.taken→CmdB x)(h5:SrtC b.taken):BasB b:=by
 refine⟨hw,h4,h5,h3,?_⟩;have e1:=aL (n:=b.steps.length) (by omega);have e2:=iE (f:=encT) (m:=40000) (l:=b.steps) fun x hx=>aCd (hw.1 x hx) (h2 x hx).1 (h2 x hx).2;have e3:=dS h4 (by omega);have e4:b.steps.length*40000≤4*40000:=Nat.mul_le_mul_right _ h1;have e5:b.taken.length*2010≤8*2010:=Nat.mul_le_mul_right _ h3;rw[cE];omega
theorem SlT.go_ {w w':World}{F F' G:Nat→Prop}{v:Value}{l:List Bool}(h:SlT w F v l)(hu:Upd G w w')(hG : ∀b,b<w.heap.size→G b∨F' b→F b):SlT w' F' v l:=by
 obtain⟨a,c,hv,hl⟩:=h;refine⟨a,c,hv,fun h0=>?_⟩;obtain⟨b,o,h1,h2,h3,h4⟩:=hl h0;exact⟨b,o,h1,Nat.lt_of_lt_of_le h2 hu.size,fun j hj=>by rw[World.cell?_of_block (hu.block b h2 fun h=>h4 (hG b h2 (.inl h)))]; exact h3 j hj,fun h=>h4 (hG b h2 (.inr h))⟩
theorem cW:EltOk eO where
 pos:=by decide
 len:=by rintro w F x cs ⟨_,_,_,_,rfl,_⟩; rfl
 one:=by
  rintro w F x cs ⟨lv,b1,b2,kv,rfl,h1,h2,⟨ka,kc,rfl,_⟩,_⟩ u hu;have hb:=aK.one h2;simp at hu;rcases hu with rfl | rfl | rfl | rfl | rfl | rfl
  ·rfl
  ·exact h1.one
  ·exact hb _ (by simp)
  ·exact hb _ (by simp)
  ·rfl
  ·rfl
 go:=by
  rintro w w' F F' G x cs ⟨_,_,_,_,rfl,h1,h2,h3,h4⟩ hu hG;exact⟨_,_,_,_,rfl,h1.go aA hu hG,aK.go h2 hu hG,h3.go_ hu hG,h4⟩
def OpB (o:OpS):Prop:=POpB (.ext o.list)∧BasB o.base
set_option maxHeartbeats 16000000 in
theorem aCf {w:World}{F:Nat→Prop}{v:Value}{l:List OpS}(hv:SlD eO w F v l) :
 Ok (den Tryz.prog 10 #[v] w) fun u w'=>(∃b,u = .bool b∧(b=true→l.length≤24∧∀o,o∈l→OpB o))∧Upd NoB w w':=by
 obtain⟨va,vc,rfl,_⟩:=hv.form;refine aB (args:=[.slice va l.length vc]) rs10 Tryz.func10 rfl mixed (by kernel_rfl) OZ rfl ?_;by_cases h1:(24:Int)<(l.length:Int)
 ·simp(disch:=omega)only[push_cast,seval,h1];exact⟨⟨false,rfl,fun e=>by cases e⟩,Upd.refl⟩
 simp(disch:=omega)only[push_cast,seval,h1];refine aG (I:=fun k st w'=>Bx (∃i:Nat,k+i=l.length∧st = [.int .i64 (i:Int)]∧Upd NoB w w'∧∀(q:Nat) (o:OpS),q<i→l[q]? =some o→OpB o) ⟨⟩) ?_ l.length ⟨0,rfl,rfl,Upd.refl,fun q x h=>by omega⟩;rintro k st w2 ⟨i,hk,rfl,u2,hs⟩;by_cases hk0:k=0
 ·obtain rfl:i=l.length:=by omega
  simp(disch:=omega)only[push_cast,seval];refine⟨⟨true,rfl,fun _=>⟨by omega,fun x hx=>?_⟩⟩,u2⟩;obtain⟨q,hq⟩:=List.getElem?_of_mem hx;exact hs q x (List.getElem?_eq_some_iff.1 hq).1 hq
 have hi:i<l.length:=by omega
 have hi':(i:Int)<(l.length:Int):=by omega
 have hx:=List.getElem?_eq_getElem hi;generalize l[i]=x at hx;obtain⟨g,o,cs,rfl,hg,hx1,hx2⟩:=(hv.go (F':=NoB) cW u2 fun _ _ h=>(h.elim id id).elim).row hx;obtain⟨lv,p1,p2,kv,rfl,hlist,hbase,hkeep,hi1,hi2⟩:=hx1;obtain⟨la,lc,rfl,_⟩:=hlist.form;obtain⟨sa,sc,ta,tc,hpp,hst,htk,hbw⟩:=a8 hbase;injection hpp with q1 hpp;injection hpp with q2 _;subst q1 q2;have es:eO.s=6:=rfl;rw[es] at hx2;have z2:Upd NoB w2 w2:=Upd.refl;have r1:w2.cell? ⟨g,o+i*6+1,none⟩=some (.slice la x.list.length lc):=hx2 z2 1 (by decide);have r2:w2.cell? ⟨g,o+i*6+2,none⟩=some (.slice sa x.base.steps.length sc):=hx2 z2 2 (by decide);have r3:w2.cell? ⟨g,o+i*6+3,none⟩=some (.slice ta x.base.taken.length tc):=hx2 z2 3 (by decide);simp(maxSteps:=3000000)(disch:=omega)only[push_cast,seval,hi',r1,r2,r3];have b3:=((Blk.new (w:=w2) (cs:=[.slice none 0 0,.slice none 0 0]) (E:=35)).set 0 (.slice sa x.base.steps.length sc)).set 1 (.slice ta x.base.taken.length tc);simp only[List.set_cons_succ,List.set_cons_zero] at b3;have u23:Upd NoB w2 (((w2.alloc (.cells #[Value.slice none 0 0,.slice none 0 0] 35 (0,0))).setCell ⟨w2.heap.size,0,none⟩ (.slice sa x.base.steps.length sc)).setCell ⟨w2.heap.size,1,none⟩ (.slice ta x.base.taken.length tc)):=(Upd.alloc.setNew (Nat.le_refl _)).setNew (Nat.le_refl _);generalize ((w2.alloc (.cells #[Value.slice none 0 0,.slice none 0 0] 35 (0,0))).setCell ⟨w2.heap.size,0,none⟩ (.slice sa x.base.steps.length sc)).setCell ⟨w2.heap.size,1,none⟩ (.slice ta x.base.taken.length tc)=w3 at *;have cc : ∀{w':World},Upd NoB w3 w'→∀j,w'.cell? ⟨w2.heap.size,j,none⟩ = [Value.slice sa x.base.steps.length sc,.slice ta x.base.taken.length tc][j]? :=fun u j=>(b3.upd u fun h=>h).cell j;have v3:=u2.trans u23 fun _ _ h=>h;refine Ok.use (kL (hlist.q aA u23) (m:=6) (by decide)) ?_;rintro u w4 ⟨⟨b4,rfl,hb4⟩,u4⟩;have v4:=v3.trans u4 fun _ _ h=>h;have c4:=cc u4;cases b4
 ·simp(maxSteps:=3000000)(disch:=omega)only[push_cast,seval,c4];exact⟨⟨false,rfl,fun e=>by cases e⟩,v4⟩
 simp(maxSteps:=3000000)(disch:=omega)only[push_cast,seval,c4];have z4:=u23.trans u4 fun _ _ h=>h;refine Ok.use (aCc (hst.q aM z4)) ?_;rintro u w5 ⟨⟨b5,rfl,hb5⟩,u5⟩;have u35:=u4.trans u5 fun _ _ h=>h;have v5:=v3.trans u35 fun _ _ h=>h;have z5:=u23.trans u35 fun _ _ h=>h;have c5:=cc u35;cases b5
 ·simp(maxSteps:=3000000)(disch:=omega)only[push_cast,seval,c5];exact⟨⟨false,rfl,fun e=>by cases e⟩,v5⟩
 simp(maxSteps:=3000000)(disch:=omega)only[push_cast,seval,c5];refine Ok.use (kL (htk.q aA z5) (m:=8) (by decide)) ?_;rintro u w6 ⟨⟨b6,rfl,hb6⟩,u6⟩;have u36:=u35.trans u6 fun _ _ h=>h;have v6:=v3.trans u36 fun _ _ h=>h;have z6:=u23.trans u36 fun _ _ h=>h;have c6:=cc u36;cases b6
 ·simp(maxSteps:=3000000)(disch:=omega)only[push_cast,seval,c6];exact⟨⟨false,rfl,fun e=>by cases e⟩,v6⟩
 simp(maxSteps:=3000000)(disch:=omega)only[push_cast,seval,c6];obtain⟨ht8,htB⟩:=hb6 rfl;refine Ok.use (Z7 (htk.q aA z6) (fun x hx=>(htB x hx).s) (by omega)) ?_;rintro u w7 ⟨⟨b7,rfl,hb7⟩,u7⟩;have u37:=u36.trans u7 fun _ _ h=>h;have v7:=v3.trans u37 fun _ _ h=>h;have z7:=u23.trans u37 fun _ _ h=>h;have c7:=cc u37;cases b7
 ·simp(maxSteps:=3000000)(disch:=omega)only[push_cast,seval,c7];exact⟨⟨false,rfl,fun e=>by cases e⟩,v7⟩
 simp(maxSteps:=3000000)(disch:=omega)only[push_cast,seval,c7];obtain⟨hs4,hsT⟩:=hb5 rfl;have hl6:=hb4 rfl;have hsrt:=hb7.1 rfl;refine aG (I:=fun k st w'=>Bx (∃j:Nat,k+j=x.base.steps.length∧st = [.int .i64 (j:Int)]∧Upd NoB w3 w'∧∀(q:Nat) (y:Crt),q<j→x.base.steps[q]? =some y→SmT2 y) ⟨⟩) ?_ x.base.steps.length ⟨0,rfl,rfl,u37,fun q y h=>by omega⟩;rintro k' st w8 ⟨j,hk',rfl,u38,hs2⟩;have c8:=cc u38;have v8:=v3.trans u38 fun _ _ h=>h;have z8:=u23.trans u38 fun _ _ h=>h;by_cases hk0':k'=0
 ·obtain rfl:j=x.base.steps.length:=by omega
  simp(maxSteps:=3000000)(disch:=omega)only[push_cast,seval,c8];refine⟨k-1,by omega,i+1,by omega,rfl,v8,fun q y hq hy=>?_⟩;rcases Nat.lt_or_ge q i with hqi | hqi
  ·exact hs q y hqi hy
  ·obtain rfl:q=i:=by omega
   rw[hx] at hy;injection hy with hy;subst hy;exact⟨⟨hl6.2,hl6.1⟩,aCe hbw hs4 (fun y hy=>⟨hsT y hy,by
    obtain⟨r,hr⟩:=List.getElem?_of_mem hy;exact hs2 r y (List.getElem?_eq_some_iff.1 hr).1 hr⟩) ht8 htB hsrt⟩
 have hj:j<x.base.steps.length:=by omega
 have hj':(j:Int)<(x.base.steps.length:Int):=by omega
 have hy:=List.getElem?_eq_getElem hj;generalize x.base.steps[j]=y at hy;obtain⟨g2,o2,ts,rfl,hg2,hy1,hy2⟩:=(hst.q aM z8).row hy;obtain⟨ks,av,rfl,hks,hav,hxw⟩:=hy1;have kk:=aX.len hks;have ek:eK.s=8:=rfl;rw[ek] at kk;have et:eT.s=9:=rfl;rw[et] at hy2;have zz:Upd NoB w8 w8:=Upd.refl;obtain⟨rv,bv,fv,ov,rfl,hrs,hbs,hfs,hos,_⟩:=hks;obtain⟨ra,rc,rfl,_⟩:=hrs.form;obtain⟨ba,bc,rfl,_⟩:=hbs.form;obtain⟨fa,fc,rfl,_⟩:=hfs.form;obtain⟨oa,oc,rfl⟩:=hos.form;have lk:=bN (P:=Tryz.prog) (t:=85) (w:=w8) (b:=g2) (o:=o2+j*9) (cs:=[.int .i64 y.c.rr,.int .i64 y.c.rl,.int .i64 y.c.rn,.slice ra y.c.reads.length rc,.slice ba y.c.base.length bc,.slice fa y.c.conf.length fc,.int .i64 y.c.count,.slice oa y.c.root.length oc]) (by kernel_rfl) (by kernel_rfl) fun r hr=>by
  rw[hy2 zz r (by have:r<8:=hr; omega),List.getElem?_append_left hr]
 have b9:=Blk.new (w:=w8) (cs:=[.int .i64 0,.int .i64 0,.int .i64 0,.slice none 0 0,.slice none 0 0,.slice none 0 0,.int .i64 0,.slice none 0 0]) (E:=85);have b10:=b9.setRow (cs':=[.int .i64 y.c.rr,.int .i64 y.c.rl,.int .i64 y.c.rn,.slice ra y.c.reads.length rc,.slice ba y.c.base.length bc,.slice fa y.c.conf.length fc,.int .i64 y.c.count,.slice oa y.c.root.length oc]);have stf:=aP (P:=Tryz.prog) (t:=85) (cs':=[.int .i64 y.c.rr,.int .i64 y.c.rl,.int .i64 y.c.rn,.slice ra y.c.reads.length rc,.slice ba y.c.base.length bc,.slice fa y.c.conf.length fc,.int .i64 y.c.count,.slice oa y.c.root.length oc]) b9 (by kernel_rfl) rfl (fun u hu=>by simp at hu; rcases hu with rfl | rfl | rfl | rfl | rfl | rfl | rfl | rfl <;> rfl);have u10:Upd NoB w8 ((w8.alloc (.cells #[.int .i64 0,.int .i64 0,.int .i64 0,.slice none 0 0,.slice none 0 0,.slice none 0 0,.int .i64 0,.slice none 0 0] 85 (0,0))).setRow w8.heap.size #[.int .i64 y.c.rr,.int .i64 y.c.rl,.int .i64 y.c.rn,.slice ra y.c.reads.length rc,.slice ba y.c.base.length bc,.slice fa y.c.conf.length fc,.int .i64 y.c.count,.slice oa y.c.root.length oc]):=Upd.alloc.trans (Upd.setRow (F:=fun b=>b=w8.heap.size) rfl) fun b hb e=>by omega
 generalize hw10:(w8.alloc (.cells #[.int .i64 0,.int .i64 0,.int .i64 0,.slice none 0 0,.slice none 0 0,.slice none 0 0,.int .i64 0,.slice none 0 0] 85 (0,0))).setRow w8.heap.size #[.int .i64 y.c.rr,.int .i64 y.c.rl,.int .i64 y.c.rn,.slice ra y.c.reads.length rc,.slice ba y.c.base.length bc,.slice fa y.c.conf.length fc,.int .i64 y.c.count,.slice oa y.c.root.length oc]=w10 at *;have dd : ∀{w':World},Upd NoB w10 w'→∀j,w'.cell? ⟨w8.heap.size,j,none⟩ = [Value.int .i64 y.c.rr,.int .i64 y.c.rl,.int .i64 y.c.rn,.slice ra y.c.reads.length rc,.slice ba y.c.base.length bc,.slice fa y.c.conf.length fc,.int .i64 y.c.count,.slice oa y.c.root.length oc][j]? :=fun u j=>(b10.upd u fun h=>h).cell j;have d10:=dd (Upd.refl (w:=w10));simp(maxSteps:=3000000)(disch:=omega)only[push_cast,seval,hj',c8,lk,jC,stf,hw10,d10];have v10:=v8.trans u10 fun _ _ h=>h;refine Ok.use (kL (hbs.q aA u10) (m:=6) (by decide)) ?_;rintro u w11 ⟨⟨b11,rfl,iO⟩,u11⟩;have v11:=v10.trans u11 fun _ _ h=>h;have d11:=dd u11;cases b11
 ·simp(maxSteps:=3000000)(disch:=omega)only[push_cast,seval,d11];exact⟨⟨false,rfl,fun e=>by cases e⟩,v11⟩
 simp(maxSteps:=3000000)(disch:=omega)only[push_cast,seval,d11];refine Ok.use (kL (hfs.q aA (u10.trans u11 fun _ _ h=>h)) (m:=6) (by decide)) ?_;rintro u w12 ⟨⟨b12,rfl,hb12⟩,u12⟩;have v12:=v11.trans u12 fun _ _ h=>h;have d12:=dd (u11.trans u12 fun _ _ h=>h);cases b12
 ·simp(maxSteps:=3000000)(disch:=omega)only[push_cast,seval,d12];exact⟨⟨false,rfl,fun e=>by cases e⟩,v12⟩
 by_cases hroot:(100:Int)<(y.c.root.length:Int)
 ·simp(maxSteps:=3000000)(disch:=omega)only[push_cast,seval,d12,hroot];exact⟨⟨false,rfl,fun e=>by cases e⟩,v12⟩
 simp(maxSteps:=3000000)(disch:=omega)only[push_cast,seval,d12,hroot];refine⟨k'-1,by omega,j+1,by omega,rfl,((u38.trans u10 fun _ _ h=>h).trans u11 fun _ _ h=>h).trans u12 fun _ _ h=>h,fun q z hq hz=>?_⟩;rcases Nat.lt_or_ge q j with hqj | hqj
 ·exact hs2 q z hqj hz
 ·obtain rfl:q=j:=by omega
  rw[hy] at hz;injection hz with hz;subst hz;exact⟨(iO rfl).1,(iO rfl).2,(hb12 rfl).1,(hb12 rfl).2,by omega⟩
open Go
set_option maxRecDepth 100000
def opK (o:OpS):POp:=if o.kind=0 then .ext o.list else if o.kind=1 then .reb o.base else if o.kind=2 then .liv else .cmp
theorem wX {o:OpS}(h:OpB o):POpB (opK o):=by
 unfold opK;split
 ·exact h.1
 ·split
  ·exact h.2
  ·split <;> trivial
set_option maxHeartbeats 4000000 in
theorem wY {w:World}{D J:Nat→Prop}{p lb jb cb:Nat}{s:LS}(h:LW w D J p lb jb cb s){N sz i t:Nat}(hb:LB N sz i s)(hi:i≤300000)(hs:SmN t s.n)(ht:t≤28){o:OpS}{cs:List Value}(hc:eO.C w (FF D J) o cs)(ho:OpB o) :
 Ok (den Tryz.prog 14 #[.pointer (some ⟨lb,0,none⟩),.agg cs.toArray] w) fun u w'=>u = .int .i64 (lop s (opK o)).2∧∃D',LW w' D' J p lb jb cb (lop s (opK o)).1∧LT w w' D D' J:=by
 obtain⟨lv,p1,p2,kv,rfl,hlist,hbase,⟨ka,kc,rfl,_⟩,hi1,hi2⟩:=hc;obtain⟨la,lc,rfl,_⟩:=hlist.form;obtain⟨sa,sc,ta,tc,hpp,hst,htk,hbw⟩:=a8 hbase;injection hpp with q1 hpp;injection hpp with q2 _;subst q1 q2;refine aB (args:=[.pointer (some ⟨lb,0,none⟩),.agg #[.int .i64 o.kind,.slice la o.list.length lc,.slice sa o.base.steps.length sc,.slice ta o.base.taken.length tc,.int .i64 o.n,.slice ka o.keep.length kc]]) rs14 Tryz.func14 rfl mixed (by kernel_rfl) O2 rfl ?_;rw[aD];generalize hKs:KS _ _ _ _ _=Ks;simp(disch:=omega)only[push_cast,seval];have u0:Upd NoB w (w.alloc (.cells [.int .i64 o.kind,.slice la o.list.length lc,.slice sa o.base.steps.length sc,.slice ta o.base.taken.length tc,.int .i64 o.n,.slice ka o.keep.length kc].toArray 45 (0,0))):=Upd.alloc;have b0:=Blk.new (w:=w) (cs:=[.int .i64 o.kind,.slice la o.list.length lc,.slice sa o.base.steps.length sc,.slice ta o.base.taken.length tc,.int .i64 o.n,.slice ka o.keep.length kc]) (E:=45);generalize w.alloc (.cells [.int .i64 o.kind,.slice la o.list.length lc,.slice sa o.base.steps.length sc,.slice ta o.base.taken.length tc,.int .i64 o.n,.slice ka o.keep.length kc].toArray 45 (0,0))=w0 at *;have h0:=h.quiet u0;have hq:=LT.quiet (D:=D) (J:=J) u0;have hc0:=b0.cell;subst hKs;rw[aC];unfold opK;by_cases k0:o.kind=0
 ·rw[if_pos k0];simp(maxSteps:=3000000)(disch:=omega)only[push_cast,seval,hc0,eq_true k0];refine Ok.use (wL h0 hb hi hs ht (hq.slD hlist) ho.1) ?_;rintro u w1 ⟨rfl,D1,h1,l1⟩;simp(maxSteps:=3000000)(disch:=omega)only[push_cast,seval];exact⟨D1,h1,hq.trans l1⟩
 rw[if_neg k0];by_cases k1:o.kind=1
 ·rw[if_pos k1];simp(maxSteps:=3000000)(disch:=omega)only[push_cast,seval,hc0,eq_false k0,eq_true k1];refine Ok.use (wM h0 hb hi hs ht (hq.eB hbase) ho.2) ?_;rintro u w1 ⟨rfl,D1,h1,l1⟩;simp(maxSteps:=3000000)(disch:=omega)only[push_cast,seval];exact⟨D1,h1,hq.trans l1⟩
 rw[if_neg k1];by_cases k2:o.kind=2
 ·rw[if_pos k2];simp(maxSteps:=3000000)(disch:=omega)only[push_cast,seval,hc0,eq_false k0,eq_false k1,eq_true k2];refine Ok.use (oE h0 hb hi hs ht) ?_;rintro u w1 ⟨rfl,D1,h1,l1⟩;simp(maxSteps:=3000000)(disch:=omega)only[push_cast,seval];exact⟨D1,h1,hq.trans l1⟩
 rw[if_neg k2];simp(maxSteps:=3000000)(disch:=omega)only[push_cast,seval,hc0,eq_false k0,eq_false k1,eq_false k2];refine Ok.use (wN h0 hb hi hs ht) ?_;rintro u w1 ⟨rfl,D1,h1,l1⟩;simp(maxSteps:=3000000)(disch:=omega)only[push_cast,seval];exact⟨D1,h1,hq.trans l1⟩
theorem aCg {x:Int}(h:(Lit.int .u8 x).wf=true) : ∃s:Nat,x=s∧s<256:=by
 simp only[Lit.wf,Bool.and_eq_true,decide_eq_true_eq] at h;have h2:IntKind.u8.max=255:=by decide
 have h3:IntKind.u8.min=0:=by decide
 exact⟨x.toNat,by omega,by omega⟩
section
variable {ox oy : Operand} {w : World}
theorem aCh:binS Tryz.prog .shl 3 ox oy (.int .i64 64) (.int .u8 0) w=some (.int .i64 64,w):=by kernel_rfl
theorem aCi:binS Tryz.prog .shl 3 ox oy (.int .i64 64) (.int .u8 1) w=some (.int .i64 128,w):=by kernel_rfl
theorem aCj:binS Tryz.prog .shl 3 ox oy (.int .i64 64) (.int .u8 2) w=some (.int .i64 256,w):=by kernel_rfl
theorem aCk:binS Tryz.prog .shl 3 ox oy (.int .i64 64) (.int .u8 3) w=some (.int .i64 512,w):=by kernel_rfl
end
def szS (s:Nat):Nat:=if s/64=0 then 64 else if s/64=1 then 128 else if s/64=2 then 256 else 512
set_option maxHeartbeats 4000000 in
theorem aCl {w:World}{s:Nat}(hs:s<256):Ok (den Tryz.prog 9 #[.int .u8 (s:Int)] w) fun u w'=>∃p,u = .tuple #[.pointer (some ⟨p,0,none⟩),.int .i64 ((8+s%64:Nat):Int)]∧IsDisk w' (gr (fun _=>False) w w') p (DS.new (9+s%64) (szS s))∧Upd NoB w w':=by
 obtain⟨r,hr⟩ : ∃r,r=s%64:=⟨_,rfl⟩;obtain⟨q,hq⟩ : ∃q,q=s/64:=⟨_,rfl⟩;have er:(s:Int).tmod 64=(r:Int):=by rw[hr,show(64:Int)=((64:Nat):Int) from rfl,←Int.ofNat_tmod]
 have er2:IntKind.i64.wrap (r:Int)=(r:Int):=by rw[IntKind.wrap_i64]; omega
 have eq_:IntKind.u8.wrap ((s:Int).tdiv 64)=(q:Int):=by
  rw[show(64:Int)=((64:Nat):Int) from rfl,←Int.ofNat_tdiv,IntKind.wrap_u8,←hq]; omega
 have hr64:r<64:=by omega
 have hq4:q<4:=by omega
 have hshl : ∀{ox oy:Operand} {w:World},binS Tryz.prog .shl 3 ox oy (.int .i64 64) (.int .u8 (q:Int)) w=some (.int .i64 ((szS s:Nat):Int),w):=by
  intro ox oy w;have hz:szS s=64*2 ^ q:=by
   unfold szS;rw[←hq];rcases(by omega:q=0∨q=1∨q=2∨q=3) with h | h | h | h <;> subst h <;> rfl
  rw[hz];rcases(by omega:q=0∨q=1∨q=2∨q=3) with h | h | h | h <;> rw[h]
  ·exact aCh
  ·exact aCi
  ·exact aCj
  ·exact aCk
 have hz1:64≤szS s∧szS s≤512:=by
  unfold szS;split
  ·omega
  ·split
   ·omega
   ·split <;> omega
 rw[←hr];generalize szS s=sz at *;refine aB (args:=[.int .u8 (s:Int)]) rs9 Tryz.func9 rfl mixed (by kernel_rfl) ok9 rfl ?_;simp(maxSteps:=3000000)(disch:=omega)only[push_cast,seval,er,er2,eq_,hshl];refine Ok.use (qP (n:=9+r) (size:=sz) (by omega) (by omega) (by omega) (by omega)) ?_;rintro u w1 ⟨p,rfl,hd,hu⟩;simp(maxSteps:=3000000)(disch:=omega)only[push_cast,seval,er,er2,eq_,hshl];refine⟨p,?_,hd,hu⟩;first | rfl | simp
open Go
set_option maxRecDepth 100000
theorem oI {area room:Nat}{m:Con×List (List Int)}{n':Con}{rec:List Int}(h:LeN m.1 n'):LeN m.1 (rchange area room m n' rec).1.1:=by
 unfold rchange;split
 ·exact h
 ·split
  ·exact LeN.refl
  ·exact h
theorem aCm {t area room:Nat}{m:Con×List (List Int)}(h:SmN t m.1)(ht:t≤28){o:POp}(ho:POpB o):LeN m.1 (rop area room m o).1.1:=by
 have hc:=h.cons (by omega);cases o with
 | ext l=>
  show LeN m.1 (rextend area room m l).1.1;unfold rextend;split
  ·exact LeN.refl
  ·refine oI ?_;have:=(kD hc (r:=.ext (minC l m.1.st)) ⟨fun x hx=>((fH ho.1) x hx).s,kB fun x hx=>(ho.1 x hx).s,by have:=cV (l:=l) (m:=m.1.st); have:=ho.2; omega⟩).1;exact this
 | reb b=>
  show LeN m.1 (rrebase area room m b).1.1;unfold rrebase;split
  ·exact LeN.refl
  ·have hb:=BasB.s ho;exact oI (kD hc (r:=.reb b) ⟨hb.w,hb.ts,hb.to,by have:=hb.tl; omega,by have:=hb.bl; omega,hb.cl⟩).1
 | liv=>
  show LeN m.1 (rlive area room m).1.1;unfold rlive;split
  ·exact LeN.refl
  ·exact oI ⟨fun _ h=>h,Nat.le_refl _,by show m.1.life≤m.1.life+1; omega⟩
 | cmp=>
  show LeN m.1 (rcompact room m).1.1;unfold rcompact;split <;> exact LeN.refl
def Run (N sz first count G t:Nat)(s:LS)(n':Con):Prop:=
 SmN t s.n∧SmN t n'∧LeN s.n n'∧((∃rs n0,Up N sz first count G s rs n0)∨Dn N sz first count G s n')
theorem Run.lb {N sz first count G t:Nat}(g:Geo N sz first count){s:LS}{n':Con}(h:Run N sz first count G t s n'):LB N sz 300000 s:=by
 rcases h.2.2.2 with ⟨rs,n0,hU⟩ | hD
 ·have:=hU.lb g;exact⟨this.wf.mono (by omega),this.z1,this.z2,this.cf,this.c1,this.cn,this.cg,this.jf,this.ja,this.js⟩
 ·exact hD.lb
theorem Run.fail {N sz first count G t:Nat}{s:LS}{n':Con}(h:Run N sz first count G t s n'){k:Int}(hk:k<9223372036854775808):Run N sz first count G t {s with d:=s.d.fail k} n':=by
 obtain⟨h1,h2,h3,h4⟩:=h;refine⟨h1,h2,h3,?_⟩;rcases h4 with ⟨rs,n0,hU⟩ | hD
 ·exact .inl ⟨rs,n0,hU.fail hk⟩
 ·exact .inr hD.fail
theorem Run.crash {N sz first count G t:Nat}{s:LS}{n':Con}(h:Run N sz first count G t s n')(keep:List Bool):WfD N sz 0 (s.d.crash keep)∧∃n2 rs n0,Fnd N sz first count G (DurL (s.d.crash keep)) n2 rs n0∧(n2=s.n∨n2=n')∧SmN t n2∧LeN s.n n2:=by
 obtain⟨h1,h2,h3,h4⟩:=h;rcases h4 with ⟨rs,n0,hU⟩ | hD
 ·have:=hU.crash keep;exact⟨this.1,s.n,rs,n0,this.2,.inl rfl,h1,LeN.refl⟩
 ·obtain⟨hw,hf⟩:=hD.crash keep;rcases hf with ⟨rs,n0,hf⟩ | ⟨rs,n0,hf⟩
  ·exact⟨hw,s.n,rs,n0,hf,.inl rfl,h1,LeN.refl⟩
  ·exact⟨hw,n',rs,n0,hf,.inr rfl,h2,h3⟩
theorem Run.of_up {N sz first count G t:Nat}{s:LS}{rs:List Rec}{n0:Con}(h:Up N sz first count G s rs n0)(hs:SmN t s.n):Run N sz first count G t s s.n:=⟨hs,hs,LeN.refl,.inl ⟨rs,n0,h⟩⟩
theorem Run.disk {N sz first count G t:Nat}(g:Geo N sz first count){s:LS}{n':Con}(h:Run N sz first count G t s n'):s.d.cache.length≤300000:=(h.lb g).wf.sz.few
end Go.Proofs.YtpgigkceoolgeaaGreatDoor.Fd
