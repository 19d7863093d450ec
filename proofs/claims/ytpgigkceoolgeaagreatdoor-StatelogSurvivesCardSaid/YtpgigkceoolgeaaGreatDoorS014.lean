import Derived.Test.YtpgigkceoolgeaaGreatDoorS013
set_option linter.all false
namespace Go.Proofs.YtpgigkceoolgeaaGreatDoor.Fd
open Go
set_option maxRecDepth 100000
abbrev NoB:Nat→Prop:=fun _=>False
theorem SlB.q {w w':World}{F:Nat→Prop}{v:Value}{l:List Int}(h:SlB w F v l)(hu:Upd NoB w w'):SlB w' NoB v l:=h.go hu fun _ _ h=>(h.elim id id).elim
theorem SlD.q {α:Type}{e:Elt α}(he:EltOk e){w w':World}{F:Nat→Prop}{v:Value}{xs:List α}(h:SlD e w F v xs)(hu:Upd NoB w w'):SlD e w' NoB v xs:=h.go he hu fun _ _ h=>(h.elim id id).elim
theorem EltOk.q {α:Type}{e:Elt α}(he:EltOk e){w w':World}{F:Nat→Prop}{x:α}{cs:List Value}(h:e.C w F x cs)(hu:Upd NoB w w'):e.C w' NoB x cs:=he.go h hu fun _ _ h=>(h.elim id id).elim
theorem Bow.q {w w':World}{v:Value}{l:List Int}(h:Bow w v l)(hu:Upd NoB w w'):SlB w' NoB v l:=(h.slb (F:=NoB) fun _ _ h=>h).q hu
theorem cC {w:World}{F:Nat→Prop}{y:Value}{b:List Int}(hy:SlB w F y b){n:Int}(hn:I64 n)(hl:b.length≤900000000) :
 Ok (den Tryz.prog 100 #[y,.int .i64 n] w) fun u w'=>Bow w' u (b ++ encI n)∧(∀g,u.ownBlock=some g→w.heap.size≤g)∧Upd NoB w w':=by
 obtain⟨ya,yc,rfl⟩:=hy.form;refine aB (args:=[.slice ya b.length yc,.int .i64 n]) rs100 Tryz.func100 rfl mixed (by kernel_rfl) RE rfl ?_;have hz:=dJ hn;obtain⟨h1,h2⟩:=id hn;by_cases h0:0≤n
 ·have e1:IntKind.u64.wrap (2*IntKind.u64.wrap n)=(zig n:Int):=by
   unfold zig;rw[if_pos h0,IntKind.wrap_u64,IntKind.wrap_u64]; omega
  simp(disch:=omega)only[push_cast,seval,h0,e1];refine Ok.use (bV hy hz hl) ?_;rintro v w1 ⟨h3,h4,h5⟩;obtain⟨va,vc,rfl,_⟩:=h3.form;simp(disch:=omega)only[push_cast,seval];exact⟨h3,h4,h5⟩
 ·have e1:IntKind.u64.wrap (IntKind.u64.wrap (2*IntKind.u64.wrap (-(n+1)))+1)=(zig n:Int):=by
   unfold zig;rw[if_neg h0,IntKind.wrap_u64,IntKind.wrap_u64,IntKind.wrap_u64]; omega
  simp(disch:=omega)only[push_cast,seval,h0,sQ,e1];refine Ok.use (bV hy hz hl) ?_;rintro v w1 ⟨h3,h4,h5⟩;obtain⟨va,vc,rfl,_⟩:=h3.form;simp(disch:=omega)only[push_cast,seval];exact⟨h3,h4,h5⟩
set_option maxHeartbeats 2000000 in
theorem WO {w:World}{F G:Nat→Prop}{y:Value}{b:List Int}(hy:SlB w F y b){c:Cmd}{cs:List Value}(hc:eC.C w G c cs)(hl:b.length+(encC0 c).length≤80000000) :
 Ok (den Tryz.prog 138 #[y,.agg cs.toArray] w) fun u w'=>Bow w' u (b ++ encC0 c)∧(∀g,u.ownBlock=some g→w.heap.size≤g)∧Upd NoB w w':=by
 obtain⟨ya,yc,rfl⟩:=hy.form;refine aB (args:=[.slice ya b.length yc,.agg cs.toArray]) rs138 Tryz.func138 rfl mixed (by kernel_rfl) SH rfl ?_;obtain⟨wv,tv,rfl,hws,htag,hi1,hi2,hi3,hi4,hww,_⟩:=hc;obtain⟨wa,wc,rfl,_⟩:=hws.form;obtain⟨ta,tc,rfl⟩:=htag.form;have hlen:(encC0 c).length=(encI c.client).length+(encI c.seq).length+(encI c.kind).length+(encU c.ws.length).length+(c.ws.flatMap encW).length+(encI c.rep).length:=by simp only[encC0,List.length_append]
 rw[aD];generalize hKs:KS _ _ _ _ _=Ks;simp(disch:=omega)only[push_cast,seval];have b0:=Blk.new (w:=w) (cs:=[.int .i64 c.client,.int .i64 c.seq,.int .i64 c.kind,.slice wa c.ws.length wc,.int .i64 c.rep,.slice ta c.tag.length tc]) (E:=76);have u0:Upd NoB w (w.alloc (.cells [.int .i64 c.client,.int .i64 c.seq,.int .i64 c.kind,.slice wa c.ws.length wc,.int .i64 c.rep,.slice ta c.tag.length tc].toArray 76 (0,0))):=Upd.alloc;generalize w.alloc (.cells [.int .i64 c.client,.int .i64 c.seq,.int .i64 c.kind,.slice wa c.ws.length wc,.int .i64 c.rep,.slice ta c.tag.length tc].toArray 76 (0,0))=w0 at *;subst hKs;rw[aC];rw[aD];generalize hKs:KS _ _ _ _ _=Ks;simp(disch:=omega)only[push_cast,seval,b0.cell];refine Ok.use (cC (hy.q (u0.drew')) hi1 (by omega)) ?_;rintro v w1 ⟨h1,f1,u1⟩;have v1:=u0.drew'.trans u1 fun _ _ h=>h;obtain⟨va,vc,rfl,_⟩:=h1.form;have b1:=b0.drew.upd u1 (fun h=>h);simp(maxSteps:=3000000)(disch:=omega)only[push_cast,seval,↓aE,↓aF,b0.cell,b1.cell];refine Ok.use (cC (h1.q Upd.refl) hi2 (by rw[List.length_append]; omega)) ?_;rintro v w2 ⟨h2,f2,u2⟩;have v2:=v1.trans u2 fun _ _ h=>h;obtain⟨va,vc,rfl,_⟩:=h2.form;have b2:=b1.upd u2 (fun h=>h);simp(maxSteps:=3000000)(disch:=omega)only[push_cast,seval,↓aE,↓aF,b0.cell,b1.cell,b2.cell];refine Ok.use (cC (h2.q Upd.refl) hi3 (by simp only[List.length_append]; omega)) ?_;rintro v w3 ⟨h3,f3,u3⟩;have v3:=v2.trans u3 fun _ _ h=>h;obtain⟨va,vc,rfl,_⟩:=h3.form;have b3:=b2.upd u3 (fun h=>h);simp(maxSteps:=3000000)(disch:=omega)only[push_cast,seval,↓aE,↓aF,b0.cell,b1.cell,b2.cell,b3.cell];subst hKs;rw[aC];have hwl:c.ws.length≤(c.ws.flatMap encW).length:=aT fun x=>by have:=aS x.o.length; simp[encW,encB]; omega
 rw[aD];generalize hKs:KS _ _ _ _ _=Ks;simp(disch:=omega)only[push_cast,seval,b3.cell];rw[bD (by omega)];refine Ok.use (bV (h3.q Upd.refl) (n:=c.ws.length) (by omega) (by simp only[List.length_append]; omega)) ?_;rintro v w4 ⟨h4,f4,u4⟩;have v4:=v3.trans u4 fun _ _ h=>h;obtain⟨va,vc,rfl,_⟩:=h4.form;have b4:=b3.upd u4 (fun h=>h);simp(disch:=omega)only[push_cast,seval];subst hKs;rw[aC];simp(disch:=omega)only[push_cast,seval];have hws4:=hws.q aR v4;have s04:=v4.size;have f4' : ∀g,(Value.slice va (b ++ encI c.client ++ encI c.seq ++ encI c.kind ++ encU c.ws.length).length vc).ownBlock=some g→w.heap.size≤g:=fun g hg=>by have:=f4 g hg; have:=v3.size; omega
 refine aG (I:=fun k st w'=>Bx (∃(i:Nat) (u:Value),k+i=c.ws.length∧st = [u,.int .i64 (i:Int)]∧Bow w' u (b ++ encI c.client ++ encI c.seq ++ encI c.kind ++ encU c.ws.length ++ (c.ws.take i).flatMap encW)∧(∀g,u.ownBlock=some g→w.heap.size≤g)∧Upd NoB w4 w') ⟨⟩) ?_ c.ws.length ⟨0,_,rfl,rfl,by simpa using h4,f4',Upd.refl⟩;clear h4 f4 f4' h3 h2 h1 b3 b2 b1 u4 u3 u2 u1 v1 v2 v3;rintro k st w5 ⟨i,u,hk,rfl,h5,f5,u5⟩;have b5:=b4.upd u5 (fun h=>h);have hws5:=hws4.q aR u5;obtain⟨va,vc,rfl,_⟩:=h5.form;by_cases hk0:k=0
 ·obtain rfl:i=c.ws.length:=by omega
  rw[List.take_length] at h5 ⊢;simp(disch:=omega)only[push_cast,seval,b5.cell];refine Ok.use (cC (h5.q Upd.refl) hi4 (by simp only[List.length_append]; omega)) ?_;rintro v w6 ⟨h6,f6,u6⟩;have e:b ++ encI c.client ++ encI c.seq ++ encI c.kind ++ encU c.ws.length ++ c.ws.flatMap encW ++ encI c.rep=b ++ encC0 c:=by simp[encC0]
  rw[e] at h6;obtain⟨va,vc,rfl,_⟩:=h6.form;simp(disch:=omega)only[push_cast,seval];exact⟨h6,fun g hg=>by have:=f6 g hg; have:=u5.size; omega,(v4.trans u5 fun _ _ h=>h).trans u6 fun _ _ h=>h⟩
 have hi:i<c.ws.length:=by omega
 have hxi:=List.getElem?_eq_getElem hi;have hwx:=hww _ (List.getElem_mem hi);have hle:=aV (f:=encW) hxi;generalize c.ws[i]=x at *;have hlx:(encW x).length=(encB x.o).length+(encB x.d).length:=by simp[encW]
 have hlo:(encB x.o).length=(encU x.o.length).length+x.o.length:=by simp[encB]
 have hld:(encB x.d).length=(encU x.d.length).length+x.d.length:=by simp[encB]
 obtain⟨xb,xo,xc,xcs,hv,hxl,_,⟨dv,rfl,hd,_⟩,hcell⟩:=hws5.at_ hxi;injection hv with e1 _ e3;subst e1;subst e3;obtain⟨da,dc,rfl⟩:=hd.form;have q0:=hcell 0 (by decide);have q1:=hcell 1 (by decide);simp only[eW,List.getElem?_cons_zero,List.getElem?_cons_succ,Nat.add_zero] at q0 q1;simp(maxSteps:=3000000)(disch:=omega)only[push_cast,seval,↓aE,↓aF,b5.cell,q0,q1];refine Ok.use (rI (h5.q Upd.drew) (s:=strOfNums x.o) (by simp only[List.length_append]; omega) (by rw[bW]; omega)) ?_;rintro v w6 ⟨h6,f6,u6⟩;rw[iY hwx.1] at h6;have u56:Upd NoB w5 w6:=Upd.drew.trans u6 fun _ _ h=>h;have b6:=b5.upd u56 (fun h=>h);have p0:w6.cell? ⟨xb,xo+i*2,none⟩=_:=(World.cell?_of_block (a:=⟨xb,xo+i*2,none⟩) (u56.block xb hxl (fun h=>h))).trans q0;have p1:w6.cell? ⟨xb,xo+i*2+1,none⟩=_:=(World.cell?_of_block (a:=⟨xb,xo+i*2+1,none⟩) (u56.block xb hxl (fun h=>h))).trans q1;have hd6:=hd.q u56;obtain⟨va,vc,rfl,_⟩:=h6.form;simp(maxSteps:=3000000)(disch:=omega)only[push_cast,seval,↓aE,↓aF,b5.cell,q0,q1,b6.cell,p0,p1];refine Ok.use (cS (h6.q Upd.refl) hd6 (by simp only[List.length_append]; omega) (by omega)) ?_;rintro v w7 ⟨h7,f7,u7⟩;have e:b ++ encI c.client ++ encI c.seq ++ encI c.kind ++ encU c.ws.length ++ (c.ws.take i).flatMap encW ++ encB x.o ++ encB x.d=b ++ encI c.client ++ encI c.seq ++ encI c.kind ++ encU c.ws.length ++ ((c.ws.take i).flatMap encW ++ encW x):=by simp[encW]
 rw[e,←bE hxi] at h7;have u57:=u56.trans u7 fun _ _ h=>h;simp(maxSteps:=3000000)(disch:=omega)only[push_cast,seval,↓aE,↓aF,b5.cell,q0,q1,b6.cell,p0,p1];exact⟨k-1,by omega,i+1,v,by omega,by simp,h7,fun g hg=>by have:=f7 g hg; have:=u56.size; have:=u5.size; omega,u5.trans u57 fun _ _ h=>h⟩
set_option maxHeartbeats 1000000 in
theorem eJ {w:World}{G:Nat→Prop}{c:Cmd}{cs:List Value}(hc:eC.C w G c cs)(hl:(encC c).length≤80000000) :
 Ok (den Tryz.prog 98 #[.agg cs.toArray] w) fun u w'=>Bow w' u (encC c)∧(∀g,u.ownBlock=some g→w.heap.size≤g)∧Upd NoB w w':=by
 refine aB (args:=[.agg cs.toArray]) rs98 Tryz.func98 rfl mixed (by kernel_rfl) RC rfl ?_;have hlen:=sR (c:=c);have hlt:(encB c.tag).length=(encU c.tag.length).length+c.tag.length:=by simp[encB]
 have hc':=hc;obtain⟨wv,tv,rfl,hws,htag,hi1,hi2,hi3,hi4,hww,_⟩:=hc;obtain⟨wa,wc,rfl,_⟩:=hws.form;obtain⟨ta,tc,rfl⟩:=htag.form;rw[aD];generalize hKs:KS _ _ _ _ _=Ks;simp(disch:=omega)only[push_cast,seval];have b0:=Blk.new (w:=w) (cs:=[.int .i64 c.client,.int .i64 c.seq,.int .i64 c.kind,.slice wa c.ws.length wc,.int .i64 c.rep,.slice ta c.tag.length tc]) (E:=76);have u0:Upd NoB w (w.alloc (.cells [.int .i64 c.client,.int .i64 c.seq,.int .i64 c.kind,.slice wa c.ws.length wc,.int .i64 c.rep,.slice ta c.tag.length tc].toArray 76 (0,0))):=Upd.alloc;generalize w.alloc (.cells [.int .i64 c.client,.int .i64 c.seq,.int .i64 c.kind,.slice wa c.ws.length wc,.int .i64 c.rep,.slice ta c.tag.length tc].toArray 76 (0,0))=w0 at *;subst hKs;rw[aC];simp(maxSteps:=3000000)(disch:=omega)only[push_cast,seval,↓aE,↓aF,b0.cell];have v0:Upd NoB w w0.drew:=u0.drew';refine Ok.use (WO (w:=w0.drew) (y:=.slice none 0 0) (b:=[]) (F:=NoB) ⟨none,0,rfl,fun h=>absurd rfl h⟩ (aA.q hc' v0) (by simp; omega)) ?_;rintro v w1 ⟨h1,f1,u1⟩;rw[List.nil_append] at h1;have v1:=v0.trans u1 fun _ _ h=>h;have b1:=b0.drew.upd u1 (fun h=>h);obtain⟨va,vc,rfl,_⟩:=h1.form;simp(maxSteps:=3000000)(disch:=omega)only[push_cast,seval,↓aE,↓aF,b0.cell,b1.cell];refine Ok.use (cS (h1.q Upd.refl) (htag.q v1) (by omega) (by omega)) ?_;rintro v w2 ⟨h2,f2,u2⟩;have e:encC0 c ++ encB c.tag=encC c:=rfl;rw[e] at h2;obtain⟨va,vc,rfl,_⟩:=h2.form;simp(maxSteps:=3000000)(disch:=omega)only[push_cast,seval,↓aE,↓aF,b0.cell,b1.cell];exact⟨h2,fun g hg=>by have:=f2 g hg; have:=v1.size; omega,v1.trans u2 fun _ _ h=>h⟩
theorem ldC {w:World}{F:Nat→Prop}{b o:Nat}{c:Cmd}{cs:List Value}(hc:eC.C w F c cs)(h : ∀r,r<6→w.cell? ⟨b,o+r,none⟩=cs[r]?):ldS Tryz.prog 76 (.pointer (some ⟨b,o,none⟩)) w=some (.agg cs.toArray,w):=by
 have hl:cs.length=6:=aA.len hc;exact bN (P:=Tryz.prog) (by kernel_rfl) (by rw[hl]; kernel_rfl) (by rw[hl]; exact h)
theorem SlD.old {α:Type}{e:Elt α}{w w':World}{F:Nat→Prop}{b o:Nat}{cs:List Value}{n:Nat}(hb:b<w.heap.size)(hu:Upd F w w')(hF : ¬F b)(h : ∀r,r<n→w.cell? ⟨b,o+r,none⟩=cs[r]?) : ∀r,r<n→w'.cell? ⟨b,o+r,none⟩=cs[r]? :=fun r hr=>by
 rw[World.cell?_of_block (a:=⟨b,o+r,none⟩) (hu.block b hb hF)];exact h r hr
theorem cI {α:Type}{f:α→List Int} : ∀{l:List α},(∀x,x∈l→Rng (f x))→Rng (l.flatMap f)
 | [],_=>fun x hx=>by simp at hx
 | a :: l,h=>by
  rw[List.flatMap_cons];exact(h a List.mem_cons_self).append (cI fun x hx=>h x (List.mem_cons_of_mem _ hx))
theorem bI {c:Cmd}(h:CmdW c):Rng (encC c):=by
 obtain⟨_,_,_,_,h5,h6⟩:=h;unfold encC encC0;exact(((((cB.append cB).append cB).append (bC _)).append (cI fun x hx=>(bR (h5 x hx).1).append (bR (h5 x hx).2))).append cB).append (bR h6)
theorem cZ {w:World}{F:Nat→Prop}{c:Cmd}{cs:List Value}(h:eC.C w F c cs):CmdW c:=by
 obtain⟨_,_,_,_,_,h⟩:=h;exact h
set_option maxHeartbeats 1000000 in
theorem WP {w:World}{G H:Nat→Prop}{c d:Cmd}{cs ds:List Value}(hc:eC.C w G c cs)(hd:eC.C w H d ds)(hl:(encC c).length≤80000000)(hl2:(encC d).length≤80000000) :
 Ok (den Tryz.prog 91 #[.agg cs.toArray,.agg ds.toArray] w) fun u w'=>u = .bool (decide (encC c=encC d))∧Upd NoB w w':=by
 refine aB (args:=[.agg cs.toArray,.agg ds.toArray]) rs91 Tryz.func91 rfl mixed (by kernel_rfl) Q5 rfl ?_;have kc:=aA.len hc;have kd:=aA.len hd;rw[aD];generalize hKs:KS _ _ _ _ _=Ks;simp(disch:=omega)only[push_cast,seval];have b0:=(Blk.new (w:=w) (cs:=cs) (E:=76)).alloc (.cells ds.toArray 76 (0,0));have b1:=Blk.new (w:=w.alloc (.cells cs.toArray 76 (0,0))) (cs:=ds) (E:=76);have u0:Upd NoB w ((w.alloc (.cells cs.toArray 76 (0,0))).alloc (.cells ds.toArray 76 (0,0))):=Upd.alloc.alloc';rw[aI] at b1;generalize (w.alloc (.cells cs.toArray 76 (0,0))).alloc (.cells ds.toArray 76 (0,0))=w2 at *;have lA : ∀{w':World},Upd NoB w2 w'→ldS Tryz.prog 76 (.pointer (some ⟨w.heap.size,0,none⟩)) w'=some (.agg cs.toArray,w'):=fun u=>aJ (P:=Tryz.prog) (t:=76) (b0.upd u (fun h=>h)) (by kernel_rfl) (by rw[kc]; kernel_rfl);have lB : ∀{w':World},Upd NoB w2 w'→ldS Tryz.prog 76 (.pointer (some ⟨w.heap.size+1,0,none⟩)) w'=some (.agg ds.toArray,w'):=fun u=>aJ (P:=Tryz.prog) (t:=76) (b1.upd u (fun h=>h)) (by kernel_rfl) (by rw[kd]; kernel_rfl);subst hKs;rw[aC];have v2:Upd NoB w w2.drew:=u0.drew';simp(maxSteps:=3000000)(disch:=omega)only[push_cast,seval,↓aE,↓aF,lA Upd.drew];refine Ok.use (eJ (aA.q hc v2) hl) ?_;rintro v w3 ⟨h3,_,u3'⟩;have u3:Upd NoB w2 w3:=Upd.drew.trans u3' fun _ _ h=>h;obtain⟨va,vc,rfl,_⟩:=h3.form;simp(maxSteps:=3000000)(disch:=omega)only[push_cast,seval,↓aE,↓aF,lA Upd.drew,lB Upd.drew,lB u3,aN (h3.q Upd.refl)];refine Ok.use (eJ (aA.q hd (v2.trans u3' fun _ _ h=>h)) hl2) ?_;rintro v w4 ⟨h4,_,u4⟩;obtain⟨xa,xc,rfl,_⟩:=h4.form;have hse:=dX (bI (cZ hc)) (bI (cZ hd));simp(maxSteps:=3000000)(disch:=omega)only[push_cast,seval,↓aE,↓aF,lA Upd.drew,lB Upd.drew,lB u3,aN (h3.q Upd.refl),aN (h3.q u4),aN (h4.q Upd.refl),hse];exact(v2.trans u3' fun _ _ h=>h).trans u4 fun _ _ h=>h
set_option maxHeartbeats 1000000 in
theorem sS {w:World}{G H:Nat→Prop}{a b:Value}{xs ys:List Cmd}(ha:SlD eC w G a xs)(hb:SlD eC w H b ys)(hl : ∀x,x∈xs→(encC x).length≤80000000)(hl2 : ∀x,x∈ys→(encC x).length≤80000000)(hn:xs.length≤1000000) :
 Ok (den Tryz.prog 48 #[a,b] w) fun u w'=>u = .bool (decide (xs.map encC=ys.map encC))∧Upd NoB w w':=by
 obtain⟨aa,ac,rfl,_⟩:=ha.form;obtain⟨ba,bc,rfl,_⟩:=hb.form;refine aB (args:=[.slice aa xs.length ac,.slice ba ys.length bc]) rs48 Tryz.func48 rfl mixed (by kernel_rfl) PZ rfl ?_;by_cases hlen:xs.length=ys.length;rotate_left
 ·have h1 : ¬(xs.length:Int)=(ys.length:Int):=by omega
  simp(disch:=omega)only[push_cast,seval,h1];refine⟨?_,Upd.refl⟩;rw[decide_eq_false];intro e;exact hlen (by simpa using congrArg List.length e)
 have h1:(xs.length:Int)=(ys.length:Int):=by omega
 simp(disch:=omega)only[push_cast,seval,h1];refine aG (I:=fun k st w'=>Bx (∃i:Nat,k+i=ys.length∧st = [.int .i64 (i:Int)]∧Upd NoB w w'∧(xs.take i).map encC=(ys.take i).map encC) ⟨⟩) ?_ ys.length ⟨0,rfl,rfl,Upd.refl,rfl⟩;rintro k st w2 ⟨i,hk,rfl,hu,he⟩;have ha2:=ha.q aA hu;have hb2:=hb.q aA hu;by_cases hk0:k=0
 ·obtain rfl:i=ys.length:=by omega
  simp(disch:=omega)only[push_cast,seval,h1];rw[List.take_of_length_le (by omega),List.take_of_length_le (by omega)] at he;exact⟨by rw[decide_eq_true he],hu⟩
 have hi:i<ys.length:=by omega
 have hi2:i<xs.length:=by omega
 have hx:=List.getElem?_eq_getElem hi2;have hy:=List.getElem?_eq_getElem hi;have hlx:=hl _ (List.getElem_mem hi2);have hly:=hl2 _ (List.getElem_mem hi);have htx:xs.take (i+1)=xs.take i ++ [xs[i]]:=List.take_succ_eq_append_getElem hi2;have hty:ys.take (i+1)=ys.take i ++ [ys[i]]:=List.take_succ_eq_append_getElem hi;generalize xs[i]=x at *;generalize ys[i]=y at *;obtain⟨xb,xo,xc,xcs,hv,hxl,_,hcx,hcell⟩:=ha2.at_ hx;injection hv with e1 _ e3;subst e1;subst e3;obtain⟨yb,yo,yc,ycs,hv,hyl,_,hcy,hcell'⟩:=hb2.at_ hy;injection hv with e1 _ e3;subst e1;subst e3;have l1:=ldC (w:=w2.drew) (aA.q hcx Upd.drew) hcell;have l2:=ldC (w:=w2.drew) (aA.q hcy Upd.drew) hcell';have es:eC.s=6:=rfl;rw[es] at l1 l2;simp(maxSteps:=3000000)(disch:=omega)only[push_cast,seval,l1,l2,h1];refine Ok.use (WP (aA.q hcx Upd.drew) (aA.q hcy Upd.drew) hlx hly) ?_;rintro v w3 ⟨rfl,u3⟩;by_cases hxy:encC x=encC y
 ·rw[decide_eq_true hxy];simp(maxSteps:=3000000)(disch:=omega)only[push_cast,seval,l1,l2,h1];refine⟨k-1,by omega,i+1,by omega,by simp,hu.trans (Upd.drew.trans u3 fun _ _ h=>h) fun _ _ h=>h,?_⟩;rw[htx,hty,List.map_append,List.map_append,he,List.map_singleton,List.map_singleton,hxy]
 ·rw[decide_eq_false hxy];simp(maxSteps:=3000000)(disch:=omega)only[push_cast,seval,l1,l2,h1];refine⟨?_,hu.trans (Upd.drew.trans u3 fun _ _ h=>h) fun _ _ h=>h⟩;rw[decide_eq_false];intro e;have:=congrArg (fun l=>l[i]?) e;simp only[List.getElem?_map,hx,hy,Option.map_some,Option.some.injEq] at this;exact hxy this
theorem cJ {l:List Cmd}:(encL l).length=(encU l.length).length+(l.flatMap fun c=>encB (encC c)).length:=by simp only [encL,List.length_append]
set_option maxHeartbeats 1000000 in
theorem sT {w:World}{F G:Nat→Prop}{y v:Value}{b:List Int}{l:List Cmd}(hy:SlB w F y b)(hv:SlD eC w G v l)(hl:b.length+(encL l).length≤80000000) :
 Ok (den Tryz.prog 140 #[y,v] w) fun u w'=>Bow w' u (b ++ encL l)∧(∀g,u.ownBlock=some g→w.heap.size≤g)∧Upd NoB w w':=by
 obtain⟨ya,yc,rfl⟩:=hy.form;obtain⟨va,vc,rfl,_⟩:=hv.form;refine aB (args:=[.slice ya b.length yc,.slice va l.length vc]) rs140 Tryz.func140 rfl mixed (by kernel_rfl) SJ rfl ?_;have hlen:=cJ (l:=l);have hge:l.length≤(l.flatMap fun c=>encB (encC c)).length:=aT fun x=>by have:=aS (encC x).length; simp[encB]; omega
 rw[aD];generalize hKs:KS _ _ _ _ _=Ks;simp(disch:=omega)only[push_cast,seval];subst hKs;rw[aC];rw[aD];generalize hKs:KS _ _ _ _ _=Ks;simp(disch:=omega)only[push_cast,seval];rw[bD (by omega)];refine Ok.use (bV hy (n:=l.length) (by omega) (by omega)) ?_;rintro u w1 ⟨h1,f1,u1⟩;obtain⟨ua,uc,rfl,_⟩:=h1.form;simp(disch:=omega)only[push_cast,seval];subst hKs;rw[aC];simp(disch:=omega)only[push_cast,seval];refine aG (I:=fun k st w'=>Bx (∃(i:Nat) (u:Value),k+i=l.length∧st = [u,.int .i64 (i:Int)]∧Bow w' u (b ++ encU l.length ++ (l.take i).flatMap fun c=>encB (encC c))∧(∀g,u.ownBlock=some g→w.heap.size≤g)∧Upd NoB w w') ⟨⟩) ?_ l.length ⟨0,_,rfl,rfl,by simpa using h1,f1,u1⟩;clear h1 f1 u1;rintro k st w2 ⟨i,u,hk,rfl,h2,f2,u2⟩;have hv2:=hv.q aA u2;obtain⟨ua,uc,rfl,_⟩:=h2.form;by_cases hk0:k=0
 ·obtain rfl:i=l.length:=by omega
  rw[List.take_length,List.append_assoc] at h2 f2;rw[List.take_length,List.append_assoc];simp(disch:=omega)only[push_cast,seval];exact⟨h2,f2,u2⟩
 have hi:i<l.length:=by omega
 have hx:=List.getElem?_eq_getElem hi;generalize l[i]=x at *;have hle:=aV (f:=fun c=>encB (encC c)) hx;have htk:=bE (f:=fun c=>encB (encC c)) hx;have hlb:(encB (encC x)).length=(encU (encC x).length).length+(encC x).length:=by simp[encB]
 obtain⟨xb,xo,xc,xcs,hvv,hxl,_,hcx,hcell⟩:=hv2.at_ hx;injection hvv with e1 _ e3;subst e1;subst e3;have l1:=ldC (w:=w2) hcx hcell;have es:eC.s=6:=rfl;rw[es] at l1;simp(disch:=omega)only[push_cast,seval,l1];refine Ok.use (eJ hcx (by omega)) ?_;rintro v w3 ⟨h3,_,u3⟩;obtain⟨xa,xc',rfl,_⟩:=h3.form;simp(disch:=omega)only[push_cast,seval];refine Ok.use (cS (h2.q u3) (h3.q Upd.refl) (by simp only[List.length_append]; omega) (by omega)) ?_;rintro v w4 ⟨h4,f4,u4⟩;rw[List.append_assoc,←htk] at h4;simp(disch:=omega)only[push_cast,seval];have u34:=u3.trans u4 fun _ _ h=>h;exact⟨k-1,by omega,i+1,v,by omega,by simp,h4,fun g hg=>by have:=f4 g hg; have:=u2.size; have:=u3.size; omega,u2.trans u34 fun _ _ h=>h⟩
set_option maxHeartbeats 1000000 in
theorem lX {w:World}{F G:Nat→Prop}{y v:Value}{b:List Int}{l:List Cmd}(hy:SlB w F y b)(hv:SlD eC w G v l)(hl:b.length+(encL l).length≤80000000) :
 Ok (den Tryz.prog 51 #[y,v] w) fun u w'=>Bow w' u (b ++ encL l)∧(∀g,u.ownBlock=some g→w.heap.size≤g)∧Upd NoB w w':=by
 obtain⟨ya,yc,rfl⟩:=hy.form;obtain⟨va,vc,rfl,_⟩:=hv.form;refine aB (args:=[.slice ya b.length yc,.slice va l.length vc]) rs51 Tryz.func51 rfl mixed (by kernel_rfl) P2 rfl ?_;have hlen:=cJ (l:=l);have hge:l.length≤(l.flatMap fun c=>encB (encC c)).length:=aT fun x=>by have:=aS (encC x).length; simp[encB]; omega
 rw[aD];generalize hKs:KS _ _ _ _ _=Ks;simp(disch:=omega)only[push_cast,seval];subst hKs;rw[aC];rw[aD];generalize hKs:KS _ _ _ _ _=Ks;simp(disch:=omega)only[push_cast,seval];rw[bD (by omega)];refine Ok.use (bV hy (n:=l.length) (by omega) (by omega)) ?_;rintro u w1 ⟨h1,f1,u1⟩;obtain⟨ua,uc,rfl,_⟩:=h1.form;simp(disch:=omega)only[push_cast,seval];subst hKs;rw[aC];simp(disch:=omega)only[push_cast,seval];refine aG (I:=fun k st w'=>Bx (∃(i:Nat) (u:Value),k+i=l.length∧st = [u,.int .i64 (i:Int)]∧Bow w' u (b ++ encU l.length ++ (l.take i).flatMap fun c=>encB (encC c))∧(∀g,u.ownBlock=some g→w.heap.size≤g)∧Upd NoB w w') ⟨⟩) ?_ l.length ⟨0,_,rfl,rfl,by simpa using h1,f1,u1⟩;clear h1 f1 u1;rintro k st w2 ⟨i,u,hk,rfl,h2,f2,u2⟩;have hv2:=hv.q aA u2;obtain⟨ua,uc,rfl,_⟩:=h2.form;by_cases hk0:k=0
 ·obtain rfl:i=l.length:=by omega
  rw[List.take_length,List.append_assoc] at h2 f2;rw[List.take_length,List.append_assoc];simp(disch:=omega)only[push_cast,seval];exact⟨h2,f2,u2⟩
 have hi:i<l.length:=by omega
 have hx:=List.getElem?_eq_getElem hi;generalize l[i]=x at *;have hle:=aV (f:=fun c=>encB (encC c)) hx;have htk:=bE (f:=fun c=>encB (encC c)) hx;have hlb:(encB (encC x)).length=(encU (encC x).length).length+(encC x).length:=by simp[encB]
 obtain⟨xb,xo,xc,xcs,hvv,hxl,_,hcx,hcell⟩:=hv2.at_ hx;injection hvv with e1 _ e3;subst e1;subst e3;have l1:=ldC (w:=w2) hcx hcell;have es:eC.s=6:=rfl;rw[es] at l1;simp(disch:=omega)only[push_cast,seval,l1];refine Ok.use (eJ hcx (by omega)) ?_;rintro v w3 ⟨h3,_,u3⟩;obtain⟨xa,xc',rfl,_⟩:=h3.form;simp(disch:=omega)only[push_cast,seval];refine Ok.use (cS (h2.q u3) (h3.q Upd.refl) (by simp only[List.length_append]; omega) (by omega)) ?_;rintro v w4 ⟨h4,f4,u4⟩;rw[List.append_assoc,←htk] at h4;simp(disch:=omega)only[push_cast,seval];have u34:=u3.trans u4 fun _ _ h=>h;exact⟨k-1,by omega,i+1,v,by omega,by simp,h4,fun g hg=>by have:=f4 g hg; have:=u2.size; have:=u3.size; omega,u2.trans u34 fun _ _ h=>h⟩
open Go
set_option maxRecDepth 100000
def RidW (r:Rid):Prop:=I64 r.client∧I64 r.number∧Rng r.tag
def AkkW (a:Akk):Prop:=I64 a.rep∧Rng a.tag
def ClmW (c:Clm):Prop:=I64 c.rr∧I64 c.rl∧I64 c.rn∧I64 c.count∧Rng c.root∧(∀r,r∈c.reads→RidW r)∧(∀x,x∈c.base→CmdW x)∧∀x,x∈c.conf→CmdW x
def CrtW (s:Crt):Prop:=ClmW s.c∧∀a,a∈s.acks→AkkW a
def BasW (b:Bas):Prop:=(∀s,s∈b.steps→CrtW s)∧∀x,x∈b.taken→CmdW x
def ConW (c:Con):Prop:=(∀x,x∈c.st→CmdW x)∧BasW c.bas∧0≤c.life∧c.life≤4611686018427387904
def eR:Elt Rid:=⟨175,3,fun w F r cs=>∃tv,cs = [.int .i64 r.client,.int .i64 r.number,tv]∧SlB w F tv r.tag∧RidW r⟩
theorem aW:EltOk eR where
 pos:=by decide
 len:=by rintro w F x cs ⟨tv,rfl,_⟩; rfl
 one:=by
  rintro w F x cs ⟨tv,rfl,h,_⟩ u hu;simp at hu;rcases hu with rfl | rfl | rfl
  ·rfl
  ·rfl
  ·exact h.one
 go:=by
  rintro w w' F F' G x cs ⟨tv,rfl,h,h2⟩ hu hG;exact⟨tv,rfl,h.go hu hG,h2⟩
def eA:Elt Akk:=⟨154,2,fun w F a cs=>∃tv,cs = [.int .i64 a.rep,tv]∧SlB w F tv a.tag∧AkkW a⟩
theorem bF:EltOk eA where
 pos:=by decide
 len:=by rintro w F x cs ⟨tv,rfl,_⟩; rfl
 one:=by
  rintro w F x cs ⟨tv,rfl,h,_⟩ u hu;simp at hu;rcases hu with rfl | rfl
  ·rfl
  ·exact h.one
 go:=by
  rintro w w' F F' G x cs ⟨tv,rfl,h,h2⟩ hu hG;exact⟨tv,rfl,h.go hu hG,h2⟩
def eK:Elt Clm:=⟨85,8,fun w F c cs=>∃rv bv fv ov,cs = [.int .i64 c.rr,.int .i64 c.rl,.int .i64 c.rn,rv,bv,fv,.int .i64 c.count,ov]∧SlD eR w F rv c.reads∧SlD eC w F bv c.base∧SlD eC w F fv c.conf∧SlB w F ov c.root∧ClmW c⟩
theorem aX:EltOk eK where
 pos:=by decide
 len:=by rintro w F x cs ⟨_,_,_,_,rfl,_⟩; rfl
 one:=by
  rintro w F x cs ⟨_,_,_,_,rfl,h1,h2,h3,h4,_⟩ u hu;simp at hu;rcases hu with rfl | rfl | rfl | rfl | rfl | rfl | rfl | rfl
  ·rfl
  ·rfl
  ·rfl
  ·exact h1.one
  ·exact h2.one
  ·exact h3.one
  ·rfl
  ·exact h4.one
 go:=by
  rintro w w' F F' G x cs ⟨_,_,_,_,rfl,h1,h2,h3,h4,h5⟩ hu hG;exact⟨_,_,_,_,rfl,h1.go aW hu hG,h2.go aA hu hG,h3.go aA hu hG,h4.go hu hG,h5⟩
def eT:Elt Crt:=⟨88,9,fun w F s cs=>∃ks av,cs=ks ++ [av]∧eK.C w F s.c ks∧SlD eA w F av s.acks∧CrtW s⟩
theorem aM:EltOk eT where
 pos:=by decide
 len:=by
  rintro w F x cs ⟨ks,av,rfl,h,_⟩;rw[List.length_append,aX.len h];rfl
 one:=by
  rintro w F x cs ⟨ks,av,rfl,h1,h2,_⟩ u hu;rcases List.mem_append.1 hu with hu | hu
  ·exact aX.one h1 u hu
  ·rw[List.mem_singleton.1 hu]; exact h2.one
 go:=by
  rintro w w' F F' G x cs ⟨ks,av,rfl,h1,h2,h3⟩ hu hG;exact⟨ks,av,rfl,aX.go h1 hu hG,h2.go bF hu hG,h3⟩
def eB:Elt Bas:=⟨35,2,fun w F b cs=>∃sv tv,cs = [sv,tv]∧SlD eT w F sv b.steps∧SlD eC w F tv b.taken∧BasW b⟩
theorem aK:EltOk eB where
 pos:=by decide
 len:=by rintro w F x cs ⟨_,_,rfl,_⟩; rfl
 one:=by
  rintro w F x cs ⟨_,_,rfl,h1,h2,_⟩ u hu;simp at hu;rcases hu with rfl | rfl
  ·exact h1.one
  ·exact h2.one
 go:=by
  rintro w w' F F' G x cs ⟨_,_,rfl,h1,h2,h3⟩ hu hG;exact⟨_,_,rfl,h1.go aM hu hG,h2.go aA hu hG,h3⟩
def eN:Elt Con:=⟨90,4,fun w F c cs=>∃sv b1 b2,cs = [sv,b1,b2,.int .i64 c.life]∧SlD eC w F sv c.st∧eB.C w F c.bas [b1,b2]∧ConW c⟩
theorem aH:EltOk eN where
 pos:=by decide
 len:=by rintro w F x cs ⟨_,_,_,rfl,_⟩; rfl
 one:=by
  rintro w F x cs ⟨_,_,_,rfl,h1,h2,_⟩ u hu;have hb:=aK.one h2;simp at hu;rcases hu with rfl | rfl | rfl | rfl
  ·exact h1.one
  ·exact hb _ (by simp)
  ·exact hb _ (by simp)
  ·rfl
 go:=by
  rintro w w' F F' G x cs ⟨_,_,_,rfl,h1,h2,h3⟩ hu hG;exact⟨_,_,_,rfl,h1.go aA hu hG,aK.go h2 hu hG,h3⟩
theorem bO:zer Tryz.prog 76=some (.agg #[.int .i64 0,.int .i64 0,.int .i64 0,.slice none 0 0,.int .i64 0,.slice none 0 0]):=by kernel_rfl
set_option maxHeartbeats 1000000 in
theorem lY {w:World}{S:Nat→Prop}{p:Nat}{b:List Int}(h:WrI w S p b){v:Value}{l:List Cmd}(hv:SlD eC w S v l)(hl:b.length+(encL l).length≤80000000) :
 Ok (den Tryz.prog 69 #[.pointer (some ⟨p,0,none⟩),v] w) fun u w'=>WrI w' (gr S w w') p (b ++ encL l)∧Upd S w w':=by
 obtain⟨va,vc,rfl,_⟩:=hv.form;have hS:=h.bd;refine aB (args:=[.pointer (some ⟨p,0,none⟩),.slice va l.length vc]) rs69 Tryz.func69 rfl mixed (by kernel_rfl) QK rfl ?_;have hlen:=cJ (l:=l);have hge:l.length≤(l.flatMap fun c=>encB (encC c)).length:=aT fun x=>by have:=aS (encC x).length; simp[encB]; omega
 rw[aD];generalize hKs:KS _ _ _ _ _=Ks;simp(disch:=omega)only[push_cast,seval];rw[bD (by omega)];refine Ok.use (bM h (n:=l.length) (by omega) (by omega)) ?_;rintro u w1 ⟨h1,u1⟩;simp(disch:=omega)only[push_cast,seval];subst hKs;rw[aC];simp(disch:=omega)only[push_cast,seval];refine aG (I:=fun k st w'=>Bx (∃i:Nat,k+i=l.length∧st = [.int .i64 (i:Int)]∧WrI w' (gr S w w') p (b ++ encU l.length ++ (l.take i).flatMap fun c=>encB (encC c))∧Upd S w w') ⟨⟩) ?_ l.length ⟨0,rfl,rfl,by simpa using h1,u1⟩;clear h1 u1;rintro k st w2 ⟨i,hk,rfl,h2,u2⟩;have hv2:=hv.go (F':=gr S w w2) aA u2 a7;by_cases hk0:k=0
 ·obtain rfl:i=l.length:=by omega
  rw[List.take_length,List.append_assoc] at h2;simp(disch:=omega)only[push_cast,seval];exact⟨h2,u2⟩
 have hi:i<l.length:=by omega
 have hx:=List.getElem?_eq_getElem hi;generalize l[i]=x at *;have hle:=aV (f:=fun c=>encB (encC c)) hx;have htk:=bE (f:=fun c=>encB (encC c)) hx;have hlb:(encB (encC x)).length=(encU (encC x).length).length+(encC x).length:=by simp[encB]
 obtain⟨xb,xo,xc,xcs,hvv,hxl,_,hcx,hcell⟩:=hv2.at_ hx;injection hvv with e1 _ e3;subst e1;subst e3;have l1:=ldC (w:=w2) hcx hcell;have es:eC.s=6:=rfl;have kc:=aA.len hcx;rw[es] at l1 kc;have b3:=Blk.new (w:=w2) (cs:=[.int .i64 0,.int .i64 0,.int .i64 0,.slice none 0 0,.int .i64 0,.slice none 0 0]) (E:=76);have u3:Upd NoB w2 (w2.alloc (.cells #[.int .i64 0,.int .i64 0,.int .i64 0,.slice none 0 0,.int .i64 0,.slice none 0 0] 76 (0,0))):=Upd.alloc;have b4:=b3.setRow (cs':=xcs);simp(maxSteps:=3000000)(disch:=omega)only[push_cast,seval,l1,bO,aP (P:=Tryz.prog) (t:=76) (cs':=xcs) b3 (by rw[kc]; kernel_rfl) (by rw[kc]; rfl) (aA.one hcx),aJ (P:=Tryz.prog) (t:=76) b4 (by kernel_rfl) (by rw[kc]; kernel_rfl)];have u4:=u3.trans (Upd.setRow (F:=fun b=>b=w2.heap.size) (w:=w2.alloc (.cells #[.int .i64 0,.int .i64 0,.int .i64 0,.slice none 0 0,.int .i64 0,.slice none 0 0] 76 (0,0))) (g:=w2.heap.size) (cs:=xcs.toArray) rfl) (F:=NoB) (fun b h1 h2=>by omega);generalize (w2.alloc (.cells #[.int .i64 0,.int .i64 0,.int .i64 0,.slice none 0 0,.int .i64 0,.slice none 0 0] 76 (0,0))).setRow w2.heap.size xcs.toArray=w4 at *;have hc4:=aA.go (F':=gr S w w2) hcx u4 fun _ _ h=>h.elim (fun h=>h.elim) id;refine Ok.use (iZ hc4 (by omega)) ?_;rintro v w5 ⟨h5,f5,u5⟩;obtain⟨xa,xc',rfl,_⟩:=h5.form;have u25:=u4.trans u5 fun _ _ h=>h;have h5w:=h2.quiet u25;simp(disch:=omega)only[push_cast,seval];refine Ok.use (cR h5w (h5.slb (F:=gr S w w2) fun g hg hb=>by have:=f5 g hg; have:=h2.bd _ hb; have:=u4.size; omega) (fun _ h=>h) (by omega) (by simp only[List.length_append]; omega)) ?_;rintro v w6 ⟨h6,u6⟩;rw[List.append_assoc,←htk] at h6;simp(disch:=omega)only[push_cast,seval];have s02:=u2.size;have s25:=u25.size;have s56:=u6.size;refine⟨k-1,by omega,i+1,by omega,by simp,h6.wide (fun b hb=>?_) (fun b hb=>?_),(u2.trans u25 fun _ _ h=>h.elim).trans u6 fun b hb h=>h.elim id fun h=>by omega⟩
 ·rcases hb with (hb | hb) | hb
  ·exact .inl hb
  ·exact .inr ⟨hb.1,by omega⟩
  ·exact .inr ⟨by omega,hb.2⟩
 ·rcases hb with hb | hb
  ·have:=hS b hb; omega
  ·exact hb.2
set_option maxHeartbeats 1000000 in
theorem sU {w:World}{S:Nat→Prop}{p:Nat}{b:List Int}(h:WrI w S p b){v:Value}{l:List Cmd}(hv:SlD eC w S v l)(hl:b.length+(encL l).length≤80000000) :
 Ok (den Tryz.prog 156 #[v,.pointer (some ⟨p,0,none⟩)] w) fun u w'=>WrI w' (gr S w w') p (b ++ encL l)∧Upd S w w':=by
 obtain⟨va,vc,rfl,_⟩:=hv.form;have hS:=h.bd;refine aB (args:=[.slice va l.length vc,.pointer (some ⟨p,0,none⟩)]) rs156 Tryz.func156 rfl mixed (by kernel_rfl) S0 rfl ?_;have hlen:=cJ (l:=l);have hge:l.length≤(l.flatMap fun c=>encB (encC c)).length:=aT fun x=>by have:=aS (encC x).length; simp[encB]; omega
 rw[aD];generalize hKs:KS _ _ _ _ _=Ks;simp(disch:=omega)only[push_cast,seval];rw[bD (by omega)];refine Ok.use (bM h (n:=l.length) (by omega) (by omega)) ?_;rintro u w1 ⟨h1,u1⟩;simp(disch:=omega)only[push_cast,seval];subst hKs;rw[aC];simp(disch:=omega)only[push_cast,seval];refine aG (I:=fun k st w'=>Bx (∃i:Nat,k+i=l.length∧st = [.int .i64 (i:Int)]∧WrI w' (gr S w w') p (b ++ encU l.length ++ (l.take i).flatMap fun c=>encB (encC c))∧Upd S w w') ⟨⟩) ?_ l.length ⟨0,rfl,rfl,by simpa using h1,u1⟩;clear h1 u1;rintro k st w2 ⟨i,hk,rfl,h2,u2⟩;have hv2:=hv.go (F':=gr S w w2) aA u2 a7;by_cases hk0:k=0
 ·obtain rfl:i=l.length:=by omega
  rw[List.take_length,List.append_assoc] at h2;simp(disch:=omega)only[push_cast,seval];exact⟨h2,u2⟩
 have hi:i<l.length:=by omega
 have hx:=List.getElem?_eq_getElem hi;generalize l[i]=x at *;have hle:=aV (f:=fun c=>encB (encC c)) hx;have htk:=bE (f:=fun c=>encB (encC c)) hx;have hlb:(encB (encC x)).length=(encU (encC x).length).length+(encC x).length:=by simp[encB]
 obtain⟨xb,xo,xc,xcs,hvv,hxl,_,hcx,hcell⟩:=hv2.at_ hx;injection hvv with e1 _ e3;subst e1;subst e3;have l1:=ldC (w:=w2) hcx hcell;have es:eC.s=6:=rfl;have kc:=aA.len hcx;rw[es] at l1 kc;have b3:=Blk.new (w:=w2) (cs:=[.int .i64 0,.int .i64 0,.int .i64 0,.slice none 0 0,.int .i64 0,.slice none 0 0]) (E:=76);have u3:Upd NoB w2 (w2.alloc (.cells #[.int .i64 0,.int .i64 0,.int .i64 0,.slice none 0 0,.int .i64 0,.slice none 0 0] 76 (0,0))):=Upd.alloc;have b4:=b3.setRow (cs':=xcs);simp(maxSteps:=3000000)(disch:=omega)only[push_cast,seval,l1,bO,aP (P:=Tryz.prog) (t:=76) (cs':=xcs) b3 (by rw[kc]; kernel_rfl) (by rw[kc]; rfl) (aA.one hcx),aJ (P:=Tryz.prog) (t:=76) b4 (by kernel_rfl) (by rw[kc]; kernel_rfl)];have u4:=u3.trans (Upd.setRow (F:=fun b=>b=w2.heap.size) (w:=w2.alloc (.cells #[.int .i64 0,.int .i64 0,.int .i64 0,.slice none 0 0,.int .i64 0,.slice none 0 0] 76 (0,0))) (g:=w2.heap.size) (cs:=xcs.toArray) rfl) (F:=NoB) (fun b h1 h2=>by omega);generalize (w2.alloc (.cells #[.int .i64 0,.int .i64 0,.int .i64 0,.slice none 0 0,.int .i64 0,.slice none 0 0] 76 (0,0))).setRow w2.heap.size xcs.toArray=w4 at *;have hc4:=aA.go (F':=gr S w w2) hcx u4 fun _ _ h=>h.elim (fun h=>h.elim) id;refine Ok.use (iZ hc4 (by omega)) ?_;rintro v w5 ⟨h5,f5,u5⟩;obtain⟨xa,xc',rfl,_⟩:=h5.form;have u25:=u4.trans u5 fun _ _ h=>h;have h5w:=h2.quiet u25;simp(disch:=omega)only[push_cast,seval];refine Ok.use (cR h5w (h5.slb (F:=gr S w w2) fun g hg hb=>by have:=f5 g hg; have:=h2.bd _ hb; have:=u4.size; omega) (fun _ h=>h) (by omega) (by simp only[List.length_append]; omega)) ?_;rintro v w6 ⟨h6,u6⟩;rw[List.append_assoc,←htk] at h6;simp(disch:=omega)only[push_cast,seval];have s02:=u2.size;have s25:=u25.size;have s56:=u6.size;refine⟨k-1,by omega,i+1,by omega,by simp,h6.wide (fun b hb=>?_) (fun b hb=>?_),(u2.trans u25 fun _ _ h=>h.elim).trans u6 fun b hb h=>h.elim id fun h=>by omega⟩
 ·rcases hb with (hb | hb) | hb
  ·exact .inl hb
  ·exact .inr ⟨hb.1,by omega⟩
  ·exact .inr ⟨by omega,hb.2⟩
 ·rcases hb with hb | hb
  ·have:=hS b hb; omega
  ·exact hb.2
end Go.Proofs.YtpgigkceoolgeaaGreatDoor.Fd
