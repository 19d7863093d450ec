import Derived.Test.YtpgigkceoolgeaaGreatDoorS032
set_option linter.all false
namespace Go.Proofs.YtpgigkceoolgeaaGreatDoor.Fd
open Go
set_option maxRecDepth 100000
set_option maxHeartbeats 8000000 in
theorem aBx {w:World}{G H:Nat→Prop}{x y:Crt}{cs ds:List Value}(hc:eT.C w G x cs)(hd:eT.C w H y ds)(hl:(encT x).length≤80000000)(hl2:(encT y).length≤80000000) :
 Ok (den Tryz.prog 136 #[.agg cs.toArray,.agg ds.toArray] w) fun u w'=>(∃b,u = .bool b∧(x=y→b=true))∧Upd NoB w w':=by
 refine aB (args:=[.agg cs.toArray,.agg ds.toArray]) rs136 Tryz.func136 rfl mixed (by kernel_rfl) SF rfl ?_;have kc:=aM.len hc;have kd:=aM.len hd;have es:eT.s=9:=rfl;have ek:eK.s=8:=rfl;rw[es] at kc kd;have hlx:=cD (s:=x);have hly:=cD (s:=y);obtain⟨ks,av,rfl,hks,hav,hxw⟩:=hc;obtain⟨ls,bv,rfl,hls,hbv,hyw⟩:=hd;obtain⟨aa,ac,rfl,_⟩:=hav.form;obtain⟨ba,bc,rfl,_⟩:=hbv.form;have kk:=aX.len hks;have kl:=aX.len hls;rw[ek] at kk kl;have hga:x.acks.length≤(x.acks.flatMap encA).length:=aT fun a=>by have:=aS a.tag.length; simp[encA,encB]; omega
 have hgb:y.acks.length≤(y.acks.flatMap encA).length:=aT fun a=>by have:=aS a.tag.length; simp[encA,encB]; omega
 rw[aD];generalize hKs:KS _ _ _ _ _=Ks;simp(disch:=omega)only[push_cast,seval];have b0:=(Blk.new (w:=w) (cs:=ks ++ [Value.slice aa x.acks.length ac]) (E:=88)).alloc (.cells (ls ++ [Value.slice ba y.acks.length bc]).toArray 88 (0,0));have b1:=Blk.new (w:=w.alloc (.cells (ks ++ [Value.slice aa x.acks.length ac]).toArray 88 (0,0))) (cs:=ls ++ [Value.slice ba y.acks.length bc]) (E:=88);have u0:Upd NoB w ((w.alloc (.cells (ks ++ [Value.slice aa x.acks.length ac]).toArray 88 (0,0))).alloc (.cells (ls ++ [Value.slice ba y.acks.length bc]).toArray 88 (0,0))):=Upd.alloc.alloc';rw[aI] at b1;generalize (w.alloc (.cells (ks ++ [Value.slice aa x.acks.length ac]).toArray 88 (0,0))).alloc (.cells (ls ++ [Value.slice ba y.acks.length bc]).toArray 88 (0,0))=w2 at *;have lA : ∀{w':World},Upd NoB w2 w'→ldS Tryz.prog 85 (.pointer (some ⟨w.heap.size,0,none⟩)) w'=some (.agg ks.toArray,w'):=fun u=>bN (P:=Tryz.prog) (o:=0) (by kernel_rfl) (by rw[kk]; kernel_rfl) fun r hr=>by rw[(b0.upd u fun h=>h).cell,List.getElem?_append_left (by omega),Nat.zero_add]
 have lB : ∀{w':World},Upd NoB w2 w'→ldS Tryz.prog 85 (.pointer (some ⟨w.heap.size+1,0,none⟩)) w'=some (.agg ls.toArray,w'):=fun u=>bN (P:=Tryz.prog) (o:=0) (by kernel_rfl) (by rw[kl]; kernel_rfl) fun r hr=>by rw[(b1.upd u fun h=>h).cell,List.getElem?_append_left (by omega),Nat.zero_add]
 have qA : ∀{w':World},Upd NoB w2 w'→w'.cell? ⟨w.heap.size,8,none⟩=some (.slice aa x.acks.length ac):=fun u=>by rw[(b0.upd u fun h=>h).cell,List.getElem?_append_right (by omega),kk]; rfl
 have qB : ∀{w':World},Upd NoB w2 w'→w'.cell? ⟨w.heap.size+1,8,none⟩=some (.slice ba y.acks.length bc):=fun u=>by rw[(b1.upd u fun h=>h).cell,List.getElem?_append_right (by omega),kl]; rfl
 subst hKs;rw[aC];have hdr:Upd NoB w2 w2.drew:=Upd.drew;have v2:Upd NoB w w2.drew:=u0.drew';simp(maxSteps:=3000000)(disch:=omega)only[push_cast,seval,↓aE,↓aF,lA hdr,lB hdr,qA hdr,qB hdr];refine Ok.use (m0 (aX.q hks v2) (by omega)) ?_;rintro v w3 ⟨h3,_,u3'⟩;have u3:Upd NoB w2 w3:=hdr.trans u3' fun _ _ h=>h;have v3:=v2.trans u3' fun _ _ h=>h;obtain⟨va,vc,rfl,_⟩:=h3.form;simp(maxSteps:=3000000)(disch:=omega)only[push_cast,seval,↓aE,↓aF,lA hdr,lB hdr,qA hdr,qB hdr,lB u3,lA u3,qA u3,qB u3,aN (h3.q Upd.refl)];refine Ok.use (m0 (aX.q hls v3) (by omega)) ?_;rintro v w4 ⟨h4,_,u4⟩;obtain⟨xa,xc,rfl,_⟩:=h4.form;have z4:=u3.trans u4 fun _ _ h=>h;have v4:=v3.trans u4 fun _ _ h=>h;have hse:=dX (jD hxw.1) (jD hyw.1);by_cases he:encK x.c=encK y.c;rotate_left
 ·have hse':((strOfNums (encK x.c)).toList == (strOfNums (encK y.c)).toList)=false:=by rw[hse,decide_eq_false he]
  simp(maxSteps:=3000000)(disch:=omega)only[push_cast,seval,↓aE,↓aF,lA hdr,lB hdr,qA hdr,qB hdr,lB u3,lA u3,qA u3,qB u3,lA z4,lB z4,qA z4,qB z4,aN (h3.q Upd.refl),aN (h3.q u4),aN (h4.q Upd.refl),hse'];exact⟨⟨false,rfl,fun e=>absurd (by rw[e]) he⟩,v4⟩
 have hse':((strOfNums (encK x.c)).toList == (strOfNums (encK y.c)).toList)=true:=by rw[hse,decide_eq_true he]
 by_cases hlen:x.acks.length=y.acks.length;rotate_left
 ·have h1 : ¬(x.acks.length:Int)=(y.acks.length:Int):=by omega
  simp(maxSteps:=3000000)(disch:=omega)only[push_cast,seval,↓aE,↓aF,lA hdr,lB hdr,qA hdr,qB hdr,lB u3,lA u3,qA u3,qB u3,lA z4,lB z4,qA z4,qB z4,aN (h3.q Upd.refl),aN (h3.q u4),aN (h4.q Upd.refl),hse',h1];exact⟨⟨false,rfl,fun e=>absurd (by rw[e]) hlen⟩,v4⟩
 have h1:(x.acks.length:Int)=(y.acks.length:Int):=by omega
 simp(maxSteps:=3000000)(disch:=omega)only[push_cast,seval,↓aE,↓aF,lA hdr,lB hdr,qA hdr,qB hdr,lB u3,lA u3,qA u3,qB u3,lA z4,lB z4,qA z4,qB z4,aN (h3.q Upd.refl),aN (h3.q u4),aN (h4.q Upd.refl),hse',eq_true h1];refine aG (I:=fun k st w'=>Bx (∃i:Nat,k+i=x.acks.length∧st = [.int .i64 (i:Int)]∧Upd NoB w2 w') ⟨⟩) ?_ x.acks.length ⟨0,rfl,rfl,z4⟩;rintro k st w5 ⟨i,hk,rfl,u5⟩;have v5:=u0.trans u5 fun _ _ h=>h;by_cases hk0:k=0
 ·obtain rfl:i=x.acks.length:=by omega
  simp(maxSteps:=3000000)(disch:=omega)only[push_cast,seval,qA u5];exact⟨⟨true,rfl,fun _=>rfl⟩,v5⟩
 have hi:i<x.acks.length:=by omega
 have hi':(i:Int)<(x.acks.length:Int):=by omega
 have hi2:i<y.acks.length:=by omega
 have hi2':(i:Int)<(y.acks.length:Int):=by omega
 have hx:=List.getElem?_eq_getElem hi;have hy:=List.getElem?_eq_getElem hi2;generalize x.acks[i]=a at hx;generalize y.acks[i]=b at hy;obtain⟨g,o,as_,rfl,hg,hx1,hx2⟩:=(hav.q bF v5).row hx;obtain⟨tv,rfl,hx3,hx4⟩:=hx1;obtain⟨ta,tc,rfl⟩:=hx3.form;obtain⟨g',o',bs_,rfl,hg',hy1,hy2⟩:=(hbv.q bF v5).row hy;obtain⟨sv,rfl,hy3,hy4⟩:=hy1;obtain⟨sa,sc,rfl⟩:=hy3.form;have ea:eA.s=2:=rfl;rw[ea] at hx2 hy2;have r0 : ∀{w':World},Upd NoB w5 w'→w'.cell? ⟨g,o+i*2,none⟩=some (.int .i64 a.rep):=fun u=>hx2 u 0 (by decide);have r1 : ∀{w':World},Upd NoB w5 w'→w'.cell? ⟨g,o+i*2+1,none⟩=some (.slice ta a.tag.length tc):=fun u=>hx2 u 1 (by decide);have t0 : ∀{w':World},Upd NoB w5 w'→w'.cell? ⟨g',o'+i*2,none⟩=some (.int .i64 b.rep):=fun u=>hy2 u 0 (by decide);have t1 : ∀{w':World},Upd NoB w5 w'→w'.cell? ⟨g',o'+i*2+1,none⟩=some (.slice sa b.tag.length sc):=fun u=>hy2 u 1 (by decide);have d5:Upd NoB w5 w5.drew:=Upd.drew;have hse2:=dX hx4.2 hy4.2;have hab:x=y→a=b:=fun e=>by
  rw[e,hy] at hx;injection hx with hx;exact hx.symm
 by_cases hr:a.rep=b.rep
 ·by_cases ht:a.tag=b.tag
  ·rw[decide_eq_true ht] at hse2;simp(maxSteps:=3000000)(disch:=omega)only[push_cast,seval,↓aE,↓aF,hi',hi2',qA u5,qB u5,qA u5.drew',qB u5.drew',r0 d5,r1 d5,t0 d5,t1 d5,eq_true hr,aN (hx3.q d5),aN (hy3.q d5),hse2];exact⟨k-1,by omega,i+1,by omega,rfl,u5.drew'⟩
  ·rw[decide_eq_false ht] at hse2;simp(maxSteps:=3000000)(disch:=omega)only[push_cast,seval,↓aE,↓aF,hi',hi2',qA u5,qB u5,qA u5.drew',qB u5.drew',r0 d5,r1 d5,t0 d5,t1 d5,eq_true hr,aN (hx3.q d5),aN (hy3.q d5),hse2];exact⟨⟨false,rfl,fun e=>absurd (by rw[hab e]) ht⟩,v5.drew'⟩
 ·simp(maxSteps:=3000000)(disch:=omega)only[push_cast,seval,↓aE,↓aF,hi',hi2',qA u5,qB u5,qA u5.drew',qB u5.drew',r0 d5,r1 d5,t0 d5,t1 d5,eq_false hr,aN (hx3.q d5),aN (hy3.q d5)];exact⟨⟨false,rfl,fun e=>absurd (by rw[hab e]) hr⟩,v5.drew'⟩
set_option maxHeartbeats 4000000 in
theorem aBy {w:World}{G H:Nat→Prop}{a b:Value}{xs ys:List Crt}(ha:SlD eT w G a xs)(hb:SlD eT w H b ys)(hl : ∀x,x∈xs→(encT x).length≤80000000)(hl2 : ∀x,x∈ys→(encT x).length≤80000000)(hn:xs.length≤1000000) :
 Ok (den Tryz.prog 92 #[a,b] w) fun u w'=>(∃b,u = .bool b∧(xs=ys→b=true))∧Upd NoB w w':=by
 obtain⟨aa,ac,rfl,_⟩:=ha.form;obtain⟨ba,bc,rfl,_⟩:=hb.form;refine aB (args:=[.slice aa xs.length ac,.slice ba ys.length bc]) rs92 Tryz.func92 rfl mixed (by kernel_rfl) Q6 rfl ?_;by_cases hlen:xs.length=ys.length;rotate_left
 ·have h1 : ¬(xs.length:Int)=(ys.length:Int):=by omega
  simp(disch:=omega)only[push_cast,seval,h1];exact⟨⟨false,rfl,fun e=>absurd (by rw[e]) hlen⟩,Upd.refl⟩
 have h1:(xs.length:Int)=(ys.length:Int):=by omega
 simp(disch:=omega)only[push_cast,seval,eq_true h1];refine aG (I:=fun k st w'=>Bx (∃i:Nat,k+i=xs.length∧st = [.int .i64 (i:Int)]∧Upd NoB w w') ⟨⟩) ?_ xs.length ⟨0,rfl,rfl,Upd.refl⟩;rintro k st w2 ⟨i,hk,rfl,u2⟩;by_cases hk0:k=0
 ·obtain rfl:i=xs.length:=by omega
  simp(disch:=omega)only[push_cast,seval];exact⟨⟨true,rfl,fun _=>rfl⟩,u2⟩
 have hi:i<xs.length:=by omega
 have hi':(i:Int)<(xs.length:Int):=by omega
 have hi2:i<ys.length:=by omega
 have hi2':(i:Int)<(ys.length:Int):=by omega
 have hx:=List.getElem?_eq_getElem hi;have hy:=List.getElem?_eq_getElem hi2;generalize xs[i]=x at hx;generalize ys[i]=y at hy;obtain⟨g,o,cs,rfl,hg,hx1,hx2⟩:=(ha.q aM u2).row hx;obtain⟨g',o',ds,rfl,hg',hy1,hy2⟩:=(hb.q aM u2).row hy;have es:eT.s=9:=rfl;have kc:=aM.len hx1;have kd:=aM.len hy1;rw[es] at hx2 hy2 kc kd;have lA : ∀{w':World},Upd NoB w2 w'→ldS Tryz.prog 88 (.pointer (some ⟨g,o+i*9,none⟩)) w'=some (.agg cs.toArray,w'):=fun u=>bN (P:=Tryz.prog) (by kernel_rfl) (by rw[kc]; kernel_rfl) (by rw[kc]; exact hx2 u);have lB : ∀{w':World},Upd NoB w2 w'→ldS Tryz.prog 88 (.pointer (some ⟨g',o'+i*9,none⟩)) w'=some (.agg ds.toArray,w'):=fun u=>bN (P:=Tryz.prog) (by kernel_rfl) (by rw[kd]; kernel_rfl) (by rw[kd]; exact hy2 u);have d2:Upd NoB w2 w2.drew:=Upd.drew;have hab:xs=ys→x=y:=fun e=>by
  rw[e,hy] at hx;injection hx with hx;exact hx.symm
 simp(maxSteps:=3000000)(disch:=omega)only[push_cast,seval,↓aE,↓aF,hi',hi2',lA d2,lB d2];refine Ok.use (aBx (aM.q hx1 d2) (aM.q hy1 d2) (hl x (List.mem_of_getElem? hx)) (hl2 y (List.mem_of_getElem? hy))) ?_;rintro u w3 ⟨⟨q,rfl,hq⟩,u3⟩;have z3:=d2.trans u3 fun _ _ h=>h;have v3:=u2.trans z3 fun _ _ h=>h;cases q
 ·simp(maxSteps:=3000000)(disch:=omega)only[push_cast,seval,↓aE,↓aF,hi',hi2',lA d2,lB d2,lA z3,lB z3];exact⟨⟨false,rfl,fun e=>hq (hab e)⟩,v3⟩
 ·simp(maxSteps:=3000000)(disch:=omega)only[push_cast,seval,↓aE,↓aF,hi',hi2',lA d2,lB d2,lA z3,lB z3];exact⟨k-1,by omega,i+1,by omega,rfl,v3⟩
theorem kH {l:List Cmd}{x:Cmd}(h:x∈l):(encC x).length≤(encL l).length:=by
 obtain⟨i,hi⟩:=List.getElem?_of_mem h;have:=aV (f:=fun c=>encB (encC c)) hi;rw[cJ];have:(encB (encC x)).length=(encU (encC x).length).length+(encC x).length:=by simp[encB]
 omega
theorem oA {b:Bas}{x:Crt}(h:x∈b.steps):(encT x).length≤(encBs b).length:=by
 obtain⟨i,hi⟩:=List.getElem?_of_mem h;have:=aV (f:=encT) hi;rw[cE];omega
theorem oB {l:List Cmd}:l.length≤(encL l).length:=by
 have hge:l.length≤(l.flatMap fun c=>encB (encC c)).length:=aT fun x=>by have:=aS (encC x).length; simp[encB]; omega
 rw[cJ];omega
theorem wG {b:Bas}:b.steps.length≤(encBs b).length:=by
 have hge:b.steps.length≤(b.steps.flatMap encT).length:=aT fun x=>by have:=aS x.acks.length; rw[cD]; omega
 rw[cE];omega
set_option maxHeartbeats 4000000 in
theorem aBz {w:World}{G H:Nat→Prop}{a b:Bas}{cs ds:List Value}(hc:eB.C w G a cs)(hd:eB.C w H b ds)(hl:(encBs a).length≤1000000)(hl2:(encBs b).length≤1000000) :
 Ok (den Tryz.prog 49 #[.agg cs.toArray,.agg ds.toArray] w) fun u w'=>(∃q,u = .bool q∧(a=b→q=true))∧Upd NoB w w':=by
 obtain⟨sa,sc,ta,tc,rfl,k1,k2,k3⟩:=a8 hc;obtain⟨pa,pc,qa,qc,rfl,m1,m2,m3⟩:=a8 hd;have l1:=cE (b:=a);have l2:=cE (b:=b);refine aB (args:=[.agg #[.slice sa a.steps.length sc,.slice ta a.taken.length tc],.agg #[.slice pa b.steps.length pc,.slice qa b.taken.length qc]]) rs49 Tryz.func49 rfl mixed (by kernel_rfl) P0 rfl ?_;rw[aD];generalize hKs:KS _ _ _ _ _=Ks;simp(disch:=omega)only[push_cast,seval];have b0:=(Blk.new (w:=w) (cs:=[.slice sa a.steps.length sc,.slice ta a.taken.length tc]) (E:=35)).alloc (.cells #[.slice pa b.steps.length pc,.slice qa b.taken.length qc] 35 (0,0));have b1:=Blk.new (w:=w.alloc (.cells #[.slice sa a.steps.length sc,.slice ta a.taken.length tc] 35 (0,0))) (cs:=[.slice pa b.steps.length pc,.slice qa b.taken.length qc]) (E:=35);have u0:Upd NoB w ((w.alloc (.cells #[.slice sa a.steps.length sc,.slice ta a.taken.length tc] 35 (0,0))).alloc (.cells #[.slice pa b.steps.length pc,.slice qa b.taken.length qc] 35 (0,0))):=Upd.alloc.alloc';rw[aI] at b1;generalize (w.alloc (.cells #[.slice sa a.steps.length sc,.slice ta a.taken.length tc] 35 (0,0))).alloc (.cells #[.slice pa b.steps.length pc,.slice qa b.taken.length qc] 35 (0,0))=w2 at *;subst hKs;rw[aC];simp(maxSteps:=3000000)(disch:=omega)only[push_cast,seval,b0.cell,b1.cell];refine Ok.use (aBy (k1.q aM u0) (m1.q aM u0) (fun x hx=>by have:=oA hx; omega) (fun x hx=>by have:=oA hx; omega) (by have:=wG (b:=a); omega)) ?_;rintro u w3 ⟨⟨q,rfl,hq⟩,u3⟩;have v3:=u0.trans u3 fun _ _ h=>h;cases q
 ·simp(maxSteps:=3000000)(disch:=omega)only[push_cast,seval,(b0.upd u3 fun h=>h).cell,(b1.upd u3 fun h=>h).cell];exact⟨⟨false,rfl,fun e=>hq (by rw[e])⟩,v3⟩
 simp(maxSteps:=3000000)(disch:=omega)only[push_cast,seval,(b0.upd u3 fun h=>h).cell,(b1.upd u3 fun h=>h).cell];refine Ok.use (sS (k2.q aA v3) (m2.q aA v3) (fun x hx=>by have:=kH hx; omega) (fun x hx=>by have:=kH hx; omega) (by have:=oB (l:=a.taken); omega)) ?_;rintro u w4 ⟨rfl,u4⟩;simp(maxSteps:=3000000)(disch:=omega)only[push_cast,seval];exact⟨⟨_,rfl,fun e=>by rw[decide_eq_true]; rw[e]⟩,v3.trans u4 fun _ _ h=>h⟩
set_option maxHeartbeats 4000000 in
theorem oC {w:World}{G H:Nat→Prop}{a b:Con}{cs ds:List Value}(hc:eN.C w G a cs)(hd:eN.C w H b ds)(hl:(encCn a).length≤1000000)(hl2:(encCn b).length≤1000000) :
 Ok (den Tryz.prog 16 #[.agg cs.toArray,.agg ds.toArray] w) fun u w'=>(∃q,u = .bool q∧(a=b→q=true))∧Upd NoB w w':=by
 obtain⟨xa,xc,sa,sc,ta,tc,rfl,k1,k2,k3⟩:=aO hc;obtain⟨ya,yc,pa,pc,qa,qc,rfl,m1,m2,m3⟩:=aO hd;have l1:=m7 (c:=a);have l2:=m7 (c:=b);refine aB (args:=[.agg #[.slice xa a.st.length xc,.slice sa a.bas.steps.length sc,.slice ta a.bas.taken.length tc,.int .i64 a.life],.agg #[.slice ya b.st.length yc,.slice pa b.bas.steps.length pc,.slice qa b.bas.taken.length qc,.int .i64 b.life]]) rs16 Tryz.func16 rfl mixed (by kernel_rfl) O4 rfl ?_;rw[aD];generalize hKs:KS _ _ _ _ _=Ks;simp(disch:=omega)only[push_cast,seval];have b0:=(Blk.new (w:=w) (cs:=[.slice xa a.st.length xc,.slice sa a.bas.steps.length sc,.slice ta a.bas.taken.length tc,.int .i64 a.life]) (E:=37)).alloc (.cells #[.slice ya b.st.length yc,.slice pa b.bas.steps.length pc,.slice qa b.bas.taken.length qc,.int .i64 b.life] 37 (0,0));have b1:=Blk.new (w:=w.alloc (.cells #[.slice xa a.st.length xc,.slice sa a.bas.steps.length sc,.slice ta a.bas.taken.length tc,.int .i64 a.life] 37 (0,0))) (cs:=[.slice ya b.st.length yc,.slice pa b.bas.steps.length pc,.slice qa b.bas.taken.length qc,.int .i64 b.life]) (E:=37);have u0:Upd NoB w ((w.alloc (.cells #[.slice xa a.st.length xc,.slice sa a.bas.steps.length sc,.slice ta a.bas.taken.length tc,.int .i64 a.life] 37 (0,0))).alloc (.cells #[.slice ya b.st.length yc,.slice pa b.bas.steps.length pc,.slice qa b.bas.taken.length qc,.int .i64 b.life] 37 (0,0))):=Upd.alloc.alloc';rw[aI] at b1;generalize (w.alloc (.cells #[.slice xa a.st.length xc,.slice sa a.bas.steps.length sc,.slice ta a.bas.taken.length tc,.int .i64 a.life] 37 (0,0))).alloc (.cells #[.slice ya b.st.length yc,.slice pa b.bas.steps.length pc,.slice qa b.bas.taken.length qc,.int .i64 b.life] 37 (0,0))=w2 at *;subst hKs;rw[aC];by_cases hli:a.life=b.life;rotate_left
 ·simp(maxSteps:=3000000)(disch:=omega)only[push_cast,seval,b0.cell,b1.cell,eq_false hli];exact⟨⟨false,rfl,fun e=>absurd (by rw[e]) hli⟩,u0⟩
 simp(maxSteps:=3000000)(disch:=omega)only[push_cast,seval,b0.cell,b1.cell,eq_true hli];refine Ok.use (sS (k1.q aA u0) (m1.q aA u0) (fun x hx=>by have:=kH hx; omega) (fun x hx=>by have:=kH hx; omega) (by have:=oB (l:=a.st); omega)) ?_;rintro u w3 ⟨rfl,u3⟩;have v3:=u0.trans u3 fun _ _ h=>h;by_cases hst:a.st.map encC=b.st.map encC;rotate_left
 ·rw[decide_eq_false hst];simp(maxSteps:=3000000)(disch:=omega)only[push_cast,seval,(b0.upd u3 fun h=>h).cell,(b1.upd u3 fun h=>h).cell];exact⟨⟨false,rfl,fun e=>absurd (by rw[e]) hst⟩,v3⟩
 rw[decide_eq_true hst];simp(maxSteps:=3000000)(disch:=omega)only[push_cast,seval,(b0.upd u3 fun h=>h).cell,(b1.upd u3 fun h=>h).cell];refine Ok.use (aBz (aK.q k2 v3) (aK.q m2 v3) (by omega) (by omega)) ?_;rintro u w4 ⟨⟨q,rfl,hq⟩,u4⟩;cases q
 ·simp(maxSteps:=3000000)(disch:=omega)only[push_cast,seval];exact⟨⟨_,rfl,fun e=>hq (by rw[e])⟩,v3.trans u4 fun _ _ h=>h⟩
 ·simp(maxSteps:=3000000)(disch:=omega)only[push_cast,seval];exact⟨⟨_,rfl,fun e=>hq (by rw[e])⟩,v3.trans u4 fun _ _ h=>h⟩
open Go
set_option maxRecDepth 100000
structure CmdB (x : Cmd) : Prop where
 w:CmdW x
 l:(encC x).length≤2000
theorem CmdB.s {x:Cmd}(h:CmdB x):CmdS x:=⟨h.w,by have:=h.l; omega⟩
theorem wH : ∀{l:List Cmd},(∀x,x∈l→CmdB x)→(l.flatMap fun c=>encB (encC c)).length≤l.length*2010
 | [],_=>Nat.zero_le _
 | x :: l,h=>by
  have:=wH (l:=l) fun y hy=>h y (List.mem_cons_of_mem _ hy);have hx:=(h x List.mem_cons_self).l;have h10:=aL (n:=(encC x).length) (by omega);rw[List.flatMap_cons,List.length_append,List.length_cons,Nat.add_mul];have:(encB (encC x)).length=(encU (encC x).length).length+(encC x).length:=by simp[encB]
  omega
theorem dS {l:List Cmd}(h : ∀x,x∈l→CmdB x)(hl:l.length≤1000000):(encL l).length≤10+l.length*2010:=by
 rw[cJ];have:=aL (n:=l.length) (by omega);have:=wH h;omega
structure BasB (b : Bas) : Prop where
 w:BasW b
 t : ∀x,x∈b.taken→CmdB x
 to:SrtC b.taken
 tl:b.taken.length≤8
 l:(encBs b).length≤200000
theorem aCA {b:Bas}:(confB b).length≤(encBs b).length:=by
 unfold confB;cases h:b.steps.getLast? with
 | none=>exact Nat.zero_le _
 | some s=>
  have hm:s∈b.steps:=List.mem_of_getLast? h;have h1:=oA hm;have h2:=oB (l:=s.c.conf);have h3:=gK (c:=s.c);have h4:=cD (s:=s);show s.c.conf.length≤_;omega
theorem BasB.s {b:Bas}(h:BasB b):BasS b:=by
 have h1:=aCA (b:=b);have h2:=wG (b:=b);have h3:=h.l;have h4:=h.tl;exact⟨h.w,fun x hx=>(h.t x hx).s,h.to,by omega,by omega,by omega⟩
structure SmN (t : Nat) (n : Con) : Prop where
 s : ∀x,x∈n.st→CmdB x
 o:SrtC n.st
 sl:n.st.length≤8*t
 b:BasB n.bas
 l0:0≤n.life
 l1:n.life≤4611686018427387904
theorem SmN.cons {t:Nat}{n:Con}(h:SmN t n)(ht:t≤30):ConS n:=by
 have hb:=h.b.s;have:=h.sl;exact⟨⟨fun x hx=>(h.s x hx).w,h.b.w,h.l0,h.l1⟩,fun x hx=>(h.s x hx).s,h.o,hb.ts,hb.to,by omega,hb.bl,hb.cl⟩
theorem SmN.len {t:Nat}{n:Con}(h:SmN t n)(ht:t≤30):(encCn n).length≤700000:=by
 have h1:=h.sl;have h2:=h.b.l;have h3:=dS h.s (by omega);have h4:=h.l1;have h5:=aL (n:=n.life.toNat) (by omega);rw[cK];have:n.st.length*2010≤240*2010:=Nat.mul_le_mul_right _ (by omega);omega
theorem SmN.mono {t t':Nat}{n:Con}(h:SmN t n)(ht:t≤t'):SmN t' n:=⟨h.s,h.o,by have:=h.sl; omega,h.b,h.l0,h.l1⟩
theorem kI:BasB ⟨[],[]⟩:=⟨dR,fun x h=>by simp at h,fG,by decide,by
 rw[cE];have:=aL (n:=0) (by decide);simp only[encL,List.flatMap_nil,List.length_nil,List.append_nil];omega⟩
theorem wI:SmN 0 con0:=⟨fun x h=>by simp [con0] at h,fG,Nat.zero_le _,kI,Int.le_refl 0,by show (0:Int)≤_; omega⟩
theorem SmN.join {t:Nat}{n:Con}(h:SmN t n){l:List Cmd}(hl : ∀x,x∈l→CmdB x)(hn:l.length≤8):SmN (t+1) (joinN n l):=by
 have hm:=fun x=>nX (n:=n) (l:=l) (fun x hx=>(h.s x hx).s) (fun x hx=>(hl x hx).s) (x:=x);have hlen:(joinN n l).st.length≤(n.st ++ l).length:=gT;rw[List.length_append] at hlen;have:=h.sl;exact⟨fun x hx=>((hm x).1 hx).elim (h.s x) (hl x),cU fun x hx=>(List.mem_append.1 hx).elim (fun hx=>(h.s x hx).s) fun hx=>(hl x hx).s,by omega,h.b,h.l0,h.l1⟩
theorem SmN.reb {t:Nat}{n:Con}(h:SmN t n){b:Bas}(hb:BasB b):SmN (t+1) (rebN n b):=by
 have hj:=h.join hb.t hb.tl;refine⟨hj.s,hj.o,hj.sl,?_,h.l0,h.l1⟩;show BasB (if (confB n.bas).length<(confB b).length then b else n.bas)
 split
 ·exact hb
 ·exact h.b
theorem SmN.liv {t:Nat}{n:Con}(h:SmN t n)(hl : ¬4611686018427387904≤n.life):SmN t {n with life:=n.life+1}:=⟨h.s,h.o,h.sl,h.b,by have:=h.l0; show 0≤n.life+1; omega,by show n.life+1≤_; omega⟩
inductive POp where
 | ext (l:List Cmd)
 | reb (b:Bas)
 | liv
 | cmp
def POpB:POp→Prop
 | .ext l=>(∀x,x∈l→CmdB x)∧l.length≤6
 | .reb b=>BasB b
 | .liv=>True
 | .cmp=>True
noncomputable def lop (s:LS):POp→LS×Int
 | .ext l=>lextend s l
 | .reb b=>lrebase s b
 | .liv=>llive s
 | .cmp=>lcompact s
noncomputable def rop (area room:Nat)(m:Con×List (List Int)):POp→(Con×List (List Int))×Int
 | .ext l=>rextend area room m l
 | .reb b=>rrebase area room m b
 | .liv=>rlive area room m
 | .cmp=>rcompact room m
theorem oD {t area room:Nat}{m:Con×List (List Int)}{n':Con}{rec:List Int}(h:SmN t m.1)(h':SmN t n'):SmN t (rchange area room m n' rec).1.1:=by
 unfold rchange;split
 ·exact h'
 ·split
  ·exact h
  ·exact h'
theorem fH {l m:List Cmd}(h : ∀x,x∈l→CmdB x) : ∀x,x∈minC l m→CmdB x:=fun x hx=>h x (kA (fun y hy=>(h y hy).s) hx)
theorem wJ {t area room:Nat}{m:Con×List (List Int)}(h:SmN t m.1){o:POp}(ho:POpB o):SmN (t+1) (rop area room m o).1.1:=by
 have h1:=h.mono (t':=t+1) (by omega);cases o with
 | ext l=>
  show SmN (t+1) (rextend area room m l).1.1;unfold rextend;split
  ·exact h1
  ·exact oD h1 (h.join (fH ho.1) (by have:=cV (l:=l) (m:=m.1.st); have:=ho.2; omega))
 | reb b=>
  show SmN (t+1) (rrebase area room m b).1.1;unfold rrebase;split
  ·exact h1
  ·exact oD h1 (h.reb ho)
 | liv=>
  show SmN (t+1) (rlive area room m).1.1;unfold rlive;split
  ·exact h1
  ·rename_i hl;exact oD h1 (h1.liv hl)
 | cmp=>
  show SmN (t+1) (rcompact room m).1.1;unfold rcompact;split <;> exact h1
theorem wK {N sz first count G t:Nat}(g:Geo N sz first count){s:LS}{rs:List Rec}{n0:Con}(h:Up N sz first count G s rs n0)(hG:G<4611686018427387904)(hs:SmN t s.n)(ht:t≤28){o:POp}(ho:POpB o) :
 OpR N sz first count (G+1) s (rop (areaG sz count) (roomG sz count) (s.n,rs.map encRc) o) (lop s o):=by
 cases o with
 | ext l=>exact aBp g h (fun x hx=>(ho.1 x hx).s) (by have:=ho.2; omega) ((hs.join (fH ho.1) (by have:=cV (l:=l) (m:=s.n.st); have:=ho.2; omega)).cons (by omega)) hG
 | reb b=>exact aBq g h (BasB.s ho) ((hs.reb ho).cons (by omega)) hG
 | liv=>
  by_cases hl:4611686018427387904≤s.n.life
  ·show OpR N sz first count (G+1) s (rlive _ _ _) (llive s)
   unfold rlive llive;rw[if_neg (show ¬s.dn=true by rw[h.dn]; decide)];dsimp only;rw[if_pos hl,if_pos hl];exact .inl ⟨rfl,rfl,⟨rs,n0,h.mono (by omega),rfl⟩,by dsimp only; decide,id⟩
  ·exact aBs g h ((hs.liv hl).cons (by omega)) hG
 | cmp=>exact aBo g h hG
theorem aCB {s:LS}(h:s.dn=true){o:POp}:lop s o=(s,8):=by
 cases o with
 | ext l=>show lextend s l=_; unfold lextend; rw[if_pos h]
 | reb b=>show lrebase s b=_; unfold lrebase; rw[if_pos h]
 | liv=>show llive s=_; unfold llive; rw[if_pos h]
 | cmp=>show lcompact s=_; unfold lcompact; rw[if_pos h]
open Go
set_option maxRecDepth 100000
theorem fI:zer Tryz.prog 37=some (.agg #[.slice none 0 0,.slice none 0 0,.slice none 0 0,.int .i64 0]):=by kernel_rfl
theorem aCC:zer Tryz.prog 40=some (.agg #[.slice none 0 0,.slice none 0 0,.slice none 0 0,.int .i64 0,.slice none 0 0,.int .i64 0,.int .i64 0]):=by kernel_rfl
theorem fJ {w:World}{mb:Nat}{cs rest:List Value}(h:Blk w mb (cs ++ rest) 40)(h1:cs.length=4):ldS Tryz.prog 37 (.pointer (some ⟨mb,0,none⟩)) w=some (.agg cs.toArray,w):=by
 refine bN (cs:=cs) (by kernel_rfl) (by rw[h1]; kernel_rfl) fun r hr=>?_;rw[Nat.zero_add,h.cell,List.getElem?_append_left hr]
set_option maxHeartbeats 8000000 in
theorem aCD {w:World}{F:Nat→Prop}{mb area room:Nat}{m:Con×List (List Int)}(h:RW w F mb area room m)(hF : ∀b,F b→b<w.heap.size)(har:area≤1073741824)(hro:room≤1000000)(hn:ConS m.1){y:Value}{l:List Cmd}(hy:SlD eC w (fun b=>F b∨b=mb) y l)(hx : ∀x,x∈l→CmdS x)(hxl:l.length≤400000)
 (hl1:(stream m.2).length≤900000) (hk:(encCn (joinN m.1 (minC l m.1.st))).length≤1000000) (hrl:(encL (minC l m.1.st)).length≤800000) :
 Ok (den Tryz.prog 44 #[.pointer (some ⟨mb,0,none⟩),y] w) fun u w'=>u = .int .i64 (rextend area room m l).2∧RW w' F mb area room (rextend area room m l).1∧Upd (fun b=>b=mb) w w':=by
 have hRW:=h;obtain⟨cs0,rv,hb0,hn0,hr0⟩:=h;obtain⟨xa0,xc0,sa0,sc0,ta0,tc0,rfl,k1,k2,k3⟩:=aO hn0;obtain⟨ya,yc,rfl,_⟩:=hy.form;obtain⟨rva,rvc,rfl,_⟩:=id hr0;simp only[List.cons_append,List.nil_append] at hb0;have hmb:=hb0.lt;have nb : ¬NoB mb:=fun h=>h;have ofl:(ofC l).length≤l.length:=gT;have hofs : ∀x,x∈ofC l→CmdS x:=fun x hm=>hx x ((cF hx).1 hm);have hmin:minC (ofC l) m.1.st=minC l m.1.st:=by unfold minC; rw[mT hofs (cU hx)]
 have hms : ∀x,x∈minC l m.1.st→CmdS x:=fun x hm=>hx x (kA hx hm);have hml:=cV (l:=l) (m:=m.1.st);have hsl:=hn.sl;have cc : ∀{w':World} {G:Nat→Prop},Upd G w w'→¬G mb→∀j,w'.cell? ⟨mb,j,none⟩ = [Value.slice xa0 m.1.st.length xc0,.slice sa0 m.1.bas.steps.length sc0,.slice ta0 m.1.bas.taken.length tc0,.int .i64 m.1.life,.slice rva m.2.length rvc,.int .i64 (area:Int),.int .i64 (room:Int)][j]? :=fun u h j=>(hb0.upd u h).cell j;refine aB (args:=[.pointer (some ⟨mb,0,none⟩),.slice ya l.length yc]) rs44 Tryz.func44 rfl mixed (by kernel_rfl) PV rfl ?_;have d0:Upd NoB w w.drew:=Upd.drew;simp(maxSteps:=3000000)(disch:=omega)only[push_cast,seval,↓aE,↓aF,cc (Upd.refl (F:=NoB)) nb,cc d0 nb];refine Ok.use (mY (hy.go aA (F':=fun b=>F b∨b=mb) d0 fun b _ hh=>hh.elim (fun hh=>hh.elim) id) hx (by omega)) ?_;rintro u w1 ⟨q1,u1',f1⟩;have u1:=d0.trans u1' fun _ _ h=>h;obtain⟨oa,oc,rfl⟩:=q1.form;simp(maxSteps:=3000000)(disch:=omega)only[push_cast,seval,↓aE,↓aF,cc (Upd.refl (F:=NoB)) nb,cc d0 nb,cc u1 nb,cc u1.drew' nb];refine Ok.use (Z6 (q1.slD aA) (k1.q aA u1) hofs hn.s (by omega) (by omega)) ?_;rintro u w2 ⟨q2,u2',f2⟩;have u2:=u1.trans u2' fun _ _ h=>h;rw[hmin] at q2;obtain⟨M,hM⟩ : ∃M,M=minC l m.1.st:=⟨_,rfl⟩;rw[←hM] at q2 hms hml hk hrl;have hMo:SrtC M:=by rw[hM]; exact kB hx
 obtain⟨ma,mc,rfl⟩:=q2.form;have m2:SlD eC w2 (fun b=>F b∨b=mb) (.slice ma M.length mc) M:=(q2.slD aA).go aA (Upd.refl (F:=NoB)) fun b _ hh=>hh.elim (fun hh=>hh.elim) fun hh=>by
  have hb:b<w.heap.size:=hh.elim (hF b) fun e=>by omega
  exact⟨⟨hh,hb⟩,Nat.lt_of_lt_of_le hb u1.size⟩
 unfold rextend;rw[←hM];by_cases h0:M = []
 ·have h0':((M.length:Int)=0)=True:=eq_true (by rw[h0]; rfl);rw[if_pos h0];simp(maxSteps:=3000000)(disch:=omega)only[push_cast,seval,↓aE,↓aF,cc (Upd.refl (F:=NoB)) nb,cc d0 nb,cc u1 nb,cc u1.drew' nb,cc u2 nb,cc u2.drew' nb,h0'];exact⟨hRW.go u2 nb fun b _ hh=>hh.elim (fun hh=>hh.elim) id,u2.mono fun _ _ h=>h.elim⟩
 have h0':((M.length:Int)=0)=False:=eq_false fun e=>h0 (List.eq_nil_of_length_eq_zero (by omega));rw[if_neg h0];generalize hKs:KS _ _ _ _ _=Ks;simp(maxSteps:=3000000)(disch:=omega)only[push_cast,seval,↓aE,↓aF,cc (Upd.refl (F:=NoB)) nb,cc d0 nb,cc u1 nb,cc u1.drew' nb,cc u2 nb,cc u2.drew' nb,h0'];subst hKs;rw[aC];have h0'' : ¬((M.length:Int)=0):=fun e=>h0 (List.eq_nil_of_length_eq_zero (by omega));have hb2:Blk w2 mb ([Value.slice xa0 m.1.st.length xc0,.slice sa0 m.1.bas.steps.length sc0,.slice ta0 m.1.bas.taken.length tc0,.int .i64 m.1.life] ++ [.slice rva m.2.length rvc,.int .i64 (area:Int),.int .i64 (room:Int)]) 40:=hb0.upd u2 nb;rw[aD];generalize hKs:KS _ _ _ _ _=Ks;simp(disch:=omega)only[push_cast,seval,h0''];subst hKs;rw[aC];have c3:=(Blk.new (w:=w2) (cs:=[.slice none 0 0,.slice none 0 0,.slice none 0 0,.int .i64 0]) (E:=37));have c4:=c3.setRow (cs':=[.slice xa0 m.1.st.length xc0,.slice sa0 m.1.bas.steps.length sc0,.slice ta0 m.1.bas.taken.length tc0,.int .i64 m.1.life]);have hones : ∀u∈[Value.slice xa0 m.1.st.length xc0,.slice sa0 m.1.bas.steps.length sc0,.slice ta0 m.1.bas.taken.length tc0,.int .i64 m.1.life],u.oneCell'=true:=fun u hu=>by simp at hu; rcases hu with rfl | rfl | rfl | rfl <;> rfl
 rw[aD];generalize hKs:KS _ _ _ _ _=Ks;simp(disch:=omega)only[push_cast,seval,fJ hb2 rfl,fI,aP (P:=Tryz.prog) (t:=37) (cs':=[.slice xa0 m.1.st.length xc0,.slice sa0 m.1.bas.steps.length sc0,.slice ta0 m.1.bas.taken.length tc0,.int .i64 m.1.life]) c3 (by kernel_rfl) rfl hones];have u4':Upd NoB w2 ((w2.alloc (.cells #[.slice none 0 0,.slice none 0 0,.slice none 0 0,.int .i64 0] 37 (0,0))).setRow w2.heap.size #[.slice xa0 m.1.st.length xc0,.slice sa0 m.1.bas.steps.length sc0,.slice ta0 m.1.bas.taken.length tc0,.int .i64 m.1.life]):=Upd.alloc.trans (Upd.setRow (F:=fun b=>b=w2.heap.size) rfl) fun b hb e=>by omega
 generalize (w2.alloc (.cells #[.slice none 0 0,.slice none 0 0,.slice none 0 0,.int .i64 0] 37 (0,0))).setRow w2.heap.size #[.slice xa0 m.1.st.length xc0,.slice sa0 m.1.bas.steps.length sc0,.slice ta0 m.1.bas.taken.length tc0,.int .i64 m.1.life]=w4 at *;have u4:=u2.trans u4' fun _ _ h=>h;have s2:=u2.size;subst hKs;rw[aC];rw[aD];generalize hKs:KS _ _ _ _ _=Ks;simp(disch:=omega)only[push_cast,seval,c4.cell];have gF : ∀b,b<w.heap.size→NoB b∨(F b∨b=mb∨b=w2.heap.size)→F b∨b=mb:=fun b hb h=>h.elim (fun h=>h.elim) fun h=>h.elim .inl fun h=>h.elim .inr fun h=>by omega
 have gF2 : ∀b,b<w2.heap.size→NoB b∨(F b∨b=mb∨b=w2.heap.size)→F b∨b=mb:=fun b hb h=>h.elim (fun h=>h.elim) fun h=>h.elim .inl fun h=>h.elim .inr fun h=>by omega
 have n4:SlD eC w4 (fun b=>F b∨b=mb∨b=w2.heap.size) (.slice xa0 m.1.st.length xc0) m.1.st:=k1.go aA u4 gF;have m4:SlD eC w4 (fun b=>F b∨b=mb∨b=w2.heap.size) (.slice ma M.length mc) M:=m2.go aA u4' gF2;have b4:eB.C w4 (fun b=>F b∨b=mb∨b=w2.heap.size) m.1.bas [.slice sa0 m.1.bas.steps.length sc0,.slice ta0 m.1.bas.taken.length tc0]:=aK.go k2 u4 gF;refine Ok.use (uG n4 m4 hn.s hms (by omega)) ?_;rintro u w5 ⟨q5,u5,f5⟩;obtain⟨ja,jc,rfl⟩:=q5.form;have c5:=c4.upd u5 fun h=>h;have s4:w2.heap.size<w4.heap.size:=c4.lt;have j5:SlD eC w5 (fun b=>F b∨b=mb∨b=w2.heap.size) (.slice ja (ofC (m.1.st ++ M)).length jc) (ofC (m.1.st ++ M)):=(q5.slD aA).go aA (Upd.refl (F:=NoB)) fun b _ hh=>hh.elim (fun hh=>hh.elim) fun hh=>⟨hh,by
  show b<w4.heap.size;rcases hh with hh | hh | hh
  ·have:=hF b hh; omega
  ·omega
  ·omega⟩
 simp(maxSteps:=3000000)(disch:=omega)only[push_cast,seval,c5.cell,c5.free];have c6:=c5.set 0 (.slice ja (ofC (m.1.st ++ M)).length jc);simp only[List.set_cons_succ,List.set_cons_zero] at c6;have u6':Upd (fun b=>b=w2.heap.size) w5 (w5.setCell ⟨w2.heap.size,0,none⟩ (.slice ja (ofC (m.1.st ++ M)).length jc)):=Upd.set rfl;have j6:SlD eC _ (fun b=>F b∨b=mb∨b=w2.heap.size) (.slice ja (ofC (m.1.st ++ M)).length jc) (ofC (m.1.st ++ M)):=j5.go aA u6' fun b _ h=>h.elim (fun h=>.inr (.inr h)) id;have m6:SlD eC _ (fun b=>F b∨b=mb∨b=w2.heap.size) (.slice ma M.length mc) M:=(m4.go (F':=fun b=>F b∨b=mb∨b=w2.heap.size) aA u5 fun b _ h=>h.elim (fun h=>h.elim) id).go aA u6' fun b _ h=>h.elim (fun h=>.inr (.inr h)) id;have b6:=aK.go (F':=fun b=>F b∨b=mb∨b=w2.heap.size) (aK.go (F':=fun b=>F b∨b=mb∨b=w2.heap.size) b4 u5 fun b _ h=>h.elim (fun h=>h.elim) id) u6' fun b _ h=>h.elim (fun h=>.inr (.inr h)) id;have u6:Upd NoB w (w5.setCell ⟨w2.heap.size,0,none⟩ (.slice ja (ofC (m.1.st ++ M)).length jc)):=(u4.trans u5 fun _ _ h=>h).trans u6' fun b hb e=>by omega
 generalize w5.setCell ⟨w2.heap.size,0,none⟩ (.slice ja (ofC (m.1.st ++ M)).length jc)=w6 at *;subst hKs;rw[aC];have d6:Upd NoB w6 w6.drew:=Upd.drew;have lc : ∀{w':World},Upd NoB w6 w'→ldS Tryz.prog 37 (.pointer (some ⟨w2.heap.size,0,none⟩)) w'=some (.agg #[.slice ja (ofC (m.1.st ++ M)).length jc,.slice sa0 m.1.bas.steps.length sc0,.slice ta0 m.1.bas.taken.length tc0,.int .i64 m.1.life],w'):=fun u=>aJ (P:=Tryz.prog) (t:=37) (c6.upd u fun h=>h) (by kernel_rfl) (by kernel_rfl);simp(maxSteps:=3000000)(disch:=omega)only[push_cast,seval,↓aE,↓aF,lc d6];refine Ok.use (aAC (m6.q aA d6) (by omega)) ?_;rintro u w7 ⟨q7,f7,u7'⟩;have u67:=d6.trans u7' fun _ _ h=>h;have u7:=u6.trans u67 fun _ _ h=>h;obtain⟨ea,ec,rfl⟩:=bY q7;simp(maxSteps:=3000000)(disch:=omega)only[push_cast,seval,↓aE,↓aF,lc d6,lc u67];have sb:SlB w7 (fun b=>F b∨b=mb) (.slice ea (encRc (.ext M)).length ec) (encRc (.ext M)):=q7.slb fun g hg hh=>by
  have:=f7 g hg;have:w.heap.size≤w6.drew.heap.size:=(u6.trans d6 fun _ _ h=>h).size;rcases hh with hh | hh
  ·have:=hF g hh; omega
  ·omega
 have hR7:RW w7 F mb area room m:=hRW.go u7 nb fun b _ hh=>hh.elim (fun hh=>hh.elim) id;have j7:SlD eC w7 (fun b=>F b∨b=mb) (.slice ja (ofC (m.1.st ++ M)).length jc) (ofC (m.1.st ++ M)):=j6.go aA u67 fun b _ hh=>hh.elim (fun hh=>hh.elim) fun hh=>hh.elim .inl fun hh=>.inr (.inl hh);have b7:eB.C w7 (fun b=>F b∨b=mb) m.1.bas [.slice sa0 m.1.bas.steps.length sc0,.slice ta0 m.1.bas.taken.length tc0]:=aK.go b6 u67 fun b _ hh=>hh.elim (fun hh=>hh.elim) fun hh=>hh.elim .inl fun hh=>.inr (.inl hh);have n7:eN.C w7 (fun b=>F b∨b=mb) (joinN m.1 M) [.slice ja (ofC (m.1.st ++ M)).length jc,.slice sa0 m.1.bas.steps.length sc0,.slice ta0 m.1.bas.taken.length tc0,.int .i64 m.1.life]:=⟨_,_,_,rfl,j7,b7,k3.join hn.s hms⟩;refine Ok.use (n9 hR7 (fun b hb=>Nat.lt_of_lt_of_le (hF b hb) u7.size) har hro sb n7 hl1 (by
  have:=aL (n:=1) (by decide);simp only[encRc,List.length_append];omega) hk) ?_
 rintro u w8 ⟨rfl,h8,u8⟩;simp(maxSteps:=3000000)(disch:=omega)only[push_cast,seval];exact⟨h8,(u7.mono fun _ _ h=>h.elim).trans u8 fun _ _ h=>h⟩
open Go
set_option maxRecDepth 100000
set_option maxHeartbeats 8000000 in
theorem aCE {w:World}{F:Nat→Prop}{n:Con}{cs bs:List Value}{b:Bas}(hc:eN.C w F n cs)(hb:eB.C w F b bs)(h1 : ∀x,x∈n.st→CmdS x)(h2 : ∀x,x∈b.taken→CmdS x)(hl:n.st.length+b.taken.length≤1000000)(hs1:n.bas.steps.length≤1000000)(hs2:b.steps.length≤1000000)
 (hm1:(confB n.bas).length≤1000000000) (hm2:(confB b).length≤1000000000) :
 Ok (den Tryz.prog 89 #[.agg cs.toArray,.agg bs.toArray] w) fun u w'=>∃cs',u = .agg cs'.toArray∧eN.C w' (fun b=>F b∧Old w b) (rebN n b) cs'∧Upd NoB w w':=by
 obtain⟨xa,xc,sa,sc,ta,tc,rfl,k1,k2,k3⟩:=aO hc;obtain⟨pa,pc,qa,qc,rfl,m1,m2,m3⟩:=a8 hb;refine bZ (args:=[.agg #[.slice xa n.st.length xc,.slice sa n.bas.steps.length sc,.slice ta n.bas.taken.length tc,.int .i64 n.life],.agg #[.slice pa b.steps.length pc,.slice qa b.taken.length qc]]) 4 37 Tryz.func89 rfl mixed (by kernel_rfl) Q3 rfl ?_;rw[aD];generalize hKs:KS _ _ _ _ _=Ks;simp(disch:=omega)only[push_cast,seval,fI];have c2:=((Blk.new (w:=w) (cs:=[.slice xa n.st.length xc,.slice sa n.bas.steps.length sc,.slice ta n.bas.taken.length tc,.int .i64 n.life]) (E:=37)).alloc (.cells #[.slice pa b.steps.length pc,.slice qa b.taken.length qc] 35 (0,0))).alloc (.cells #[Value.slice none 0 0,Value.slice none 0 0,Value.slice none 0 0,Value.int .i64 0] 37 (0,0));have d2:=(Blk.new (w:=w.alloc (.cells #[.slice xa n.st.length xc,.slice sa n.bas.steps.length sc,.slice ta n.bas.taken.length tc,.int .i64 n.life] 37 (0,0))) (cs:=[.slice pa b.steps.length pc,.slice qa b.taken.length qc]) (E:=35)).alloc (.cells #[Value.slice none 0 0,Value.slice none 0 0,Value.slice none 0 0,Value.int .i64 0] 37 (0,0));have z2:=Blk.new (w:=(w.alloc (.cells #[.slice xa n.st.length xc,.slice sa n.bas.steps.length sc,.slice ta n.bas.taken.length tc,.int .i64 n.life] 37 (0,0))).alloc (.cells #[.slice pa b.steps.length pc,.slice qa b.taken.length qc] 35 (0,0))) (cs:=[.slice none 0 0,.slice none 0 0,.slice none 0 0,.int .i64 0]) (E:=37);have u2:Upd NoB w (((w.alloc (.cells #[.slice xa n.st.length xc,.slice sa n.bas.steps.length sc,.slice ta n.bas.taken.length tc,.int .i64 n.life] 37 (0,0))).alloc (.cells #[.slice pa b.steps.length pc,.slice qa b.taken.length qc] 35 (0,0))).alloc (.cells #[Value.slice none 0 0,Value.slice none 0 0,Value.slice none 0 0,Value.int .i64 0] 37 (0,0))):=(Upd.alloc.alloc').alloc';rw[aI] at d2;rw[aI,aI] at z2;have gF : ∀b,b<w.heap.size→NoB b∨F3 F w b→F b:=fun b hb h=>h.elim (fun h=>h.elim) fun h=>by
  rcases h with h | h | h | h
  ·exact h.1
  all_goals omega
 have g2:=aH.go (F':=F3 F w) hc u2 gF;have gb2:=aK.go (F':=F3 F w) hb u2 gF;generalize ((w.alloc (.cells #[.slice xa n.st.length xc,.slice sa n.bas.steps.length sc,.slice ta n.bas.taken.length tc,.int .i64 n.life] 37 (0,0))).alloc (.cells #[.slice pa b.steps.length pc,.slice qa b.taken.length qc] 35 (0,0))).alloc (.cells #[Value.slice none 0 0,Value.slice none 0 0,Value.slice none 0 0,Value.int .i64 0] 37 (0,0))=w2 at *;rw[show w.heap.size+1+1=w.heap.size+2 from rfl] at *;have s2:w.heap.size+2<w2.heap.size:=z2.lt;subst hKs;rw[aC];obtain⟨_,_,_,_,eb,gm1,gm2,_⟩:=a8 gb2;injection eb with q1 eb;injection eb with q2 _;rw[←q2] at gm2;obtain⟨_,_,_,_,_,_,e4,gn1,g4',_⟩:=aO g2;injection e4 with p1 e4;injection e4 with p2 e4;injection e4 with p3 _;rw[←p1] at gn1;rw[←p2,←p3] at g4';rw[aD];generalize hKs:KS _ _ _ _ _=Ks;simp(maxSteps:=3000000)(disch:=omega)only[push_cast,seval,c2.cell,d2.cell];refine Ok.use (uG gn1 gm2 h1 h2 hl) ?_;rintro u w3 ⟨r3,u3,_⟩;obtain⟨ra,rc,rfl⟩:=r3.form;have c3:=c2.upd u3 fun h=>h;have d3:=d2.upd u3 fun h=>h;have z3:=z2.upd u3 fun h=>h;have r3':SlD eC w3 (F3 F w) (.slice ra (ofC (n.st ++ b.taken)).length rc) (ofC (n.st ++ b.taken)):=(r3.slD aA).go aA (Upd.refl (F:=NoB)) fun b _ h=>h.elim (fun h=>h.elim) fun h=>⟨h,by
  show b<w2.heap.size;rcases h with h | h | h | h
  ·exact Nat.lt_of_lt_of_le h.2 u2.size
  all_goals omega⟩
 have k4:eB.C w3 (F3 F w) n.bas [.slice sa n.bas.steps.length sc,.slice ta n.bas.taken.length tc]:=aK.go g4' u3 fun _ _ h=>h.elim (fun h=>h.elim) id;have gb3:=aK.go (F':=F3 F w) gb2 u3 fun b _ h=>h.elim (fun h=>h.elim) id;simp(maxSteps:=3000000)(disch:=omega)only[push_cast,seval,c3.cell,c3.free];have c4:=c3.set 0 (.slice ra (ofC (n.st ++ b.taken)).length rc);have u4:Upd (fun b=>b=w.heap.size) w3 (w3.setCell ⟨w.heap.size,0,none⟩ (.slice ra (ofC (n.st ++ b.taken)).length rc)):=Upd.set rfl;simp only[List.set_cons_succ,List.set_cons_zero] at c4;have d4:=d3.upd u4 (by omega);have z4:=z3.upd u4 (by omega);have v4:Upd NoB w (w3.setCell ⟨w.heap.size,0,none⟩ (.slice ra (ofC (n.st ++ b.taken)).length rc)):=(u2.trans u3 fun _ _ h=>h).trans u4 fun b hb h=>by omega
 have j1:SlD eC _ (F3 F w) (.slice ra (ofC (n.st ++ b.taken)).length rc) (ofC (n.st ++ b.taken)):=r3'.go aA u4 fun b _ h=>h.elim (fun h=>.inr (.inl h)) id;have j2:=aK.go (F':=F3 F w) k4 u4 fun b _ h=>h.elim (fun h=>.inr (.inl h)) id;have gb4:=aK.go (F':=F3 F w) gb3 u4 fun b _ h=>h.elim (fun h=>.inr (.inl h)) id;generalize w3.setCell ⟨w.heap.size,0,none⟩ (.slice ra (ofC (n.st ++ b.taken)).length rc)=w4 at *;subst hKs;rw[aC];have j3:ConW (joinN n b.taken):=k3.join h1 h2;have cc : ∀{w':World},Upd NoB w4 w'→∀j,w'.cell? ⟨w.heap.size,j,none⟩ = [Value.slice ra (ofC (n.st ++ b.taken)).length rc,Value.slice sa n.bas.steps.length sc,Value.slice ta n.bas.taken.length tc,Value.int .i64 n.life][j]? :=fun u j=>(c4.upd u fun h=>h).cell j;have dd : ∀{w':World},Upd NoB w4 w'→∀j,w'.cell? ⟨w.heap.size+1,j,none⟩ = [Value.slice pa b.steps.length pc,Value.slice qa b.taken.length qc][j]? :=fun u j=>(d4.upd u fun h=>h).cell j;have hdr:Upd NoB w4 w4.drew:=Upd.drew;simp(maxSteps:=3000000)(disch:=omega)only[push_cast,seval,↓aE,↓aF,cc hdr,dd hdr];refine Ok.use (jP (aK.go (F':=F3 F w) gb4 hdr fun b _ h=>h.elim (fun h=>h.elim) id) hs2) ?_;rintro u w5 ⟨r5,u5'⟩;obtain⟨ra5,rc5,rfl,_⟩:=r5.form;have u5:Upd NoB w4 w5:=hdr.trans u5' fun _ _ h=>h;simp(maxSteps:=3000000)(disch:=omega)only[push_cast,seval,↓aE,↓aF,cc hdr,dd hdr,cc u5,dd u5];refine Ok.use (jP (aK.go (F':=F3 F w) j2 u5 fun b _ h=>h.elim (fun h=>h.elim) id) hs1) ?_;rintro u w6 ⟨r6,u6'⟩;obtain⟨ra',rc',rfl,_⟩:=r6.form;have u6:Upd NoB w4 w6:=u5.trans u6' fun _ _ h=>h;have c6:=c4.upd u6 fun h=>h;have d6:=d4.upd u6 fun h=>h;have z6:=z4.upd u6 fun h=>h;have v6:=v4.trans u6 fun _ _ h=>h;have j1':SlD eC w6 (F3 F w) (.slice ra (ofC (n.st ++ b.taken)).length rc) (ofC (n.st ++ b.taken)):=j1.go aA u6 fun b _ h=>h.elim (fun h=>h.elim) id;have j2':eB.C w6 (F3 F w) n.bas [.slice sa n.bas.steps.length sc,.slice ta n.bas.taken.length tc]:=aK.go j2 u6 fun b _ h=>h.elim (fun h=>h.elim) id;have gb6:eB.C w6 (F3 F w) b [.slice pa b.steps.length pc,.slice qa b.taken.length qc]:=aK.go gb4 u6 fun b _ h=>h.elim (fun h=>h.elim) id;by_cases hlt:(confB n.bas).length<(confB b).length
 ·have hlt':((confB n.bas).length:Int)<((confB b).length:Int):=by omega
  have c7:=(c6.set 1 (.slice pa b.steps.length pc)).set 2 (.slice qa b.taken.length qc);simp only[List.set_cons_succ,List.set_cons_zero] at c7;have u7:Upd (fun b=>b=w.heap.size) w6 ((w6.setCell ⟨w.heap.size,1,none⟩ (.slice pa b.steps.length pc)).setCell ⟨w.heap.size,2,none⟩ (.slice qa b.taken.length qc)):=(Upd.set (F:=fun b=>b=w.heap.size) rfl).setIn rfl;have z7:=z6.upd u7 (by omega);have z8:=z7.setRow (cs':=[.slice ra (ofC (n.st ++ b.taken)).length rc,.slice pa b.steps.length pc,.slice qa b.taken.length qc,.int .i64 n.life]);simp(maxSteps:=3000000)(disch:=omega)only[push_cast,seval,↓aE,↓aF,cc hdr,dd hdr,cc u5,dd u5,cc u6,dd u6,hlt',d6.cell,c6.cell,c6.free,aJ (P:=Tryz.prog) (t:=37) c7 (by kernel_rfl) (by kernel_rfl),aP (P:=Tryz.prog) (t:=37) (cs':=[.slice ra (ofC (n.st ++ b.taken)).length rc,.slice pa b.steps.length pc,.slice qa b.taken.length qc,.int .i64 n.life]) z7 (by kernel_rfl) rfl (fun u hu=>by simp at hu; rcases hu with rfl | rfl | rfl | rfl <;> rfl),aJ (P:=Tryz.prog) (t:=37) z8 (by kernel_rfl) (by kernel_rfl)];generalize (w6.setCell ⟨w.heap.size,1,none⟩ (.slice pa b.steps.length pc)).setCell ⟨w.heap.size,2,none⟩ (.slice qa b.taken.length qc)=w7 at *;have u8:Upd (fun b=>b=w.heap.size+2) w7 (w7.setRow (w.heap.size+2) #[.slice ra (ofC (n.st ++ b.taken)).length rc,.slice pa b.steps.length pc,.slice qa b.taken.length qc,.int .i64 n.life]):=Upd.setRow rfl;have er:rebN n b = {joinN n b.taken with bas:=b}:=by
   unfold rebN;rw[if_pos hlt]
  rw[er];have j1'':SlD eC w7 (F3 F w) (.slice ra (ofC (n.st ++ b.taken)).length rc) (ofC (n.st ++ b.taken)):=j1'.go aA u7 fun b _ h=>h.elim (fun h=>.inr (.inl h)) id;have gb7:eB.C w7 (F3 F w) b [.slice pa b.steps.length pc,.slice qa b.taken.length qc]:=aK.go gb6 u7 fun b _ h=>h.elim (fun h=>.inr (.inl h)) id;exact⟨_,rfl,⟨_,_,_,rfl,j1''.go aA u8 fun b _ h=>h.elim (fun h=>.inr (.inr (.inr h))) .inl,aK.go gb7 u8 fun b _ h=>h.elim (fun h=>.inr (.inr (.inr h))) .inl,⟨j3.1,m3,j3.2.2⟩⟩,(v6.trans u7 fun b hb h=>by omega).trans u8 fun b hb h=>by omega⟩
 ·have hlt' : ¬((confB n.bas).length:Int)<((confB b).length:Int):=by omega
  have z8:=z6.setRow (cs':=[.slice ra (ofC (n.st ++ b.taken)).length rc,.slice sa n.bas.steps.length sc,.slice ta n.bas.taken.length tc,.int .i64 n.life]);simp(maxSteps:=3000000)(disch:=omega)only[push_cast,seval,↓aE,↓aF,cc hdr,dd hdr,cc u5,dd u5,cc u6,dd u6,hlt',aJ (P:=Tryz.prog) (t:=37) c6 (by kernel_rfl) (by kernel_rfl),aP (P:=Tryz.prog) (t:=37) (cs':=[.slice ra (ofC (n.st ++ b.taken)).length rc,.slice sa n.bas.steps.length sc,.slice ta n.bas.taken.length tc,.int .i64 n.life]) z6 (by kernel_rfl) rfl (fun u hu=>by simp at hu; rcases hu with rfl | rfl | rfl | rfl <;> rfl),aJ (P:=Tryz.prog) (t:=37) z8 (by kernel_rfl) (by kernel_rfl)];have u8:Upd (fun b=>b=w.heap.size+2) w6 (w6.setRow (w.heap.size+2) #[.slice ra (ofC (n.st ++ b.taken)).length rc,.slice sa n.bas.steps.length sc,.slice ta n.bas.taken.length tc,.int .i64 n.life]):=Upd.setRow rfl;have er:rebN n b=joinN n b.taken:=by
   unfold rebN;rw[if_neg hlt];rfl
  rw[er];exact⟨_,rfl,⟨_,_,_,rfl,j1'.go aA u8 fun b _ h=>h.elim (fun h=>.inr (.inr (.inr h))) .inl,aK.go j2' u8 fun b _ h=>h.elim (fun h=>.inr (.inr (.inr h))) .inl,j3⟩,v6.trans u8 fun b hb h=>by omega⟩
end Go.Proofs.YtpgigkceoolgeaaGreatDoor.Fd
