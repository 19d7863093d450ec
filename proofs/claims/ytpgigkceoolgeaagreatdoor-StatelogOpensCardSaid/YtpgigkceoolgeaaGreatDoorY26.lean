import Derived.Test.YtpgigkceoolgeaaGreatDoorY25
set_option linter.all false
namespace Go.Proofs.YtpgigkceoolgeaaGreatDoor.Fd
open Go
set_option maxRecDepth 100000
set_option maxHeartbeats 8000000 in
theorem rSameCert_ok {w:World} {G H:Nat→Prop} {x y:Crt} {cs ds:List Value} (hc:eT.C w G x cs) (hd:eT.C w H y ds) (hl:(encT x).length≤80000000) (hl2:(encT y).length≤80000000) :
   Ok (den Tryz.prog 136 #[.agg cs.toArray,.agg ds.toArray] w) fun u w'=>(∃b,u = .bool b∧(x=y→b=true))∧Upd NoB w w':=by
 refine den_ok (args:=[.agg cs.toArray,.agg ds.toArray]) rs136 Tryz.func136 rfl mixed in136 ok136 rfl ?_
 have kc:=eT_ok.len hc
 have kd:=eT_ok.len hd
 have es:eT.s=9:=rfl
 have ek:eK.s=8:=rfl
 rw [es] at kc kd
 have hlx:=encT_len (s:=x)
 have hly:=encT_len (s:=y)
 obtain ⟨ks,av,rfl,hks,hav,hxw⟩:=hc
 obtain ⟨ls,bv,rfl,hls,hbv,hyw⟩:=hd
 obtain ⟨aa,ac,rfl,_⟩:=hav.form
 obtain ⟨ba,bc,rfl,_⟩:=hbv.form
 have kk:=eK_ok.len hks
 have kl:=eK_ok.len hls
 rw [ek] at kk kl
 have hga:x.acks.length≤(x.acks.flatMap encA).length:=flat_ge fun a=>by have:=encU_pos a.tag.length; simp [encA,encB]; omega
 have hgb:y.acks.length≤(y.acks.flatMap encA).length:=flat_ge fun a=>by have:=encU_pos a.tag.length; simp [encA,encB]; omega
 rw [W_seq]
 generalize hKs:KS _ _ _ _ _=Ks
 simp (disch:=omega) only [push_cast,seval]
 have b0:=(Blk.new (w:=w) (cs:=ks ++ [Value.slice aa x.acks.length ac]) (E:=88)).alloc (.cells (ls ++ [Value.slice ba y.acks.length bc]).toArray 88 (0,0))
 have b1:=Blk.new (w:=w.alloc (.cells (ks ++ [Value.slice aa x.acks.length ac]).toArray 88 (0,0))) (cs:=ls ++ [Value.slice ba y.acks.length bc]) (E:=88)
 have u0:Upd NoB w ((w.alloc (.cells (ks ++ [Value.slice aa x.acks.length ac]).toArray 88 (0,0))).alloc (.cells (ls ++ [Value.slice ba y.acks.length bc]).toArray 88 (0,0))):=Upd.alloc.alloc'
 rw [size_alloc] at b1
 generalize (w.alloc (.cells (ks ++ [Value.slice aa x.acks.length ac]).toArray 88 (0,0))).alloc (.cells (ls ++ [Value.slice ba y.acks.length bc]).toArray 88 (0,0))=w2 at *
 have lA : ∀{w':World},Upd NoB w2 w'→ldS Tryz.prog 85 (.pointer (some ⟨w.heap.size,0,none⟩)) w'=some (.agg ks.toArray,w'):=fun u=>ld_elt (P:=Tryz.prog) (o:=0) (by kernel_rfl) (by rw [kk]; kernel_rfl) fun r hr=>by rw [(b0.upd u fun h=>h).cell,List.getElem?_append_left (by omega),Nat.zero_add]
 have lB : ∀{w':World},Upd NoB w2 w'→ldS Tryz.prog 85 (.pointer (some ⟨w.heap.size+1,0,none⟩)) w'=some (.agg ls.toArray,w'):=fun u=>ld_elt (P:=Tryz.prog) (o:=0) (by kernel_rfl) (by rw [kl]; kernel_rfl) fun r hr=>by rw [(b1.upd u fun h=>h).cell,List.getElem?_append_left (by omega),Nat.zero_add]
 have qA : ∀{w':World},Upd NoB w2 w'→w'.cell? ⟨w.heap.size,8,none⟩=some (.slice aa x.acks.length ac):=fun u=>by rw [(b0.upd u fun h=>h).cell,List.getElem?_append_right (by omega),kk]; rfl
 have qB : ∀{w':World},Upd NoB w2 w'→w'.cell? ⟨w.heap.size+1,8,none⟩=some (.slice ba y.acks.length bc):=fun u=>by rw [(b1.upd u fun h=>h).cell,List.getElem?_append_right (by omega),kl]; rfl
 subst hKs
 rw [KS_nor]
 have hdr:Upd NoB w2 w2.drew:=Upd.drew
 have v2:Upd NoB w w2.drew:=u0.drew'
 simp (maxSteps:=3000000) (disch:=omega) only [push_cast,seval,↓nthK_zero,↓nthK_succ,lA hdr,lB hdr,qA hdr,qB hdr]
 refine Ok.use (rkEncode_ok (eK_ok.q hks v2) (by omega)) ?_
 rintro v w3 ⟨h3,_,u3'⟩
 have u3:Upd NoB w2 w3:=hdr.trans u3' fun _ _ h=>h
 have v3:=v2.trans u3' fun _ _ h=>h
 obtain ⟨va,vc,rfl,_⟩:=h3.form
 simp (maxSteps:=3000000) (disch:=omega) only [push_cast,seval,↓nthK_zero,↓nthK_succ,lA hdr,lB hdr,qA hdr,qB hdr,lB u3,lA u3,qA u3,qB u3,cnv_str (h3.q Upd.refl)]
 refine Ok.use (rkEncode_ok (eK_ok.q hls v3) (by omega)) ?_
 rintro v w4 ⟨h4,_,u4⟩
 obtain ⟨xa,xc,rfl,_⟩:=h4.form
 have z4:=u3.trans u4 fun _ _ h=>h
 have v4:=v3.trans u4 fun _ _ h=>h
 have hse:=str_eq (encK_rng hxw.1) (encK_rng hyw.1)
 by_cases he:encK x.c=encK y.c
 rotate_left
 · have hse':((strOfNums (encK x.c)).toList == (strOfNums (encK y.c)).toList)=false:=by rw [hse,decide_eq_false he]
   simp (maxSteps:=3000000) (disch:=omega) only [push_cast,seval,↓nthK_zero,↓nthK_succ,lA hdr,lB hdr,qA hdr,qB hdr,lB u3,lA u3,qA u3,qB u3,lA z4,lB z4,qA z4,qB z4,cnv_str (h3.q Upd.refl),cnv_str (h3.q u4),cnv_str (h4.q Upd.refl),hse']
   exact ⟨⟨false,rfl,fun e=>absurd (by rw [e]) he⟩,v4⟩
 have hse':((strOfNums (encK x.c)).toList == (strOfNums (encK y.c)).toList)=true:=by rw [hse,decide_eq_true he]
 by_cases hlen:x.acks.length=y.acks.length
 rotate_left
 · have h1 : ¬(x.acks.length:Int)=(y.acks.length:Int):=by omega
   simp (maxSteps:=3000000) (disch:=omega) only [push_cast,seval,↓nthK_zero,↓nthK_succ,lA hdr,lB hdr,qA hdr,qB hdr,lB u3,lA u3,qA u3,qB u3,lA z4,lB z4,qA z4,qB z4,cnv_str (h3.q Upd.refl),cnv_str (h3.q u4),cnv_str (h4.q Upd.refl),hse',h1]
   exact ⟨⟨false,rfl,fun e=>absurd (by rw [e]) hlen⟩,v4⟩
 have h1:(x.acks.length:Int)=(y.acks.length:Int):=by omega
 simp (maxSteps:=3000000) (disch:=omega) only [push_cast,seval,↓nthK_zero,↓nthK_succ,lA hdr,lB hdr,qA hdr,qB hdr,lB u3,lA u3,qA u3,qB u3,lA z4,lB z4,qA z4,qB z4,cnv_str (h3.q Upd.refl),cnv_str (h3.q u4),cnv_str (h4.q Upd.refl),hse',eq_true h1]
 refine loop_inv (I:=fun k st w'=>Bx (∃i:Nat,k+i=x.acks.length∧st = [.int .i64 (i:Int)]∧Upd NoB w2 w') ⟨⟩) ?_ x.acks.length ⟨0,rfl,rfl,z4⟩
 rintro k st w5 ⟨i,hk,rfl,u5⟩
 have v5:=u0.trans u5 fun _ _ h=>h
 by_cases hk0:k=0
 · obtain rfl:i=x.acks.length:=by omega
   simp (maxSteps:=3000000) (disch:=omega) only [push_cast,seval,qA u5]
   exact ⟨⟨true,rfl,fun _=>rfl⟩,v5⟩
 have hi:i<x.acks.length:=by omega
 have hi':(i:Int)<(x.acks.length:Int):=by omega
 have hi2:i<y.acks.length:=by omega
 have hi2':(i:Int)<(y.acks.length:Int):=by omega
 have hx:=List.getElem?_eq_getElem hi
 have hy:=List.getElem?_eq_getElem hi2
 generalize x.acks[i]=a at hx
 generalize y.acks[i]=b at hy
 obtain ⟨g,o,as_,rfl,hg,hx1,hx2⟩:=(hav.q eA_ok v5).row hx
 obtain ⟨tv,rfl,hx3,hx4⟩:=hx1
 obtain ⟨ta,tc,rfl⟩:=hx3.form
 obtain ⟨g',o',bs_,rfl,hg',hy1,hy2⟩:=(hbv.q eA_ok v5).row hy
 obtain ⟨sv,rfl,hy3,hy4⟩:=hy1
 obtain ⟨sa,sc,rfl⟩:=hy3.form
 have ea:eA.s=2:=rfl
 rw [ea] at hx2 hy2
 have r0 : ∀{w':World},Upd NoB w5 w'→w'.cell? ⟨g,o+i*2,none⟩=some (.int .i64 a.rep):=fun u=>hx2 u 0 (by decide)
 have r1 : ∀{w':World},Upd NoB w5 w'→w'.cell? ⟨g,o+i*2+1,none⟩=some (.slice ta a.tag.length tc):=fun u=>hx2 u 1 (by decide)
 have t0 : ∀{w':World},Upd NoB w5 w'→w'.cell? ⟨g',o'+i*2,none⟩=some (.int .i64 b.rep):=fun u=>hy2 u 0 (by decide)
 have t1 : ∀{w':World},Upd NoB w5 w'→w'.cell? ⟨g',o'+i*2+1,none⟩=some (.slice sa b.tag.length sc):=fun u=>hy2 u 1 (by decide)
 have d5:Upd NoB w5 w5.drew:=Upd.drew
 have hse2:=str_eq hx4.2 hy4.2
 have hab:x=y→a=b:=fun e=>by
   rw [e,hy] at hx
   injection hx with hx
   exact hx.symm
 by_cases hr:a.rep=b.rep
 · by_cases ht:a.tag=b.tag
   · rw [decide_eq_true ht] at hse2
     simp (maxSteps:=3000000) (disch:=omega) only [push_cast,seval,↓nthK_zero,↓nthK_succ,hi',hi2',qA u5,qB u5,qA u5.drew',qB u5.drew',r0 d5,r1 d5,t0 d5,t1 d5,eq_true hr,cnv_str (hx3.q d5),cnv_str (hy3.q d5),hse2]
     exact ⟨k-1,by omega,i+1,by omega,rfl,u5.drew'⟩
   · rw [decide_eq_false ht] at hse2
     simp (maxSteps:=3000000) (disch:=omega) only [push_cast,seval,↓nthK_zero,↓nthK_succ,hi',hi2',qA u5,qB u5,qA u5.drew',qB u5.drew',r0 d5,r1 d5,t0 d5,t1 d5,eq_true hr,cnv_str (hx3.q d5),cnv_str (hy3.q d5),hse2]
     exact ⟨⟨false,rfl,fun e=>absurd (by rw [hab e]) ht⟩,v5.drew'⟩
 · simp (maxSteps:=3000000) (disch:=omega) only [push_cast,seval,↓nthK_zero,↓nthK_succ,hi',hi2',qA u5,qB u5,qA u5.drew',qB u5.drew',r0 d5,r1 d5,t0 d5,t1 d5,eq_false hr,cnv_str (hx3.q d5),cnv_str (hy3.q d5)]
   exact ⟨⟨false,rfl,fun e=>absurd (by rw [hab e]) hr⟩,v5.drew'⟩
set_option maxHeartbeats 4000000 in
theorem rSameSteps_ok {w:World} {G H:Nat→Prop} {a b:Value} {xs ys:List Crt} (ha:SlD eT w G a xs) (hb:SlD eT w H b ys) (hl : ∀x,x∈xs→(encT x).length≤80000000) (hl2 : ∀x,x∈ys→(encT x).length≤80000000) (hn:xs.length≤1000000) :
   Ok (den Tryz.prog 92 #[a,b] w) fun u w'=>(∃b,u = .bool b∧(xs=ys→b=true))∧Upd NoB w w':=by
 obtain ⟨aa,ac,rfl,_⟩:=ha.form
 obtain ⟨ba,bc,rfl,_⟩:=hb.form
 refine den_ok (args:=[.slice aa xs.length ac,.slice ba ys.length bc]) rs92 Tryz.func92 rfl mixed in92 ok92 rfl ?_
 by_cases hlen:xs.length=ys.length
 rotate_left
 · have h1 : ¬(xs.length:Int)=(ys.length:Int):=by omega
   simp (disch:=omega) only [push_cast,seval,h1]
   exact ⟨⟨false,rfl,fun e=>absurd (by rw [e]) hlen⟩,Upd.refl⟩
 have h1:(xs.length:Int)=(ys.length:Int):=by omega
 simp (disch:=omega) only [push_cast,seval,eq_true h1]
 refine loop_inv (I:=fun k st w'=>Bx (∃i:Nat,k+i=xs.length∧st = [.int .i64 (i:Int)]∧Upd NoB w w') ⟨⟩) ?_ xs.length ⟨0,rfl,rfl,Upd.refl⟩
 rintro k st w2 ⟨i,hk,rfl,u2⟩
 by_cases hk0:k=0
 · obtain rfl:i=xs.length:=by omega
   simp (disch:=omega) only [push_cast,seval]
   exact ⟨⟨true,rfl,fun _=>rfl⟩,u2⟩
 have hi:i<xs.length:=by omega
 have hi':(i:Int)<(xs.length:Int):=by omega
 have hi2:i<ys.length:=by omega
 have hi2':(i:Int)<(ys.length:Int):=by omega
 have hx:=List.getElem?_eq_getElem hi
 have hy:=List.getElem?_eq_getElem hi2
 generalize xs[i]=x at hx
 generalize ys[i]=y at hy
 obtain ⟨g,o,cs,rfl,hg,hx1,hx2⟩:=(ha.q eT_ok u2).row hx
 obtain ⟨g',o',ds,rfl,hg',hy1,hy2⟩:=(hb.q eT_ok u2).row hy
 have es:eT.s=9:=rfl
 have kc:=eT_ok.len hx1
 have kd:=eT_ok.len hy1
 rw [es] at hx2 hy2 kc kd
 have lA : ∀{w':World},Upd NoB w2 w'→ldS Tryz.prog 88 (.pointer (some ⟨g,o+i*9,none⟩)) w'=some (.agg cs.toArray,w'):=fun u=>ld_elt (P:=Tryz.prog) (by kernel_rfl) (by rw [kc]; kernel_rfl) (by rw [kc]; exact hx2 u)
 have lB : ∀{w':World},Upd NoB w2 w'→ldS Tryz.prog 88 (.pointer (some ⟨g',o'+i*9,none⟩)) w'=some (.agg ds.toArray,w'):=fun u=>ld_elt (P:=Tryz.prog) (by kernel_rfl) (by rw [kd]; kernel_rfl) (by rw [kd]; exact hy2 u)
 have d2:Upd NoB w2 w2.drew:=Upd.drew
 have hab:xs=ys→x=y:=fun e=>by
   rw [e,hy] at hx
   injection hx with hx
   exact hx.symm
 simp (maxSteps:=3000000) (disch:=omega) only [push_cast,seval,↓nthK_zero,↓nthK_succ,hi',hi2',lA d2,lB d2]
 refine Ok.use (rSameCert_ok (eT_ok.q hx1 d2) (eT_ok.q hy1 d2) (hl x (List.mem_of_getElem? hx)) (hl2 y (List.mem_of_getElem? hy))) ?_
 rintro u w3 ⟨⟨q,rfl,hq⟩,u3⟩
 have z3:=d2.trans u3 fun _ _ h=>h
 have v3:=u2.trans z3 fun _ _ h=>h
 cases q
 · simp (maxSteps:=3000000) (disch:=omega) only [push_cast,seval,↓nthK_zero,↓nthK_succ,hi',hi2',lA d2,lB d2,lA z3,lB z3]
   exact ⟨⟨false,rfl,fun e=>hq (hab e)⟩,v3⟩
 · simp (maxSteps:=3000000) (disch:=omega) only [push_cast,seval,↓nthK_zero,↓nthK_succ,hi',hi2',lA d2,lB d2,lA z3,lB z3]
   exact ⟨k-1,by omega,i+1,by omega,rfl,v3⟩
theorem encL_mem {l:List Cmd} {x:Cmd} (h:x∈l):(encC x).length≤(encL l).length:=by
 obtain ⟨i,hi⟩:=List.getElem?_of_mem h
 have:=flat_len_at (f:=fun c=>encB (encC c)) hi
 rw [encL_len]
 have:(encB (encC x)).length=(encU (encC x).length).length+(encC x).length:=by simp [encB]
 omega
theorem encBs_mem {b:Bas} {x:Crt} (h:x∈b.steps):(encT x).length≤(encBs b).length:=by
 obtain ⟨i,hi⟩:=List.getElem?_of_mem h
 have:=flat_len_at (f:=encT) hi
 rw [encBs_len]
 omega
theorem encL_ge {l:List Cmd}:l.length≤(encL l).length:=by
 have hge:l.length≤(l.flatMap fun c=>encB (encC c)).length:=flat_ge fun x=>by have:=encU_pos (encC x).length; simp [encB]; omega
 rw [encL_len]
 omega
theorem encBs_ge {b:Bas}:b.steps.length≤(encBs b).length:=by
 have hge:b.steps.length≤(b.steps.flatMap encT).length:=flat_ge fun x=>by have:=encU_pos x.acks.length; rw [encT_len]; omega
 rw [encBs_len]
 omega
set_option maxHeartbeats 4000000 in
theorem rSameBase_ok {w:World} {G H:Nat→Prop} {a b:Bas} {cs ds:List Value} (hc:eB.C w G a cs) (hd:eB.C w H b ds) (hl:(encBs a).length≤1000000) (hl2:(encBs b).length≤1000000) :
   Ok (den Tryz.prog 49 #[.agg cs.toArray,.agg ds.toArray] w) fun u w'=>(∃q,u = .bool q∧(a=b→q=true))∧Upd NoB w w':=by
 obtain ⟨sa,sc,ta,tc,rfl,k1,k2,k3⟩:=eB_parts hc
 obtain ⟨pa,pc,qa,qc,rfl,m1,m2,m3⟩:=eB_parts hd
 have l1:=encBs_len (b:=a)
 have l2:=encBs_len (b:=b)
 refine den_ok (args:=[.agg #[.slice sa a.steps.length sc,.slice ta a.taken.length tc],.agg #[.slice pa b.steps.length pc,.slice qa b.taken.length qc]]) rs49 Tryz.func49 rfl mixed in49 ok49 rfl ?_
 rw [W_seq]
 generalize hKs:KS _ _ _ _ _=Ks
 simp (disch:=omega) only [push_cast,seval]
 have b0:=(Blk.new (w:=w) (cs:=[.slice sa a.steps.length sc,.slice ta a.taken.length tc]) (E:=35)).alloc (.cells #[.slice pa b.steps.length pc,.slice qa b.taken.length qc] 35 (0,0))
 have b1:=Blk.new (w:=w.alloc (.cells #[.slice sa a.steps.length sc,.slice ta a.taken.length tc] 35 (0,0))) (cs:=[.slice pa b.steps.length pc,.slice qa b.taken.length qc]) (E:=35)
 have u0:Upd NoB w ((w.alloc (.cells #[.slice sa a.steps.length sc,.slice ta a.taken.length tc] 35 (0,0))).alloc (.cells #[.slice pa b.steps.length pc,.slice qa b.taken.length qc] 35 (0,0))):=Upd.alloc.alloc'
 rw [size_alloc] at b1
 generalize (w.alloc (.cells #[.slice sa a.steps.length sc,.slice ta a.taken.length tc] 35 (0,0))).alloc (.cells #[.slice pa b.steps.length pc,.slice qa b.taken.length qc] 35 (0,0))=w2 at *
 subst hKs
 rw [KS_nor]
 simp (maxSteps:=3000000) (disch:=omega) only [push_cast,seval,b0.cell,b1.cell]
 refine Ok.use (rSameSteps_ok (k1.q eT_ok u0) (m1.q eT_ok u0) (fun x hx=>by have:=encBs_mem hx; omega) (fun x hx=>by have:=encBs_mem hx; omega) (by have:=encBs_ge (b:=a); omega)) ?_
 rintro u w3 ⟨⟨q,rfl,hq⟩,u3⟩
 have v3:=u0.trans u3 fun _ _ h=>h
 cases q
 · simp (maxSteps:=3000000) (disch:=omega) only [push_cast,seval,(b0.upd u3 fun h=>h).cell,(b1.upd u3 fun h=>h).cell]
   exact ⟨⟨false,rfl,fun e=>hq (by rw [e])⟩,v3⟩
 simp (maxSteps:=3000000) (disch:=omega) only [push_cast,seval,(b0.upd u3 fun h=>h).cell,(b1.upd u3 fun h=>h).cell]
 refine Ok.use (rSameList_ok (k2.q eC_ok v3) (m2.q eC_ok v3) (fun x hx=>by have:=encL_mem hx; omega) (fun x hx=>by have:=encL_mem hx; omega) (by have:=encL_ge (l:=a.taken); omega)) ?_
 rintro u w4 ⟨rfl,u4⟩
 simp (maxSteps:=3000000) (disch:=omega) only [push_cast,seval]
 exact ⟨⟨_,rfl,fun e=>by rw [decide_eq_true]; rw [e]⟩,v3.trans u4 fun _ _ h=>h⟩
set_option maxHeartbeats 4000000 in
theorem rSameCon_ok {w:World} {G H:Nat→Prop} {a b:Con} {cs ds:List Value} (hc:eN.C w G a cs) (hd:eN.C w H b ds) (hl:(encCn a).length≤1000000) (hl2:(encCn b).length≤1000000) :
   Ok (den Tryz.prog 16 #[.agg cs.toArray,.agg ds.toArray] w) fun u w'=>(∃q,u = .bool q∧(a=b→q=true))∧Upd NoB w w':=by
 obtain ⟨xa,xc,sa,sc,ta,tc,rfl,k1,k2,k3⟩:=eN_parts hc
 obtain ⟨ya,yc,pa,pc,qa,qc,rfl,m1,m2,m3⟩:=eN_parts hd
 have l1:=encCn_len' (c:=a)
 have l2:=encCn_len' (c:=b)
 refine den_ok (args:=[.agg #[.slice xa a.st.length xc,.slice sa a.bas.steps.length sc,.slice ta a.bas.taken.length tc,.int .i64 a.life],.agg #[.slice ya b.st.length yc,.slice pa b.bas.steps.length pc,.slice qa b.bas.taken.length qc,.int .i64 b.life]]) rs16 Tryz.func16 rfl mixed in16 ok16 rfl ?_
 rw [W_seq]
 generalize hKs:KS _ _ _ _ _=Ks
 simp (disch:=omega) only [push_cast,seval]
 have b0:=(Blk.new (w:=w) (cs:=[.slice xa a.st.length xc,.slice sa a.bas.steps.length sc,.slice ta a.bas.taken.length tc,.int .i64 a.life]) (E:=37)).alloc (.cells #[.slice ya b.st.length yc,.slice pa b.bas.steps.length pc,.slice qa b.bas.taken.length qc,.int .i64 b.life] 37 (0,0))
 have b1:=Blk.new (w:=w.alloc (.cells #[.slice xa a.st.length xc,.slice sa a.bas.steps.length sc,.slice ta a.bas.taken.length tc,.int .i64 a.life] 37 (0,0))) (cs:=[.slice ya b.st.length yc,.slice pa b.bas.steps.length pc,.slice qa b.bas.taken.length qc,.int .i64 b.life]) (E:=37)
 have u0:Upd NoB w ((w.alloc (.cells #[.slice xa a.st.length xc,.slice sa a.bas.steps.length sc,.slice ta a.bas.taken.length tc,.int .i64 a.life] 37 (0,0))).alloc (.cells #[.slice ya b.st.length yc,.slice pa b.bas.steps.length pc,.slice qa b.bas.taken.length qc,.int .i64 b.life] 37 (0,0))):=Upd.alloc.alloc'
 rw [size_alloc] at b1
 generalize (w.alloc (.cells #[.slice xa a.st.length xc,.slice sa a.bas.steps.length sc,.slice ta a.bas.taken.length tc,.int .i64 a.life] 37 (0,0))).alloc (.cells #[.slice ya b.st.length yc,.slice pa b.bas.steps.length pc,.slice qa b.bas.taken.length qc,.int .i64 b.life] 37 (0,0))=w2 at *
 subst hKs
 rw [KS_nor]
 by_cases hli:a.life=b.life
 rotate_left
 · simp (maxSteps:=3000000) (disch:=omega) only [push_cast,seval,b0.cell,b1.cell,eq_false hli]
   exact ⟨⟨false,rfl,fun e=>absurd (by rw [e]) hli⟩,u0⟩
 simp (maxSteps:=3000000) (disch:=omega) only [push_cast,seval,b0.cell,b1.cell,eq_true hli]
 refine Ok.use (rSameList_ok (k1.q eC_ok u0) (m1.q eC_ok u0) (fun x hx=>by have:=encL_mem hx; omega) (fun x hx=>by have:=encL_mem hx; omega) (by have:=encL_ge (l:=a.st); omega)) ?_
 rintro u w3 ⟨rfl,u3⟩
 have v3:=u0.trans u3 fun _ _ h=>h
 by_cases hst:a.st.map encC=b.st.map encC
 rotate_left
 · rw [decide_eq_false hst]
   simp (maxSteps:=3000000) (disch:=omega) only [push_cast,seval,(b0.upd u3 fun h=>h).cell,(b1.upd u3 fun h=>h).cell]
   exact ⟨⟨false,rfl,fun e=>absurd (by rw [e]) hst⟩,v3⟩
 rw [decide_eq_true hst]
 simp (maxSteps:=3000000) (disch:=omega) only [push_cast,seval,(b0.upd u3 fun h=>h).cell,(b1.upd u3 fun h=>h).cell]
 refine Ok.use (rSameBase_ok (eB_ok.q k2 v3) (eB_ok.q m2 v3) (by omega) (by omega)) ?_
 rintro u w4 ⟨⟨q,rfl,hq⟩,u4⟩
 cases q
 · simp (maxSteps:=3000000) (disch:=omega) only [push_cast,seval]
   exact ⟨⟨_,rfl,fun e=>hq (by rw [e])⟩,v3.trans u4 fun _ _ h=>h⟩
 · simp (maxSteps:=3000000) (disch:=omega) only [push_cast,seval]
   exact ⟨⟨_,rfl,fun e=>hq (by rw [e])⟩,v3.trans u4 fun _ _ h=>h⟩
open Go
set_option maxRecDepth 100000
theorem v_of (x:BitVec 32):BitVec.ofInt IntKind.u32.bits (x.toNat:Int)=x:=by
 show BitVec.ofInt 32 (x.toNat:Int)=x
 rw [BitVec.ofInt_natCast,BitVec.ofNat_toNat,BitVec.setWidth_eq]
theorem v_wrap (x:BitVec 32):IntKind.u32.wrap (x.toNat:Int)=(x.toNat:Int):=by
 have h1:=x.isLt
 rw [IntKind.wrap_u32]
 omega
theorem v_or {x y:BitVec 32}:IntKind.u32.wrap ((BitVec.ofInt IntKind.u32.bits (x.toNat:Int) ||| BitVec.ofInt IntKind.u32.bits (y.toNat:Int)).toNat:Int)=((x ||| y).toNat:Int):=by
 rw [v_of,v_of]; exact v_wrap (x ||| y)
theorem v_and {x y:BitVec 32}:IntKind.u32.wrap ((BitVec.ofInt IntKind.u32.bits (x.toNat:Int) &&& BitVec.ofInt IntKind.u32.bits (y.toNat:Int)).toNat:Int)=((x &&& y).toNat:Int):=by
 rw [v_of,v_of]; exact v_wrap (x &&& y)
theorem v_xor {x y:BitVec 32}:IntKind.u32.wrap ((BitVec.ofInt IntKind.u32.bits (x.toNat:Int) ^^^ BitVec.ofInt IntKind.u32.bits (y.toNat:Int)).toNat:Int)=((x ^^^ y).toNat:Int):=by
 rw [v_of,v_of]; exact v_wrap (x ^^^ y)
theorem v_add {x y:BitVec 32}:IntKind.u32.wrap ((x.toNat:Int)+(y.toNat:Int))=((x+y).toNat:Int):=by
 rw [IntKind.wrap_u32,BitVec.toNat_add]
 have h1:=x.isLt
 have h2:=y.isLt
 omega
theorem v_shr {x:BitVec 32} {n:Nat} (h:n≤32):(x.toNat:Int).fdiv (2 ^ (min n IntKind.u32.bits))=((x >>> n).toNat:Int):=by
 rw [show min n IntKind.u32.bits=n from Nat.min_eq_left h,BitVec.toNat_ushiftRight,Nat.shiftRight_eq_div_pow]
 rw [Int.fdiv_eq_ediv_of_nonneg _ (Int.le_of_lt (Int.pow_pos (by decide))),Int.natCast_ediv,Int.natCast_pow]
 rfl
theorem v_shl {x:BitVec 32} {n:Nat} (h:n≤32):IntKind.u32.wrap ((x.toNat:Int)*2 ^ (min n IntKind.u32.bits))=((x <<< n).toNat:Int):=by
 rw [show min n IntKind.u32.bits=n from Nat.min_eq_left h,IntKind.wrap_u32,BitVec.toNat_shiftLeft,Nat.shiftLeft_eq,Int.natCast_emod,Int.natCast_mul,Int.natCast_pow]
 rfl
def rot (x:BitVec 32) (n:Nat):BitVec 32:=x >>> n ||| x <<< (32-n)
attribute [push_cast] v_or v_and v_xor v_add v_shr v_shl
theorem rotr_ok {x:BitVec 32} {n:Nat} {w:World} (hn:1≤n) (hn:n≤31):Ok (den Tryz.prog 192 #[.int .u32 (x.toNat:Int),.int .u64 (n:Int)] w) fun v w'=>v = .int .u32 ((rot x n).toNat:Int)∧w=w':=by
 refine den_ok (args:=[.int .u32 (x.toNat:Int),.int .u64 (n:Int)]) rs192 Tryz.func192 rfl mixed in192 ok192 rfl ?_
 have e:IntKind.u64.wrap (32-(n:Int))=((32-n:Nat):Int):=by rw [IntKind.wrap_u64]; omega
 obtain ⟨m,hm⟩ : ∃m,m=32-n:=⟨_,rfl⟩
 rw [←hm] at e
 simp (maxSteps:=3000000) (disch:=omega) only [push_cast,seval,e]
 rw [hm]
 rfl
def kTab:List Nat:=[1116352408,1899447441,3049323471,3921009573,961987163,1508970993,2453635748,2870763221,3624381080,310598401,607225278,1426881987,1925078388,2162078206,2614888103,3248222580,3835390401,4022224774,264347078,604807628,770255983,1249150122,1555081692,1996064986,2554220882,2821834349,2952996808,3210313671,3336571891,3584528711,113926993,338241895,666307205,773529912,1294757372,1396182291,1695183700,1986661051,2177026350,2456956037,2730485921,2820302411,3259730800,3345764771,3516065817,3600352804,4094571909,275423344,430227734,506948616,659060556,883997877,958139571,1322822218,1537002063,1747873779,1955562222,2024104815,2227730452,2361852424,2428436474,2756734187,3204031479,3329325298]
def kV (t:Nat):BitVec 32:=BitVec.ofNat 32 (kTab.getD t 0)
def byW (B:List Int) (i:Nat):BitVec 32:=BitVec.ofInt 32 (B.getD i 0)
def w0 (B:List Int) (t:Nat):BitVec 32:=byW B (4*t) <<< 24 ||| byW B (4*t+1) <<< 16 ||| byW B (4*t+2) <<< 8 ||| byW B (4*t+3)
def sg0 (x:BitVec 32):BitVec 32:=rot x 7 ^^^ rot x 18 ^^^ x >>> 3
def sg1 (x:BitVec 32):BitVec 32:=rot x 17 ^^^ rot x 19 ^^^ x >>> 10
def wS (B:List Int) (t:Nat):BitVec 32:=
 if t<16 then w0 B t else sg1 (wS B (t-2))+wS B (t-7)+sg0 (wS B (t-15))+wS B (t-16)
termination_by t
structure H8 where
 a:BitVec 32
 b:BitVec 32
 c:BitVec 32
 d:BitVec 32
 e:BitVec 32
 f:BitVec 32
 g:BitVec 32
 h:BitVec 32
def rndT1 (k x:BitVec 32) (s:H8):BitVec 32:=s.h+(rot s.e 6 ^^^ rot s.e 11 ^^^ rot s.e 25)+((s.e &&& s.f) ^^^ (~~~ s.e &&& s.g))+k+x
def rndT2 (s:H8):BitVec 32:=(rot s.a 2 ^^^ rot s.a 13 ^^^ rot s.a 22)+((s.a &&& s.b) ^^^ (s.a &&& s.c) ^^^ (s.b &&& s.c))
def rnd (k x:BitVec 32) (s:H8):H8:=⟨rndT1 k x s+rndT2 s,s.a,s.b,s.c,s.d+rndT1 k x s,s.e,s.f,s.g⟩
def rds (B:List Int) (s:H8):Nat→H8
 | 0=>s
 | t+1=>rnd (kV t) (wS B t) (rds B s t)
def addH (s u:H8):H8:=⟨s.a+u.a,s.b+u.b,s.c+u.c,s.d+u.d,s.e+u.e,s.f+u.f,s.g+u.g,s.h+u.h⟩
def blkP (B:List Int) (s:H8):H8:=addH (rds B s 64) s
def vW (x:BitVec 32):Value:=.int .u32 (x.toNat:Int)
def H8.row (s:H8):List Value:=[vW s.a,vW s.b,vW s.c,vW s.d,vW s.e,vW s.f,vW s.g,vW s.h]
def H8.val (s:H8):Value:=.agg s.row.toArray
def wRow (B:List Int) (t:Nat):List Value:=(List.range 64).map fun i=>if i<t then vW (wS B i) else .int .u32 0
theorem wRow_zero {B:List Int}:wRow B 0=List.replicate 64 (.int .u32 0):=by
 refine List.eq_replicate_iff.2 ⟨by simp [wRow],fun x hx=>?_⟩
 obtain ⟨i,_,rfl⟩:=List.mem_map.1 hx
 rw [if_neg (by omega)]
theorem wRow_at {B:List Int} {t i:Nat} (h:i<t) (h2:i<64):(wRow B t)[i]? =some (vW (wS B i)):=by
 unfold wRow
 simp [h,h2]
theorem wRow_new {B:List Int} {t i:Nat} (h:t≤i) (h2:i<64):(wRow B t)[i]? =some (.int .u32 0):=by
 unfold wRow
 simp [h2,Nat.not_lt.2 h]
theorem wRow_set {B:List Int} {t:Nat} (h:t<64):(wRow B t).set t (vW (wS B t))=wRow B (t+1):=by
 apply List.ext_getElem?
 intro i
 unfold wRow
 rw [List.getElem?_set]
 by_cases h1:t=i
 · subst h1
   simp [h]
 · rw [if_neg h1]
   simp only [List.getElem?_map]
   by_cases h2:i<64
   · rw [List.getElem?_range h2]
     simp only [Option.map_some,Option.some.injEq]
     by_cases h3:i<t
     · rw [if_pos h3,if_pos (by omega)]
     · rw [if_neg h3,if_neg (by omega)]
   · rw [List.getElem?_eq_none (by simp; omega)]
     rfl
theorem wRow_16 {B:List Int} {t:Nat} (h:t<16):wS B t=w0 B t:=by rw [wS,if_pos h]
theorem wRow_64 {B:List Int} {t:Nat} (h:16≤t):wS B t=sg1 (wS B (t-2))+wS B (t-7)+sg0 (wS B (t-15))+wS B (t-16):=by rw [wS,if_neg (by omega)]
def set8 (w:World) (b:Nat) (s:H8):World:=(((((((w.setCell ⟨b,0,none⟩ (vW s.a)).setCell ⟨b,1,none⟩ (vW s.b)).setCell ⟨b,2,none⟩ (vW s.c)).setCell ⟨b,3,none⟩ (vW s.d)).setCell ⟨b,4,none⟩ (vW s.e)).setCell ⟨b,5,none⟩ (vW s.f)).setCell ⟨b,6,none⟩ (vW s.g)).setCell ⟨b,7,none⟩ (vW s.h)
theorem set8_blk {w:World} {b:Nat} {s:H8} {E:TypeId} {cs:List Value} (hl:cs.length=8) (h:Blk w b cs E):Blk (set8 w b s) b s.row E:=by
 have h8:=(((((((h.set 0 (vW s.a)).set 1 (vW s.b)).set 2 (vW s.c)).set 3 (vW s.d)).set 4 (vW s.e)).set 5 (vW s.f)).set 6 (vW s.g)).set 7 (vW s.h)
 match cs,hl with
 | [_,_,_,_,_,_,_,_],_=>exact h8
theorem set8_upd {w:World} {b:Nat} {s:H8}:Upd (fun x=>x=b) w (set8 w b s):=by
 have s0:Upd (fun x=>x=b) w (w.setCell ⟨b,0,none⟩ (vW s.a)):=Upd.set rfl
 have s1:=s0.setIn (a:=⟨b,1,none⟩) (v:=vW s.b) rfl
 have s2:=s1.setIn (a:=⟨b,2,none⟩) (v:=vW s.c) rfl
 have s3:=s2.setIn (a:=⟨b,3,none⟩) (v:=vW s.d) rfl
 have s4:=s3.setIn (a:=⟨b,4,none⟩) (v:=vW s.e) rfl
 have s5:=s4.setIn (a:=⟨b,5,none⟩) (v:=vW s.f) rfl
 have s6:=s5.setIn (a:=⟨b,6,none⟩) (v:=vW s.g) rfl
 have s7:=s6.setIn (a:=⟨b,7,none⟩) (v:=vW s.h) rfl
 exact s7
theorem set8_size {w:World} {b:Nat} {s:H8}:(set8 w b s).heap.size=w.heap.size:=by
 unfold set8
 simp only [size_set]
def H8.get (s:H8):Nat→BitVec 32
 | 0=>s.a
 | 1=>s.b
 | 2=>s.c
 | 3=>s.d
 | 4=>s.e
 | 5=>s.f
 | 6=>s.g
 | _=>s.h
def addTo (r s:H8) (i:Nat):List Value:=(List.range 8).map fun j=>if j<i then vW (r.get j+s.get j) else vW (r.get j)
theorem addTo_zero {r s:H8}:addTo r s 0=r.row:=rfl
theorem addTo_8 {r s:H8}:addTo r s 8=(addH r s).row:=rfl
theorem row_at {s:H8} {i:Nat} (h:i<8):s.row[i]? =some (vW (s.get i)):=by
 match i,h with
 | 0,_=>rfl
 | 1,_=>rfl
 | 2,_=>rfl
 | 3,_=>rfl
 | 4,_=>rfl
 | 5,_=>rfl
 | 6,_=>rfl
 | 7,_=>rfl
theorem addTo_at {r s:H8} {i:Nat} (h:i<8):(addTo r s i)[i]? =some (vW (r.get i)):=by
 unfold addTo
 simp [h]
theorem addTo_set {r s:H8} {i:Nat} (h:i<8):(addTo r s i).set i (vW (r.get i+s.get i))=addTo r s (i+1):=by
 match i,h with
 | 0,_=>rfl
 | 1,_=>rfl
 | 2,_=>rfl
 | 3,_=>rfl
 | 4,_=>rfl
 | 5,_=>rfl
 | 6,_=>rfl
 | 7,_=>rfl
theorem uns_compl {P:Program} {w:World} {x:BitVec 32}:unS (P:=P) .xor (.int .u32 (x.toNat:Int)) w=some (.int .u32 ((~~~x).toNat:Int),w):=by
 have h2:BitVec.ofInt 32 4294967295=BitVec.allOnes 32:=by decide
 have e:IntKind.u32.wrap ((BitVec.ofInt IntKind.u32.bits IntKind.u32.max ^^^ BitVec.ofInt IntKind.u32.bits (x.toNat:Int)).toNat:Int)=((~~~x).toNat:Int):=by
   rw [v_of]
   show IntKind.u32.wrap ((BitVec.ofInt 32 4294967295 ^^^ x).toNat:Int)=_
   rw [h2,BitVec.allOnes_xor]
   exact v_wrap (~~~x)
 have h:(Op.unary .xor (.int .u32 (x.toNat:Int))).run P w = .ok (.int .u32 (IntKind.u32.wrap ((BitVec.ofInt IntKind.u32.bits IntKind.u32.max ^^^ BitVec.ofInt IntKind.u32.bits (x.toNat:Int)).toNat:Int))) w:=rfl
 unfold unS lift
 rw [h,e]
theorem cnv_u8_u32 {k:IntKind} {n:Int} {w:World}:cnvS Tryz.prog 5 225 (.int k n) w=some (.int .u32 ((BitVec.ofInt 32 n).toNat:Int),w):=by
 have h:Tryz.prog.intKind 225 = .u32:=by kernel_rfl
 rw [cnv_int (by kernel_rfl) (by kernel_rfl),h,IntKind.wrap_u32,BitVec.toNat_ofInt]
 congr 3
 omega
attribute [push_cast] cnv_u8_u32 vW uns_compl
open Go
set_option maxRecDepth 100000
def KT (w:World):Prop:=1<w.heap.size∧∀t,t<64→w.cell? ⟨1,t,none⟩=some (vW (kV t))
theorem KT.upd {w w':World} {F:Nat→Prop} (h:KT w) (hu:Upd F w w') (hF : ¬F 1):KT w':=by
 refine ⟨Nat.lt_of_lt_of_le h.1 hu.size,fun t ht=>?_⟩
 rw [←h.2 t ht]
 exact World.cell?_of_block (hu.block 1 h.1 hF)
theorem lies_at {w:World} {b o:Nat} {B:List Int} (h:Lies w b o B) {j:Nat} (hj:j<B.length):w.cell? ⟨b,o+j,none⟩=some (.int .u8 (B.getD j 0)):=by
 rw [h j (by rw [by8_length]; exact hj)]
 simp [by8,List.getD_eq_getElem?_getD,List.getElem?_eq_getElem hj]
theorem bld_words (a b c d e f g h:Int) (w:World):bldS Tryz.prog 228 #[(0,.int .u32 a),(1,.int .u32 b),(2,.int .u32 c),(3,.int .u32 d),(4,.int .u32 e),(5,.int .u32 f),(6,.int .u32 g),(7,.int .u32 h)] w =
   some (.agg #[.int .u32 a,.int .u32 b,.int .u32 c,.int .u32 d,.int .u32 e,.int .u32 f,.int .u32 g,.int .u32 h],w):=by kernel_rfl
attribute [push_cast] bld_words
set_option maxHeartbeats 4000000 in
theorem block_ok {w:World} (hK:KT w) {s:H8} {F:Nat→Prop} {va:Option Addr} {vc:Nat} {B:List Int} (hl:B.length=64) (hB:SlB w F (.slice va B.length vc) B):Ok (den Tryz.prog 186 #[s.val,.slice va B.length vc] w) fun v w'=>v=(blkP B s).val∧Upd (fun _=>False) w w':=by
 obtain ⟨a',c',hv,hli⟩:=hB
 injection hv with e1 e2 e3
 subst e1
 obtain ⟨gb,o,rfl,hli,_⟩:=hli (by intro e; rw [e] at hl; cases hl)
 rw [hl]
 obtain ⟨a,b,c,d,e,f,g,h⟩:=s
 refine den_okC1 (args:=[H8.val ⟨a,b,c,d,e,f,g,h⟩,.slice (some ⟨gb,o,none⟩) 64 vc]) 4 228 Tryz.func186 rfl mixed in186 ok186 rfl ?_
 unfold H8.val H8.row
 simp (config:={maxSteps:=3000000}) (disch:=omega) only [push_cast,Nat.reduceBEq,Nat.reduceEqDiff,Nat.reduceAdd,Nat.reduceMul,Nat.reduceSub,Nat.reduceLT,Int.reduceToNat,Int.reduceLT,Int.reduceLE,Int.reduceEq,Int.reduceAdd,Int.reduceSub,Int.reduceNeg,Int.reduceMul]
 have hgb:=hli.lt (by omega)
 have hu0:Upd (fun _=>False) w (((w.alloc (.cells (H8.row ⟨a,b,c,d,e,f,g,h⟩).toArray 228 (0,0))).alloc (.cells [Value.int .u32 0,.int .u32 0,.int .u32 0,.int .u32 0,.int .u32 0,.int .u32 0,.int .u32 0,.int .u32 0].toArray 228 (0,0))).alloc (.cells (List.replicate 64 (Value.int .u32 0)).toArray 238 (0,0))):=Upd.alloc.alloc'.alloc'
 have hsz:(((w.alloc (.cells (H8.row ⟨a,b,c,d,e,f,g,h⟩).toArray 228 (0,0))).alloc (.cells [Value.int .u32 0,.int .u32 0,.int .u32 0,.int .u32 0,.int .u32 0,.int .u32 0,.int .u32 0,.int .u32 0].toArray 228 (0,0))).alloc (.cells (List.replicate 64 (Value.int .u32 0)).toArray 238 (0,0))).heap.size=w.heap.size+1+1+1:=by rw [size_alloc,size_alloc,size_alloc]
 have hbs:Blk (((w.alloc (.cells (H8.row ⟨a,b,c,d,e,f,g,h⟩).toArray 228 (0,0))).alloc (.cells [Value.int .u32 0,.int .u32 0,.int .u32 0,.int .u32 0,.int .u32 0,.int .u32 0,.int .u32 0,.int .u32 0].toArray 228 (0,0))).alloc (.cells (List.replicate 64 (Value.int .u32 0)).toArray 238 (0,0))) w.heap.size (H8.row ⟨a,b,c,d,e,f,g,h⟩) 228:=(Blk.new.alloc _).alloc _
 have hbr:Blk (((w.alloc (.cells (H8.row ⟨a,b,c,d,e,f,g,h⟩).toArray 228 (0,0))).alloc (.cells [Value.int .u32 0,.int .u32 0,.int .u32 0,.int .u32 0,.int .u32 0,.int .u32 0,.int .u32 0,.int .u32 0].toArray 228 (0,0))).alloc (.cells (List.replicate 64 (Value.int .u32 0)).toArray 238 (0,0))) (w.heap.size+1) [.int .u32 0,.int .u32 0,.int .u32 0,.int .u32 0,.int .u32 0,.int .u32 0,.int .u32 0,.int .u32 0] 228:=by
   have:=(Blk.new (w:=(w.alloc (.cells (H8.row ⟨a,b,c,d,e,f,g,h⟩).toArray 228 (0,0)))) (cs:=[.int .u32 0,.int .u32 0,.int .u32 0,.int .u32 0,.int .u32 0,.int .u32 0,.int .u32 0,.int .u32 0]) (E:=228)).alloc (.cells (List.replicate 64 (Value.int .u32 0)).toArray 238 (0,0))
   rw [size_alloc] at this
   exact this
 have hbw:Blk (((w.alloc (.cells (H8.row ⟨a,b,c,d,e,f,g,h⟩).toArray 228 (0,0))).alloc (.cells [Value.int .u32 0,.int .u32 0,.int .u32 0,.int .u32 0,.int .u32 0,.int .u32 0,.int .u32 0,.int .u32 0].toArray 228 (0,0))).alloc (.cells (List.replicate 64 (Value.int .u32 0)).toArray 238 (0,0))) (w.heap.size+1+1) (wRow B 0) 238:=by
   rw [wRow_zero]
   have:=Blk.new (w:=(w.alloc (.cells (H8.row ⟨a,b,c,d,e,f,g,h⟩).toArray 228 (0,0))).alloc (.cells [Value.int .u32 0,.int .u32 0,.int .u32 0,.int .u32 0,.int .u32 0,.int .u32 0,.int .u32 0,.int .u32 0].toArray 228 (0,0))) (cs:=List.replicate 64 (Value.int .u32 0)) (E:=238)
   rw [size_alloc,size_alloc] at this
   exact this
 unfold H8.row vW at hu0 hsz hbs hbr hbw
 dsimp only at hbs
 generalize (((w.alloc (.cells [Value.int .u32 (a.toNat:Int),.int .u32 (b.toNat:Int),.int .u32 (c.toNat:Int),.int .u32 (d.toNat:Int),.int .u32 (e.toNat:Int),.int .u32 (f.toNat:Int),.int .u32 (g.toNat:Int),.int .u32 (h.toNat:Int)].toArray 228 (0,0))).alloc (.cells [Value.int .u32 0,.int .u32 0,.int .u32 0,.int .u32 0,.int .u32 0,.int .u32 0,.int .u32 0,.int .u32 0].toArray 228 (0,0))).alloc (.cells (List.replicate 64 (Value.int .u32 0)).toArray 238 (0,0)))=w1 at *
 refine loop_inv (I:=fun k st w'=>Bx (∃t,k+t=16∧st = [.int .i64 ((t:Nat):Int)]∧Blk w' (w.heap.size+1+1) (wRow B t) 238∧Upd (fun x=>x=w.heap.size+1+1) w1 w') ⟨⟩) ?_ 16
   ⟨0,by omega,rfl,hbw,Upd.refl⟩
 clear hbw
 rintro k st w2 ⟨t,hk,rfl,hbw,hu2⟩
 have hu02:Upd (fun _=>False) w w2:=hu0.trans hu2 fun x hx e=>by omega
 by_cases hk0:k=0
 · obtain rfl:t=16:=by omega
   simp (config:={maxSteps:=3000000}) (disch:=omega) only [push_cast,Nat.reduceBEq,Nat.reduceEqDiff,Nat.reduceAdd,Nat.reduceMul,Nat.reduceSub,Nat.reduceLT,Int.reduceToNat,Int.reduceLT,Int.reduceLE,Int.reduceEq,Int.reduceAdd,Int.reduceSub,Int.reduceNeg,Int.reduceMul]
   refine loop_inv (I:=fun k st w'=>Bx (∃t,k+t=64∧16≤t∧st = [.int .i64 ((t:Nat):Int)]∧Blk w' (w.heap.size+1+1) (wRow B t) 238∧Upd (fun x=>x=w.heap.size+1+1) w1 w') ⟨⟩) ?_ 48
     ⟨16,by omega,Nat.le_refl _,rfl,hbw,hu2⟩
   clear hbw hu2 hu02
   rintro k st w2 ⟨t,hk,ht,rfl,hbw,hu2⟩
   have hu02:Upd (fun _=>False) w w2:=hu0.trans hu2 fun x hx e=>by omega
   by_cases hk0:k=0
   · obtain rfl:t=64:=by omega
     have hbs2:=hbs.upd hu2 (fun h=>by omega)
     have hbr2:=hbr.upd hu2 (fun h=>by omega)
     have hs12:=hu2.size
     clear hbs hbr
     simp (config:={maxSteps:=3000000}) (disch:=omega) only [push_cast,Nat.reduceBEq,Nat.reduceEqDiff,Nat.reduceAdd,Nat.reduceMul,Nat.reduceSub,Nat.reduceLT,Int.reduceToNat,Int.reduceLT,Int.reduceLE,Int.reduceEq,Int.reduceAdd,Int.reduceSub,Int.reduceNeg,Int.reduceMul,hbs2.cell]
     have hbu3:Blk (set8 (w2.alloc (.cells [Value.int .u32 0,.int .u32 0,.int .u32 0,.int .u32 0,.int .u32 0,.int .u32 0,.int .u32 0,.int .u32 0].toArray 228 (0,0))) w2.heap.size ⟨a,b,c,d,e,f,g,h⟩) w2.heap.size (H8.row ⟨a,b,c,d,e,f,g,h⟩) 228:=set8_blk (cs:=[Value.int .u32 0,.int .u32 0,.int .u32 0,.int .u32 0,.int .u32 0,.int .u32 0,.int .u32 0,.int .u32 0]) rfl Blk.new
     have hu23:Upd (fun _=>False) w2 (set8 (w2.alloc (.cells [Value.int .u32 0,.int .u32 0,.int .u32 0,.int .u32 0,.int .u32 0,.int .u32 0,.int .u32 0,.int .u32 0].toArray 228 (0,0))) w2.heap.size ⟨a,b,c,d,e,f,g,h⟩):=Upd.alloc.trans set8_upd fun x hx e=>by omega
     have hs3:(set8 (w2.alloc (.cells [Value.int .u32 0,.int .u32 0,.int .u32 0,.int .u32 0,.int .u32 0,.int .u32 0,.int .u32 0,.int .u32 0].toArray 228 (0,0))) w2.heap.size ⟨a,b,c,d,e,f,g,h⟩).heap.size=w2.heap.size+1:=by rw [set8_size,size_alloc]
     unfold set8 vW at hbu3 hu23 hs3
     dsimp only at hbu3 hu23 hs3
     have hu03:=hu02.trans hu23 fun _ _ h=>h
     have hbs3:=hbs2.upd hu23 fun h=>h
     have hbr3:=hbr2.upd hu23 fun h=>h
     have hbw3:=hbw.upd hu23 fun h=>h
     generalize (((((((((w2.alloc (.cells [Value.int .u32 0,.int .u32 0,.int .u32 0,.int .u32 0,.int .u32 0,.int .u32 0,.int .u32 0,.int .u32 0].toArray 228 (0,0))).setCell ⟨w2.heap.size,0,none⟩ (.int .u32 (a.toNat:Int))).setCell ⟨w2.heap.size,1,none⟩ (.int .u32 (b.toNat:Int))).setCell ⟨w2.heap.size,2,none⟩ (.int .u32 (c.toNat:Int))).setCell ⟨w2.heap.size,3,none⟩ (.int .u32 (d.toNat:Int))).setCell ⟨w2.heap.size,4,none⟩ (.int .u32 (e.toNat:Int))).setCell ⟨w2.heap.size,5,none⟩ (.int .u32 (f.toNat:Int))).setCell ⟨w2.heap.size,6,none⟩ (.int .u32 (g.toNat:Int))).setCell ⟨w2.heap.size,7,none⟩ (.int .u32 (h.toNat:Int)))=w3 at *
     obtain ⟨u,hu⟩ : ∃u,u=w2.heap.size:=⟨_,rfl⟩
     rw [←hu] at hbu3 ⊢
     clear hu23 hbs2 hbr2 hbw
     refine loop_inv (I:=fun k st w'=>Bx (∃t,k+t=64∧st = [.int .i64 ((t:Nat):Int)]∧Blk w' u (rds B ⟨a,b,c,d,e,f,g,h⟩ t).row 228∧Upd (fun x=>x=u) w3 w') ⟨⟩) ?_ 64
       ⟨0,by omega,rfl,hbu3,Upd.refl⟩
     clear hbu3
     rintro k st w4 ⟨t,hk,rfl,hbu,hu34⟩
     have hu04:Upd (fun _=>False) w w4:=hu03.trans hu34 fun x hx e=>by omega
     have hbw4:=hbw3.upd hu34 fun h=>by omega
     by_cases hk0:k=0
     · obtain rfl:t=64:=by omega
       simp (config:={maxSteps:=3000000}) (disch:=omega) only [push_cast,Nat.reduceBEq,Nat.reduceEqDiff,Nat.reduceAdd,Nat.reduceMul,Nat.reduceSub,Nat.reduceLT,Int.reduceToNat,Int.reduceLT,Int.reduceLE,Int.reduceEq,Int.reduceAdd,Int.reduceSub,Int.reduceNeg,Int.reduceMul]
       have hu:Upd (fun x=>x=u) w4 w4:=Upd.refl
       have hblk:blkP B ⟨a,b,c,d,e,f,g,h⟩=addH (rds B ⟨a,b,c,d,e,f,g,h⟩ 64) ⟨a,b,c,d,e,f,g,h⟩:=rfl
       rw [hblk]
       have hbs4:=hbs3.upd hu34 fun h=>by omega
       have hbr4:=hbr3.upd hu34 fun h=>by omega
       generalize rds B ⟨a,b,c,d,e,f,g,h⟩ 64=r at *
       clear hblk hu34 hbw4
       rw [←addTo_zero (s:=⟨a,b,c,d,e,f,g,h⟩)] at hbu
       refine loop_inv (I:=fun k st w'=>Bx (∃t,k+t=8∧st = [.int .i64 ((t:Nat):Int)]∧Blk w' u (addTo r ⟨a,b,c,d,e,f,g,h⟩ t) 228∧Upd (fun x=>x=u) w4 w') ⟨⟩) ?_ 8
         ⟨0,by omega,rfl,hbu,hu⟩
       clear hbu hu
       rintro k st w5 ⟨t,hk,rfl,hbu,hu45⟩
       have hbs5:=hbs4.upd hu45 fun h=>by omega
       have hbr5:=hbr4.upd hu45 fun h=>by omega
       have hu05:Upd (fun _=>False) w w5:=hu04.trans hu45 fun x hx e=>by omega
       by_cases hk0:k=0
       · obtain rfl:t=8:=by omega
         rw [addTo_8] at hbu
         generalize addH r ⟨a,b,c,d,e,f,g,h⟩=v at *
         obtain ⟨a',b',c',d',e',f',g',h'⟩:=v
         unfold H8.row vW at hbu
         dsimp only at hbu
         simp (config:={maxSteps:=3000000}) (disch:=omega) only [push_cast,Nat.reduceBEq,Nat.reduceEqDiff,Nat.reduceAdd,Nat.reduceMul,Nat.reduceSub,Nat.reduceLT,Int.reduceToNat,Int.reduceLT,Int.reduceLE,Int.reduceEq,Int.reduceAdd,Int.reduceSub,Int.reduceNeg,Int.reduceMul,hbu.cell,hbr5.cell,hbr5.free]
         exact hu05.trans (set8_upd (s:=⟨a',b',c',d',e',f',g',h'⟩)) fun x hx e=>by omega
       have ht8:t<8:=by omega
       have htl:(t:Int)<8:=by omega
       have qs:=row_at (s:=⟨a,b,c,d,e,f,g,h⟩) ht8
       have qr:=addTo_at (r:=r) (s:=⟨a,b,c,d,e,f,g,h⟩) ht8
       have hset:=addTo_set (r:=r) (s:=⟨a,b,c,d,e,f,g,h⟩) ht8
       unfold vW at qr qs hset
       unfold H8.row vW at qs
       dsimp only at qs
       generalize H8.get r t=x at *
       generalize H8.get ⟨a,b,c,d,e,f,g,h⟩ t=y at *
       simp (config:={maxSteps:=3000000}) (disch:=omega) only [push_cast,Nat.reduceBEq,Nat.reduceEqDiff,Nat.reduceAdd,Nat.reduceMul,Nat.reduceSub,Nat.reduceLT,Int.reduceToNat,Int.reduceLT,Int.reduceLE,Int.reduceEq,Int.reduceAdd,Int.reduceSub,Int.reduceNeg,Int.reduceMul,hbu.cell,hbu.free,hbs5.cell,qs,qr]
       exact ⟨k-1,by omega,t+1,by omega,by simp,by rw [←hset]; exact (hbu.set t _).drew,(hu45.setIn rfl).drew'⟩
     have htl:(t:Int)<64:=by omega
     have qw:=wRow_at (B:=B) (t:=64) (i:=t) (by omega) (by omega)
     have qk:=(hK.upd hu04 fun h=>h).2 t (by omega)
     rw [show rds B ⟨a,b,c,d,e,f,g,h⟩ t=rds B ⟨a,b,c,d,e,f,g,h⟩ t from rfl] at hbu
     have hnext:rds B ⟨a,b,c,d,e,f,g,h⟩ (t+1)=rnd (kV t) (wS B t) (rds B ⟨a,b,c,d,e,f,g,h⟩ t):=rfl
     generalize rds B ⟨a,b,c,d,e,f,g,h⟩ t=r at *
     obtain ⟨a',b',c',d',e',f',g',h'⟩:=r
     unfold H8.row vW at hbu
     dsimp only at hbu
     unfold vW at qw qk
     simp (config:={maxSteps:=3000000}) (disch:=omega) only [push_cast,Nat.reduceBEq,Nat.reduceEqDiff,Nat.reduceAdd,Nat.reduceMul,Nat.reduceSub,Nat.reduceLT,Int.reduceToNat,Int.reduceLT,Int.reduceLE,Int.reduceEq,Int.reduceAdd,Int.reduceSub,Int.reduceNeg,Int.reduceMul,hbu.cell,hbu.free,hbw4.cell,qw,qk]
     refine Ok.use (rotr_ok (n:=6) (by decide) (by decide)) ?_
     rintro v _ ⟨rfl,rfl⟩
     simp (config:={maxSteps:=3000000}) (disch:=omega) only [push_cast,Nat.reduceBEq,Nat.reduceEqDiff,Nat.reduceAdd,Nat.reduceMul,Nat.reduceSub,Nat.reduceLT,Int.reduceToNat,Int.reduceLT,Int.reduceLE,Int.reduceEq,Int.reduceAdd,Int.reduceSub,Int.reduceNeg,Int.reduceMul,hbu.cell,hbu.free,hbw4.cell,qw,qk]
     refine Ok.use (rotr_ok (n:=11) (by decide) (by decide)) ?_
     rintro v _ ⟨rfl,rfl⟩
     simp (config:={maxSteps:=3000000}) (disch:=omega) only [push_cast,Nat.reduceBEq,Nat.reduceEqDiff,Nat.reduceAdd,Nat.reduceMul,Nat.reduceSub,Nat.reduceLT,Int.reduceToNat,Int.reduceLT,Int.reduceLE,Int.reduceEq,Int.reduceAdd,Int.reduceSub,Int.reduceNeg,Int.reduceMul,hbu.cell,hbu.free,hbw4.cell,qw,qk]
     refine Ok.use (rotr_ok (n:=25) (by decide) (by decide)) ?_
     rintro v _ ⟨rfl,rfl⟩
     simp (config:={maxSteps:=3000000}) (disch:=omega) only [push_cast,Nat.reduceBEq,Nat.reduceEqDiff,Nat.reduceAdd,Nat.reduceMul,Nat.reduceSub,Nat.reduceLT,Int.reduceToNat,Int.reduceLT,Int.reduceLE,Int.reduceEq,Int.reduceAdd,Int.reduceSub,Int.reduceNeg,Int.reduceMul,hbu.cell,hbu.free,hbw4.cell,qw,qk]
     refine Ok.use (rotr_ok (n:=2) (by decide) (by decide)) ?_
     rintro v _ ⟨rfl,rfl⟩
     simp (config:={maxSteps:=3000000}) (disch:=omega) only [push_cast,Nat.reduceBEq,Nat.reduceEqDiff,Nat.reduceAdd,Nat.reduceMul,Nat.reduceSub,Nat.reduceLT,Int.reduceToNat,Int.reduceLT,Int.reduceLE,Int.reduceEq,Int.reduceAdd,Int.reduceSub,Int.reduceNeg,Int.reduceMul,hbu.cell,hbu.free,hbw4.cell,qw,qk]
     refine Ok.use (rotr_ok (n:=13) (by decide) (by decide)) ?_
     rintro v _ ⟨rfl,rfl⟩
     simp (config:={maxSteps:=3000000}) (disch:=omega) only [push_cast,Nat.reduceBEq,Nat.reduceEqDiff,Nat.reduceAdd,Nat.reduceMul,Nat.reduceSub,Nat.reduceLT,Int.reduceToNat,Int.reduceLT,Int.reduceLE,Int.reduceEq,Int.reduceAdd,Int.reduceSub,Int.reduceNeg,Int.reduceMul,hbu.cell,hbu.free,hbw4.cell,qw,qk]
     refine Ok.use (rotr_ok (n:=22) (by decide) (by decide)) ?_
     rintro v _ ⟨rfl,rfl⟩
     simp (config:={maxSteps:=3000000}) (disch:=omega) only [push_cast,Nat.reduceBEq,Nat.reduceEqDiff,Nat.reduceAdd,Nat.reduceMul,Nat.reduceSub,Nat.reduceLT,Int.reduceToNat,Int.reduceLT,Int.reduceLE,Int.reduceEq,Int.reduceAdd,Int.reduceSub,Int.reduceNeg,Int.reduceMul,hbu.cell,hbu.free,hbw4.cell,qw,qk]
     have hb:=(set8_blk (s:=rnd (kV t) (wS B t) ⟨a',b',c',d',e',f',g',h'⟩) (cs:=[.int .u32 (a'.toNat:Int),.int .u32 (b'.toNat:Int),.int .u32 (c'.toNat:Int),.int .u32 (d'.toNat:Int),.int .u32 (e'.toNat:Int),.int .u32 (f'.toNat:Int),.int .u32 (g'.toNat:Int),.int .u32 (h'.toNat:Int)]) rfl hbu).drew.drew
     have hup:=(hu34.trans (set8_upd (b:=u) (s:=rnd (kV t) (wS B t) ⟨a',b',c',d',e',f',g',h'⟩)) fun _ _ h=>h).drew'.drew'
     have hrow:(rnd (kV t) (wS B t) ⟨a',b',c',d',e',f',g',h'⟩).row=(rds B ⟨a,b,c,d,e,f,g,h⟩ (t+1)).row:=by rw [hnext]
     rw [hrow] at hb
     clear hrow hnext
     unfold set8 rnd rndT1 rndT2 vW at hb hup
     dsimp only at hb hup
     exact ⟨k-1,by omega,t+1,by omega,by simp,hb,hup⟩
   obtain ⟨T15,h15⟩ : ∃T,T=t-15:=⟨_,rfl⟩
   obtain ⟨T2,h2⟩ : ∃T,T=t-2:=⟨_,rfl⟩
   obtain ⟨T7,h7⟩ : ∃T,T=t-7:=⟨_,rfl⟩
   obtain ⟨T16,h16⟩ : ∃T,T=t-16:=⟨_,rfl⟩
   have e15:(t:Int)-15=(T15:Int):=by omega
   have e2:(t:Int)-2=(T2:Int):=by omega
   have e7:(t:Int)-7=(T7:Int):=by omega
   have e16:(t:Int)-16=(T16:Int):=by omega
   have q15:=wRow_at (B:=B) (t:=t) (i:=T15) (by omega) (by omega)
   have q2:=wRow_at (B:=B) (t:=t) (i:=T2) (by omega) (by omega)
   have q7:=wRow_at (B:=B) (t:=t) (i:=T7) (by omega) (by omega)
   have q16:=wRow_at (B:=B) (t:=t) (i:=T16) (by omega) (by omega)
   have qw:=wRow_new (B:=B) (t:=t) (i:=t) (Nat.le_refl _) (by omega)
   have htl:(t:Int)<64:=by omega
   simp (config:={maxSteps:=3000000}) (disch:=omega) only [push_cast,Nat.reduceBEq,Nat.reduceEqDiff,Nat.reduceAdd,Nat.reduceMul,Nat.reduceSub,Nat.reduceLT,Int.reduceToNat,Int.reduceLT,Int.reduceLE,Int.reduceEq,Int.reduceAdd,Int.reduceSub,Int.reduceNeg,Int.reduceMul,e15,e2,e7,e16,q15,q2,q7,q16,qw,hbw.cell,hbw.free]
   refine Ok.use (rotr_ok (n:=7) (by decide) (by decide)) ?_
   rintro v _ ⟨rfl,rfl⟩
   simp (config:={maxSteps:=3000000}) (disch:=omega) only [push_cast,Nat.reduceBEq,Nat.reduceEqDiff,Nat.reduceAdd,Nat.reduceMul,Nat.reduceSub,Nat.reduceLT,Int.reduceToNat,Int.reduceLT,Int.reduceLE,Int.reduceEq,Int.reduceAdd,Int.reduceSub,Int.reduceNeg,Int.reduceMul,e15,e2,e7,e16,q15,q2,q7,q16,qw,hbw.cell,hbw.free]
   refine Ok.use (rotr_ok (n:=18) (by decide) (by decide)) ?_
   rintro v _ ⟨rfl,rfl⟩
   simp (config:={maxSteps:=3000000}) (disch:=omega) only [push_cast,Nat.reduceBEq,Nat.reduceEqDiff,Nat.reduceAdd,Nat.reduceMul,Nat.reduceSub,Nat.reduceLT,Int.reduceToNat,Int.reduceLT,Int.reduceLE,Int.reduceEq,Int.reduceAdd,Int.reduceSub,Int.reduceNeg,Int.reduceMul,e15,e2,e7,e16,q15,q2,q7,q16,qw,hbw.cell,hbw.free]
   refine Ok.use (rotr_ok (n:=17) (by decide) (by decide)) ?_
   rintro v _ ⟨rfl,rfl⟩
   simp (config:={maxSteps:=3000000}) (disch:=omega) only [push_cast,Nat.reduceBEq,Nat.reduceEqDiff,Nat.reduceAdd,Nat.reduceMul,Nat.reduceSub,Nat.reduceLT,Int.reduceToNat,Int.reduceLT,Int.reduceLE,Int.reduceEq,Int.reduceAdd,Int.reduceSub,Int.reduceNeg,Int.reduceMul,e15,e2,e7,e16,q15,q2,q7,q16,qw,hbw.cell,hbw.free]
   refine Ok.use (rotr_ok (n:=19) (by decide) (by decide)) ?_
   rintro v _ ⟨rfl,rfl⟩
   simp (config:={maxSteps:=3000000}) (disch:=omega) only [push_cast,Nat.reduceBEq,Nat.reduceEqDiff,Nat.reduceAdd,Nat.reduceMul,Nat.reduceSub,Nat.reduceLT,Int.reduceToNat,Int.reduceLT,Int.reduceLE,Int.reduceEq,Int.reduceAdd,Int.reduceSub,Int.reduceNeg,Int.reduceMul,e15,e2,e7,e16,q15,q2,q7,q16,qw,hbw.cell,hbw.free]
   have hbw':=(hbw.set t (vW (wS B t))).drew.drew
   rw [wRow_set (by omega),wRow_64 ht] at hbw'
   unfold sg1 sg0 vW at hbw'
   rw [←h15,←h2,←h7,←h16] at hbw'
   exact ⟨k-1,by omega,t+1,by omega,by omega,by simp,hbw',((hu2.setIn rfl).drew').drew'⟩
 have ht:t<16:=by omega
 obtain ⟨T0,h0⟩ : ∃T,T=4*t:=⟨_,rfl⟩
 obtain ⟨T1,h1⟩ : ∃T,T=4*t+1:=⟨_,rfl⟩
 obtain ⟨T2,h2⟩ : ∃T,T=4*t+2:=⟨_,rfl⟩
 obtain ⟨T3,h3⟩ : ∃T,T=4*t+3:=⟨_,rfl⟩
 have e0:4*(t:Int)=(T0:Int):=by omega
 have e1:(T0:Int)+1=(T1:Int):=by omega
 have e2:(T0:Int)+2=(T2:Int):=by omega
 have e3:(T0:Int)+3=(T3:Int):=by omega
 have q0:=lies_at (hli.upd hu02 hgb fun h=>h) (j:=T0) (by omega)
 have q1:=lies_at (hli.upd hu02 hgb fun h=>h) (j:=T1) (by omega)
 have q2:=lies_at (hli.upd hu02 hgb fun h=>h) (j:=T2) (by omega)
 have q3:=lies_at (hli.upd hu02 hgb fun h=>h) (j:=T3) (by omega)
 have qw:=wRow_new (B:=B) (t:=t) (i:=t) (Nat.le_refl _) (by omega)
 simp (config:={maxSteps:=3000000}) (disch:=omega) only [push_cast,Nat.reduceBEq,Nat.reduceEqDiff,Nat.reduceAdd,Nat.reduceMul,Nat.reduceSub,Nat.reduceLT,Int.reduceToNat,Int.reduceLT,Int.reduceLE,Int.reduceEq,Int.reduceAdd,Int.reduceSub,Int.reduceNeg,Int.reduceMul,e0,e1,e2,e3,q0,q1,q2,q3,hbw.cell,hbw.free,qw]
 have hbw':=(hbw.set t (vW (wS B t))).drew
 rw [wRow_set (by omega),wRow_16 ht] at hbw'
 unfold w0 byW vW at hbw'
 rw [←h1,←h2,←h3,←h0] at hbw'
 exact ⟨k-1,by omega,t+1,by omega,by simp,hbw',(hu2.setIn rfl).drew'⟩
open Go
set_option maxRecDepth 100000
open Go
set_option maxRecDepth 100000
open Go
set_option maxRecDepth 100000
def beL:Nat→Nat→List Int
 | 0,_=>[]
 | k+1,n=>(((n/256 ^ k)%256:Nat):Int) :: beL k n
theorem beL_length {n:Nat} : ∀{k:Nat},(beL k n).length=k
 | 0=>rfl
 | k+1=>by simp [beL,beL_length (k:=k)]
theorem beL_rng {n:Nat} : ∀{k:Nat},Rng (beL k n)
 | 0=>fun x hx=>by cases hx
 | k+1=>fun x hx=>by
   rcases List.mem_cons.1 hx with h | h
   · subst h; have:=Nat.mod_lt (n/256 ^ k) (show 0<256 by decide); omega
   · exact beL_rng x h
def zerosN (n:Nat):Nat:=(119-n%64)%64
def padP (b:List Int):List Int:=b ++ [128] ++ List.replicate (zerosN b.length) 0 ++ beL 8 (8*b.length)
theorem padP_length {b:List Int}:(padP b).length=b.length+1+zerosN b.length+8:=by simp [padP,beL_length]; omega
theorem tmod64 {m:Nat}:(m:Int).tmod 64=((m%64:Nat):Int):=by rw [show (64:Int)=((64:Nat):Int) from rfl,←Int.ofNat_tmod]
theorem shr_byte {n k:Nat} (h:n<2 ^ 64) (hk:k<8):IntKind.u8.wrap ((n:Int).fdiv (2 ^ (min (8*k) IntKind.u64.bits)))=(((n/256 ^ k)%256:Nat):Int):=by
 rw [show min (8*k) IntKind.u64.bits=8*k from Nat.min_eq_left (by show _≤64; omega),Int.fdiv_eq_ediv_of_nonneg _ (Int.le_of_lt (Int.pow_pos (by decide)))]
 have e:(2:Int) ^ (8*k)=((256 ^ k:Nat):Int):=by rw [Int.pow_mul]; rfl
 rw [e,←Int.natCast_ediv,u8_wrap_nat]
structure Fr (w0 w : World) (v : Value) (l : List Int) : Prop where
 own:Bow w v l
 new : ∀g,v.ownBlock=some g→w0.heap.size≤g
 upd:Upd (fun _=>False) w0 w
theorem Fr.quiet {w0 w w':World} {v:Value} {l:List Int} (h:Fr w0 w v l) (hu:Upd (fun _=>False) w w'):Fr w0 w' v l:=⟨h.own.upd hu (fun _ _ h=>h),h.new,h.upd.trans hu fun _ _ h=>h⟩
theorem Fr.over {w0 w w':World} {v:Value} {l:List Int} {G:Nat→Prop} (h:Fr w0 w v l) (hu:Upd G w w') (h1 : ∀g,v.ownBlock=some g→¬G g) (h2 : ∀b,G b→w0.heap.size≤b):Fr w0 w' v l:=
 ⟨h.own.upd hu h1,h.new,h.upd.trans hu fun b hb hg=>by have:=h2 b hg; omega⟩
theorem Fr.step {w0 w:World} {v:Value} {l m:List Int} (h:Fr w0 w v l) {v':Value} {w':World} (h1:Bow w' v' (l ++ m)) (h2:Upd (fun b=>v.ownBlock=some b) w w') (h3 : ∀g,v'.ownBlock=some g→v.ownBlock=some g∨(w.heap.size≤g∧g<w'.heap.size)):Fr w0 w' v' (l ++ m):=by
 have hs:=h.upd.size
 refine ⟨h1,fun g hg=>?_,h.upd.trans h2 fun b hb hg=>by have:=h.new b hg; omega⟩
 rcases h3 g hg with h4 | h4
 · exact h.new g h4
 · omega
theorem Fr.app {w0 w:World} {v:Value} {l:List Int} (h:Fr w0 w v l) {F:Nat→Prop} {y:Value} {m:List Int} (hy:SlB w F y m) (hlen:l.length+m.length≤1000000000) {ty:TypeId}
   {K:Value×World→Prop} (hk : ∀v' w',Fr w0 w' v' (l ++ m)→Upd (fun b=>w0.heap.size≤b) w w'→K (v',w')) :
   Okk (appS Tryz.prog #[55,55] ty v y w) K:=
 app_by h.own hy (by omega) fun v' w' h1 h2 h3=>hk v' w' (h.step h1 h2 h3) (h2.mono fun b _ hb=>h.new b hb)
theorem Fr.push {w0 w:World} {v:Value} {l:List Int} (h:Fr w0 w v l) {x:Int} (hlen:l.length<1000000000) {ty:TypeId}
   {K:Value×World→Prop} (hk : ∀v' w',Fr w0 w' v' (l ++ [x])→Upd (fun b=>w0.heap.size≤b) w w'→K (v',w')) :
   Okk (appS Tryz.prog #[55,55] ty v (.slice (some ⟨w.heap.size,0,none⟩) 1 1) (w.alloc (.cells [.int .u8 x].toArray 5 (0,0)))) K:=
 (h.quiet Upd.alloc).app (slb_one (F:=fun _=>False) fun h=>h) hlen fun v' w' h1 h2=>hk v' w' h1 ((Upd.alloc (F:=fun b=>w0.heap.size≤b)).trans h2 fun _ _ h=>h)
theorem Fr.nil {w:World}:Fr w w (.slice none 0 0) []:=⟨Bow.nil,by simp [Value.ownBlock],Upd.refl⟩
theorem Fr.empty {w:World}:Fr w (w.alloc (.cells #[] 5 (0,0))) (.slice (some ⟨w.heap.size,0,none⟩) 0 0) []:=
 ⟨Bow.empty (Blk.new (cs:=[])),fun g hg=>by have:=ownB hg; omega,Upd.alloc⟩
theorem Fr.slc {w0 w:World} {v:Value} {l:List Int} (h:Fr w0 w v l):SlC w (fun b=>b<w0.heap.size) v l:=h.own.slc fun g hg hb=>by have:=h.new g hg; omega
theorem Fr.old {w0 w:World} {v:Value} {l m:List Int} {F:Nat→Prop} {y:Value} (h:Fr w0 w v l) (hy:SlB w0 F y m):SlB w F y m:=hy.upd h.upd fun _ h=>h.elim
theorem zeros_not {n t:Nat} (h:t<zerosN n):(n+1+t)%64≠56:=by unfold zerosN at h; omega
theorem zeros_at {n:Nat}:(n+1+zerosN n)%64=56:=by unfold zerosN; omega
theorem beL_take {n k:Nat} : ∀{j:Nat},j<k→(beL k n).take (j+1)=(beL k n).take j ++ [(((n/256 ^ (k-1-j))%256:Nat):Int)]:=by
 induction k with
 | zero=>intro j h; omega
 | succ k ih=>
   intro j h
   cases j with
   | zero=>simp [beL]
   | succ j=>
     have:=ih (j:=j) (by omega)
     rw [beL,List.take_succ_cons,List.take_succ_cons,this,show k+1-1-(j+1)=k-1-j by omega]
     rfl
end Go.Proofs.YtpgigkceoolgeaaGreatDoor.Fd
