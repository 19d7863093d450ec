import Derived.Test.YtpgigkceoolgeaaGreatDoorY23
set_option linter.all false
namespace Go.Proofs.YtpgigkceoolgeaaGreatDoor.Fd
open Go
set_option maxRecDepth 100000
open Go
set_option maxRecDepth 100000
def confB (b:Bas):List Cmd:=((b.steps.getLast?).map fun s=>s.c.conf).getD []
theorem confB_nil {b:Bas} (h:b.steps = []):confB b = []:=by unfold confB; rw [h]; rfl
theorem confB_at {b:Bas} {s:Crt} (h:b.steps[b.steps.length-1]? =some s):confB b=s.c.conf:=by unfold confB; rw [List.getLast?_eq_getElem?,h]; rfl
theorem conf_cell {w:World} {F:Nat→Prop} {a:Option Addr} {n c:Nat} {l:List Crt} (h:SlD eT w F (.slice a n c) l) {i:Nat} {s:Crt} (hs:l[i]? =some s) : ∃(b o:Nat) (v:Value),a=some ⟨b,o,none⟩∧w.cell? ⟨b,o+i*9+5,none⟩=some v∧SlD eC w F v s.c.conf∧b<w.heap.size:=by
 obtain ⟨b,o,c',cs,hv,hb,hF,hC,hcell⟩:=h.at_ hs
 injection hv with e1 _ _
 obtain ⟨ks,av,rfl,hk,ha,hw⟩:=hC
 obtain ⟨rv,bv,fv,ov,rfl,h1,h2,h3,h4,h5⟩:=hk
 have es:eT.s=9:=rfl
 have:=hcell 5 (by decide)
 rw [es] at this
 exact ⟨b,o,fv,e1,this,h3,hb⟩
theorem eB_parts {w:World} {F:Nat→Prop} {b:Bas} {cs:List Value} (h:eB.C w F b cs) : ∃(sa:Option Addr) (sc:Nat) (ta:Option Addr) (tc:Nat),cs = [.slice sa b.steps.length sc,.slice ta b.taken.length tc]∧SlD eT w F (.slice sa b.steps.length sc) b.steps∧SlD eC w F (.slice ta b.taken.length tc) b.taken∧BasW b:=by
 obtain ⟨sv,tv,rfl,h1,h2,h3⟩:=h
 obtain ⟨sa,sc,rfl,_⟩:=h1.form
 obtain ⟨ta,tc,rfl,_⟩:=h2.form
 exact ⟨sa,sc,ta,tc,rfl,h1,h2,h3⟩
set_option maxHeartbeats 2000000 in
theorem conf_ok {w:World} {F:Nat→Prop} {b:Bas} {cs:List Value} (h:eB.C w F b cs) (hbl:b.steps.length≤1000000):Ok (den Tryz.prog 70 #[.agg cs.toArray] w) fun u w'=>SlD eC w' F u (confB b)∧Upd NoB w w':=by
 obtain ⟨sa,sc,ta,tc,rfl,h1,h2,h3⟩:=eB_parts h
 refine den_ok (args:=[.agg #[.slice sa b.steps.length sc,.slice ta b.taken.length tc]]) rs70 Tryz.func70 rfl mixed in70 ok70 rfl ?_
 rw [W_seq]
 generalize hKs:KS _ _ _ _ _=Ks
 simp (disch:=omega) only [push_cast,seval]
 have b1:=Blk.new (w:=w) (cs:=[.slice sa b.steps.length sc,.slice ta b.taken.length tc]) (E:=35)
 have u1:Upd NoB w (w.alloc (.cells [.slice sa b.steps.length sc,.slice ta b.taken.length tc].toArray 35 (0,0))):=Upd.alloc
 generalize w.alloc (.cells [.slice sa b.steps.length sc,.slice ta b.taken.length tc].toArray 35 (0,0))=w1 at *
 have k1:=h1.go (F':=F) eT_ok u1 fun _ _ h=>h.elim (fun h=>h.elim) id
 subst hKs
 rw [KS_nor]
 by_cases h0:b.steps.length=0
 · have e0:b.steps = []:=List.eq_nil_of_length_eq_zero h0
   have h0':((b.steps.length:Int)=0)=True:=eq_true (by omega)
   simp (maxSteps:=3000000) (disch:=omega) only [push_cast,seval,b1.cell,h0']
   rw [confB_nil e0]
   exact ⟨SlD.nil,u1⟩
 obtain ⟨m,hm⟩ : ∃m,b.steps.length=m+1:=⟨b.steps.length-1,by omega⟩
 have hx:=List.getElem?_eq_getElem (l:=b.steps) (i:=m) (by omega)
 generalize b.steps[m]=s at *
 obtain ⟨p,o,v,rfl,hc,hv,_⟩:=conf_cell k1 hx
 obtain ⟨va,vc,rfl,_⟩:=hv.form
 have ef:confB b=s.c.conf:=confB_at (by rw [hm,Nat.add_sub_cancel]; exact hx)
 have h0' : ¬((b.steps.length:Int)=0):=by omega
 have em:(b.steps.length:Int)-1=m:=by omega
 have em2:((m:Int)).toNat=m:=by omega
 simp (maxSteps:=3000000) (disch:=omega) only [push_cast,seval,b1.cell,h0',em,em2,hc]
 rw [ef]
 exact ⟨hv,u1⟩
theorem eN_parts {w:World} {F:Nat→Prop} {n:Con} {cs:List Value} (h:eN.C w F n cs) : ∃(xa:Option Addr) (xc:Nat) (sa:Option Addr) (sc:Nat) (ta:Option Addr) (tc:Nat),cs = [.slice xa n.st.length xc,.slice sa n.bas.steps.length sc,.slice ta n.bas.taken.length tc,.int .i64 n.life]∧SlD eC w F (.slice xa n.st.length xc) n.st∧eB.C w F n.bas [.slice sa n.bas.steps.length sc,.slice ta n.bas.taken.length tc]∧ConW n:=by
 obtain ⟨sv,b1,b2,rfl,h1,h2,h3⟩:=h
 obtain ⟨sa,sc,ta,tc,e,_⟩:=eB_parts h2
 injection e with e1 e
 injection e with e2 _
 subst e1
 subst e2
 obtain ⟨xa,xc,rfl,_⟩:=h1.form
 exact ⟨xa,xc,sa,sc,ta,tc,rfl,h1,h2,h3⟩
def F2 (F:Nat→Prop) (w:World) (b:Nat):Prop:=(F b∧Old w b)∨b=w.heap.size∨b=w.heap.size+1
def joinN (n:Con) (xs:List Cmd):Con:={n with st:=ofC (n.st ++ xs)}
def rebN (n:Con) (b:Bas):Con:={joinN n b.taken with bas:=if (confB n.bas).length<(confB b).length then b else n.bas}
theorem ConW.join {n:Con} {xs:List Cmd} (h:ConW n) (h1 : ∀x,x∈n.st→CmdS x) (h2 : ∀x,x∈xs→CmdS x):ConW (joinN n xs):=by
 have hh : ∀x,x∈n.st ++ xs→CmdS x:=fun x hx=>(List.mem_append.1 hx).elim (h1 x) (h2 x)
 exact ⟨fun x hx=>(hh x ((ofC_mem hh).1 hx)).1,h.2⟩
set_option maxHeartbeats 4000000 in
theorem cjoin_ok {w:World} {F G:Nat→Prop} {n:Con} {cs:List Value} {v:Value} {xs:List Cmd} (hc:eN.C w F n cs) (hv:SlD eC w G v xs) (h1 : ∀x,x∈n.st→CmdS x) (h2 : ∀x,x∈xs→CmdS x) (hl:n.st.length+xs.length≤1000000) :
   Ok (den Tryz.prog 67 #[.agg cs.toArray,v] w) fun u w'=>∃cs',u = .agg cs'.toArray∧eN.C w' (fun b=>F b∧Old w b) (joinN n xs) cs'∧Upd NoB w w':=by
 obtain ⟨xa,xc,sa,sc,ta,tc,rfl,k1,k2,k3⟩:=eN_parts hc
 obtain ⟨va,vc,rfl,_⟩:=hv.form
 refine den_okC1 (args:=[.agg #[.slice xa n.st.length xc,.slice sa n.bas.steps.length sc,.slice ta n.bas.taken.length tc,.int .i64 n.life],.slice va xs.length vc]) 4 90 Tryz.func67 rfl mixed in67 ok67 rfl ?_
 rw [W_seq]
 generalize hKs:KS _ _ _ _ _=Ks
 simp (disch:=omega) only [push_cast,seval,zer_con]
 have c2:=(Blk.new (w:=w) (cs:=[.slice xa n.st.length xc,.slice sa n.bas.steps.length sc,.slice ta n.bas.taken.length tc,.int .i64 n.life]) (E:=90)).alloc (.cells #[Value.slice none 0 0,Value.slice none 0 0,Value.slice none 0 0,Value.int .i64 0] 90 (0,0))
 have z2:=Blk.new (w:=w.alloc (.cells #[.slice xa n.st.length xc,.slice sa n.bas.steps.length sc,.slice ta n.bas.taken.length tc,.int .i64 n.life] 90 (0,0))) (cs:=[.slice none 0 0,.slice none 0 0,.slice none 0 0,.int .i64 0]) (E:=90)
 have u2:Upd NoB w ((w.alloc (.cells #[.slice xa n.st.length xc,.slice sa n.bas.steps.length sc,.slice ta n.bas.taken.length tc,.int .i64 n.life] 90 (0,0))).alloc (.cells #[Value.slice none 0 0,Value.slice none 0 0,Value.slice none 0 0,Value.int .i64 0] 90 (0,0))):=Upd.alloc.alloc'
 rw [size_alloc] at z2
 have g2:=eN_ok.go (F':=F2 F w) hc u2 fun b hb h=>h.elim (fun h=>h.elim) fun h=>h.elim (fun h=>h.1) fun h=>by omega
 have hv2:=hv.q eC_ok u2
 generalize (w.alloc (.cells #[.slice xa n.st.length xc,.slice sa n.bas.steps.length sc,.slice ta n.bas.taken.length tc,.int .i64 n.life] 90 (0,0))).alloc (.cells #[Value.slice none 0 0,Value.slice none 0 0,Value.slice none 0 0,Value.int .i64 0] 90 (0,0))=w2 at *
 have s2:w.heap.size+1<w2.heap.size:=z2.lt
 subst hKs
 rw [KS_nor]
 rw [W_seq]
 generalize hKs:KS _ _ _ _ _=Ks
 simp (disch:=omega) only [push_cast,seval,c2.cell]
 refine Ok.use (join_ok (k1.q eC_ok u2) hv2 h1 h2 hl) ?_
 rintro u w3 ⟨r3,u3⟩
 obtain ⟨ra,rc,rfl⟩:=r3.form
 have c3:=c2.upd u3 fun h=>h
 have z3:=z2.upd u3 fun h=>h
 have r3':SlD eC w3 (F2 F w) (.slice ra (ofC (n.st ++ xs)).length rc) (ofC (n.st ++ xs)):=(r3.slD eC_ok).go eC_ok (Upd.refl (F:=NoB)) fun b _ h=>h.elim (fun h=>h.elim) fun h=>by
   show b<w2.heap.size
   rcases h with h | h
   · exact Nat.lt_of_lt_of_le h.2 u2.size
   · omega
 obtain ⟨_,_,_,e4,_,g4,_⟩:=g2
 injection e4 with q1 e4
 injection e4 with q2 e4
 injection e4 with q5 _
 subst q1
 subst q2
 subst q5
 have k4:eB.C w3 (F2 F w) n.bas [.slice sa n.bas.steps.length sc,.slice ta n.bas.taken.length tc]:=eB_ok.go g4 u3 fun _ _ h=>h.elim (fun h=>h.elim) id
 simp (disch:=omega) only [push_cast,seval,c3.cell,c3.free]
 have c4:=c3.set 0 (.slice ra (ofC (n.st ++ xs)).length rc)
 have u4:Upd (fun b=>b=w.heap.size) w3 (w3.setCell ⟨w.heap.size,0,none⟩ (.slice ra (ofC (n.st ++ xs)).length rc)):=Upd.set rfl
 simp only [List.set_cons_succ,List.set_cons_zero] at c4
 have z4:=z3.upd u4 (by omega)
 have r4:SlD eC _ (F2 F w) (.slice ra (ofC (n.st ++ xs)).length rc) (ofC (n.st ++ xs)):=r3'.go eC_ok u4 fun b _ h=>h.elim (fun h=>.inr (.inl h)) id
 have k5:=eB_ok.go (F':=F2 F w) k4 u4 fun b _ h=>h.elim (fun h=>.inr (.inl h)) id
 have v4:Upd NoB w (w3.setCell ⟨w.heap.size,0,none⟩ (.slice ra (ofC (n.st ++ xs)).length rc)):=(u2.trans u3 fun _ _ h=>h).trans u4 fun b hb h=>by omega
 generalize w3.setCell ⟨w.heap.size,0,none⟩ (.slice ra (ofC (n.st ++ xs)).length rc)=w4 at *
 subst hKs
 rw [KS_nor]
 have z5:=z4.setRow (cs':=[.slice ra (ofC (n.st ++ xs)).length rc,.slice sa n.bas.steps.length sc,.slice ta n.bas.taken.length tc,.int .i64 n.life])
 have ks : [Value.slice ra (ofC (n.st ++ xs)).length rc,.slice sa n.bas.steps.length sc,.slice ta n.bas.taken.length tc,.int .i64 n.life].length=4:=rfl
 simp (maxSteps:=3000000) (disch:=omega) only [push_cast,seval,ld_blk (P:=Tryz.prog) (t:=90) c4 (by kernel_rfl) (by kernel_rfl),st_blk (P:=Tryz.prog) (t:=90) (cs':=[.slice ra (ofC (n.st ++ xs)).length rc,.slice sa n.bas.steps.length sc,.slice ta n.bas.taken.length tc,.int .i64 n.life]) z4 (by kernel_rfl) rfl (fun u hu=>by simp at hu; rcases hu with rfl | rfl | rfl | rfl <;> rfl),ld_blk (P:=Tryz.prog) (t:=90) z5 (by kernel_rfl) (by kernel_rfl)]
 have u6:Upd (fun b=>b=w.heap.size+1) w4 (w4.setRow (w.heap.size+1) #[.slice ra (ofC (n.st ++ xs)).length rc,.slice sa n.bas.steps.length sc,.slice ta n.bas.taken.length tc,.int .i64 n.life]):=Upd.setRow rfl
 refine ⟨_,rfl,⟨_,_,_,rfl,r4.go eC_ok u6 fun b _ h=>h.elim (fun h=>.inr (.inr h)) .inl,eB_ok.go k5 u6 fun b _ h=>h.elim (fun h=>.inr (.inr h)) .inl,k3.join h1 h2⟩,v4.trans u6 fun b hb h=>by omega⟩
open Go
set_option maxRecDepth 100000
theorem SlD.row {α:Type} {e:Elt α} {w:World} {F:Nat→Prop} {a:Option Addr} {n c:Nat} {xs:List α} (h:SlD e w F (.slice a n c) xs) {i:Nat} {x:α} (hx:xs[i]? =some x) :
   ∃(b o:Nat) (cs:List Value),a=some ⟨b,o,none⟩∧b<w.heap.size∧e.C w F x cs∧∀{w':World},Upd NoB w w'→∀r,r<e.s→w'.cell? ⟨b,o+i*e.s+r,none⟩=cs[r]? :=by
 obtain ⟨b,o,xc,xcs,hvv,hxl,_,hcx,hcell⟩:=h.at_ hx
 injection hvv with e1 _ e3
 exact ⟨b,o,xcs,e1,hxl,hcx,fun u r hr=>by rw [World.cell?_of_block (u.block b hxl fun h=>h)]; exact hcell r hr⟩
set_option maxHeartbeats 8000000 in
theorem rkEncode_ok {w:World} {F:Nat→Prop} {c:Clm} {cs:List Value} (hc:eK.C w F c cs) (hl:(encK c).length≤80000000) :
   Ok (den Tryz.prog 99 #[.agg cs.toArray] w) fun u w'=>Bow w' u (encK c)∧(∀g,u.ownBlock=some g→w.heap.size≤g)∧Upd NoB w w':=by
 refine den_ok (args:=[.agg cs.toArray]) rs99 Tryz.func99 rfl mixed in99 ok99 rfl ?_
 have hlen:=encK_len (c:=c)
 obtain ⟨rv,bv,fv,ov,rfl,hrs,hbs,hfs,hos,i1,i2,i3,i4,_,hrw,_,_⟩:=hc
 obtain ⟨ra,rc,rfl,_⟩:=hrs.form
 obtain ⟨ba,bc,rfl,_⟩:=hbs.form
 obtain ⟨fa,fc,rfl,_⟩:=hfs.form
 obtain ⟨oa,oc,rfl⟩:=hos.form
 rw [W_seq]
 generalize hKs:KS _ _ _ _ _=Ks
 simp (disch:=omega) only [push_cast,seval]
 have b0:=Blk.new (w:=w) (cs:=[.int .i64 c.rr,.int .i64 c.rl,.int .i64 c.rn,.slice ra c.reads.length rc,.slice ba c.base.length bc,.slice fa c.conf.length fc,.int .i64 c.count,.slice oa c.root.length oc]) (E:=85)
 have u0:Upd NoB w (w.alloc (.cells [.int .i64 c.rr,.int .i64 c.rl,.int .i64 c.rn,.slice ra c.reads.length rc,.slice ba c.base.length bc,.slice fa c.conf.length fc,.int .i64 c.count,.slice oa c.root.length oc].toArray 85 (0,0))):=Upd.alloc
 generalize w.alloc (.cells [.int .i64 c.rr,.int .i64 c.rl,.int .i64 c.rn,.slice ra c.reads.length rc,.slice ba c.base.length bc,.slice fa c.conf.length fc,.int .i64 c.count,.slice oa c.root.length oc].toArray 85 (0,0))=w0 at *
 have cc : ∀{w':World},Upd NoB w0 w'→∀j,w'.cell? ⟨w.heap.size,j,none⟩ = [Value.int .i64 c.rr,.int .i64 c.rl,.int .i64 c.rn,.slice ra c.reads.length rc,.slice ba c.base.length bc,.slice fa c.conf.length fc,.int .i64 c.count,.slice oa c.root.length oc][j]? :=fun u j=>(b0.upd u fun h=>h).cell j
 have s0:=u0.size
 subst hKs
 rw [KS_nor]
 rw [W_seq]
 generalize hKs:KS _ _ _ _ _=Ks
 simp (disch:=omega) only [push_cast,seval]
 refine Ok.use (rText_ok (w:=w0) (F:=NoB) (y:=.slice none 0 0) (b:=[]) ⟨none,0,rfl,fun h=>absurd rfl h⟩ (s:=⟨#[99,108,97,105,109]⟩) (by decide) (by decide)) ?_
 rintro u w1 ⟨q1,f1,u1⟩
 have ecl:strL ⟨#[99,108,97,105,109]⟩=claimL:=rfl
 rw [ecl,List.nil_append] at q1
 have hel:(encB claimL).length=6:=by rw [encB,encU_small (by decide)]; rfl
 obtain ⟨xa1,xc1,rfl,_⟩:=q1.form
 simp (maxSteps:=3000000) (disch:=omega) only [push_cast,seval]
 subst hKs
 rw [KS_nor]
 have v1:=u1.drew'
 rw [W_seq]
 generalize hKs:KS _ _ _ _ _=Ks
 simp (maxSteps:=3000000) (disch:=omega) only [push_cast,seval,cc v1]
 refine Ok.use (rInt_ok (q1.q Upd.drew) i1 (by omega)) ?_
 rintro u w2 ⟨q2,f2,u2⟩
 obtain ⟨xa2,xc2,rfl,_⟩:=q2.form
 have v2:=v1.trans u2 fun _ _ h=>h
 simp (maxSteps:=3000000) (disch:=omega) only [push_cast,seval,↓nthK_zero,↓nthK_succ,cc v1,cc v2]
 refine Ok.use (rInt_ok (q2.q Upd.refl) i2 (by simp only [List.length_append]; omega)) ?_
 rintro u w3 ⟨q3,f3,u3⟩
 obtain ⟨xa3,xc3,rfl,_⟩:=q3.form
 have v3:=v2.trans u3 fun _ _ h=>h
 simp (maxSteps:=3000000) (disch:=omega) only [push_cast,seval,↓nthK_zero,↓nthK_succ,cc v1,cc v2,cc v3]
 refine Ok.use (rInt_ok (q3.q Upd.refl) i3 (by simp only [List.length_append]; omega)) ?_
 rintro u w4 ⟨q4,f4,u4⟩
 obtain ⟨xa4,xc4,rfl,_⟩:=q4.form
 have v4:=v3.trans u4 fun _ _ h=>h
 simp (maxSteps:=3000000) (disch:=omega) only [push_cast,seval,↓nthK_zero,↓nthK_succ,cc v1,cc v2,cc v3,cc v4]
 have hwl:c.reads.length≤(c.reads.flatMap encR).length:=flat_ge fun x=>by have:=encU_pos x.tag.length; simp [encR,encB]; omega
 subst hKs
 rw [KS_nor]
 rw [W_seq]
 generalize hKs:KS _ _ _ _ _=Ks
 simp (disch:=omega) only [push_cast,seval,cc v4]
 rw [u64_len (by omega)]
 refine Ok.use (rUint_ok (q4.q Upd.refl) (n:=c.reads.length) (by omega) (by simp only [List.length_append]; omega)) ?_
 rintro u w5 ⟨q5,f5,u5⟩
 obtain ⟨xa5,xc5,rfl,_⟩:=q5.form
 have v5:=v4.trans u5 fun _ _ h=>h
 simp (maxSteps:=3000000) (disch:=omega) only [push_cast,seval]
 subst hKs
 rw [KS_nor]
 simp (maxSteps:=3000000) (disch:=omega) only [push_cast,seval]
 generalize hL:encB claimL ++ encI c.rr ++ encI c.rl ++ encI c.rn ++ encU c.reads.length=L at *
 have hLl:L.length=6+(encI c.rr).length+(encI c.rl).length+(encI c.rn).length+(encU c.reads.length).length:=by rw [←hL]; simp only [List.length_append,hel]
 refine loop_inv (I:=fun k st w'=>Bx (∃(i:Nat) (u:Value),k+i=c.reads.length∧st = [u,.int .i64 (i:Int)]∧Bow w' u (L ++ (c.reads.take i).flatMap encR)∧(∀g,u.ownBlock=some g→w.heap.size≤g)∧Upd NoB w0 w') ⟨⟩) ?_ c.reads.length ⟨0,_,rfl,rfl,by simpa using q5,fun g hg=>by
   have:=f5 g hg
   have:=v4.size
   omega,v5⟩
 rintro k st w6 ⟨i,u,hk,rfl,q6,f6,v6⟩
 obtain ⟨xa6,xc6,rfl,_⟩:=q6.form
 by_cases hk0:k=0
 · obtain rfl:i=c.reads.length:=by omega
   rw [List.take_length] at q6 f6
   rw [List.take_length]
   simp (maxSteps:=3000000) (disch:=omega) only [push_cast,seval,↓nthK_zero,↓nthK_succ,cc v6]
   have v7:=v6.drew'
   refine Ok.use (rcmds41_ok (q6.q Upd.drew) (hbs.q eC_ok (u0.trans v7 fun _ _ h=>h)) (by simp only [List.length_append]; omega)) ?_
   rintro u w8 ⟨q8,f8,u8⟩
   obtain ⟨xa8,xc8,rfl,_⟩:=q8.form
   have v8:=v7.trans u8 fun _ _ h=>h
   simp (maxSteps:=3000000) (disch:=omega) only [push_cast,seval,↓nthK_zero,↓nthK_succ,cc v6,cc v7,cc v8]
   refine Ok.use (rcmds41_ok (q8.q Upd.refl) (hfs.q eC_ok (u0.trans v8 fun _ _ h=>h)) (by simp only [List.length_append]; omega)) ?_
   rintro u w9 ⟨q9,f9,u9⟩
   obtain ⟨xa9,xc9,rfl,_⟩:=q9.form
   have v9:=v8.trans u9 fun _ _ h=>h
   have v9':=v9.drew'
   simp (maxSteps:=3000000) (disch:=omega) only [push_cast,seval,↓nthK_zero,↓nthK_succ,cc v6,cc v7,cc v8,cc v9,cc v9']
   refine Ok.use (rInt_ok (q9.q Upd.drew) i4 (by simp only [List.length_append]; omega)) ?_
   rintro u w10 ⟨q10,f10,u10⟩
   obtain ⟨xa10,xc10,rfl,_⟩:=q10.form
   have v10:=v9'.trans u10 fun _ _ h=>h
   have hlr:(encB c.root).length=(encU c.root.length).length+c.root.length:=by simp [encB]
   simp (maxSteps:=3000000) (disch:=omega) only [push_cast,seval,↓nthK_zero,↓nthK_succ,cc v6,cc v7,cc v8,cc v9,cc v9',cc v10]
   refine Ok.use (rBytes_ok (q10.q Upd.refl) (hos.q (u0.trans v10 fun _ _ h=>h)) (by simp only [List.length_append]; omega) (by omega)) ?_
   rintro u w11 ⟨q11,f11,u11⟩
   obtain ⟨xa11,xc11,rfl,_⟩:=q11.form
   have v11:=v10.trans u11 fun _ _ h=>h
   simp (maxSteps:=3000000) (disch:=omega) only [push_cast,seval,↓nthK_zero,↓nthK_succ,cc v6,cc v7,cc v8,cc v9,cc v9',cc v10,cc v11]
   have e:L ++ c.reads.flatMap encR ++ encL c.base ++ encL c.conf ++ encI c.count ++ encB c.root=encK c:=by rw [←hL]; rfl
   rw [e] at q11 f11 ⊢
   exact ⟨q11,fun g hg=>by
     have:=f11 g hg
     have:=v10.size
     omega,u0.trans v11 fun _ _ h=>h⟩
 have hi:i<c.reads.length:=by omega
 have hi':(i:Int)<(c.reads.length:Int):=by omega
 have hx:=List.getElem?_eq_getElem hi
 generalize c.reads[i]=x at hx
 have hle:=flat_len_at (f:=encR) hx
 have htk:=flat_take (f:=encR) hx
 have hrl:(encR x).length=(encI x.client).length+(encI x.number).length+(encB x.tag).length:=by simp only [encR,List.length_append]
 obtain ⟨g,o,xs,rfl,hg,hx1,hx2⟩:=(hrs.q eR_ok (u0.trans v6 fun _ _ h=>h)).row hx
 obtain ⟨tv,rfl,hx3,hx4,hx5,hx6⟩:=hx1
 obtain ⟨ta,tc,rfl⟩:=hx3.form
 have es:eR.s=3:=rfl
 rw [es] at hx2
 have r0 : ∀{w':World},Upd NoB w6 w'→w'.cell? ⟨g,o+i*3,none⟩=some (.int .i64 x.client):=fun u=>hx2 u 0 (by decide)
 have r1 : ∀{w':World},Upd NoB w6 w'→w'.cell? ⟨g,o+i*3+1,none⟩=some (.int .i64 x.number):=fun u=>hx2 u 1 (by decide)
 have r2 : ∀{w':World},Upd NoB w6 w'→w'.cell? ⟨g,o+i*3+2,none⟩=some (.slice ta x.tag.length tc):=fun u=>hx2 u 2 (by decide)
 have z7:Upd NoB w6 w6.drew:=Upd.drew
 have v7:=v6.drew'
 simp (maxSteps:=3000000) (disch:=omega) only [push_cast,seval,↓nthK_zero,↓nthK_succ,hi',cc v6,cc v7,r0 z7,r1 z7,r2 z7]
 refine Ok.use (rInt_ok (q6.q Upd.drew) hx4 (by simp only [List.length_append]; omega)) ?_
 rintro u w8 ⟨q8,f8,u8⟩
 obtain ⟨xa8,xc8,rfl,_⟩:=q8.form
 have z8:=z7.trans u8 fun _ _ h=>h
 have v8:=v7.trans u8 fun _ _ h=>h
 simp (maxSteps:=3000000) (disch:=omega) only [push_cast,seval,↓nthK_zero,↓nthK_succ,hi',cc v6,cc v7,cc v8,r0 z7,r1 z7,r2 z7,r0 z8,r1 z8,r2 z8]
 refine Ok.use (rInt_ok (q8.q Upd.refl) hx5 (by simp only [List.length_append]; omega)) ?_
 rintro u w9 ⟨q9,f9,u9⟩
 obtain ⟨xa9,xc9,rfl,_⟩:=q9.form
 have z9:=z8.trans u9 fun _ _ h=>h
 have v9:=v8.trans u9 fun _ _ h=>h
 have hlr:(encB x.tag).length=(encU x.tag.length).length+x.tag.length:=by simp [encB]
 simp (maxSteps:=3000000) (disch:=omega) only [push_cast,seval,↓nthK_zero,↓nthK_succ,hi',cc v6,cc v7,cc v8,cc v9,r0 z7,r1 z7,r2 z7,r0 z8,r1 z8,r2 z8,r0 z9,r1 z9,r2 z9]
 refine Ok.use (rBytes_ok (q9.q Upd.refl) (hx3.q z9) (by simp only [List.length_append]; omega) (by omega)) ?_
 rintro u w10 ⟨q10,f10,u10⟩
 obtain ⟨xa10,xc10,rfl,_⟩:=q10.form
 have z10:=z9.trans u10 fun _ _ h=>h
 have v10:=v9.trans u10 fun _ _ h=>h
 simp (maxSteps:=3000000) (disch:=omega) only [push_cast,seval,↓nthK_zero,↓nthK_succ,hi',cc v6,cc v7,cc v8,cc v9,cc v10,r0 z7,r1 z7,r2 z7,r0 z8,r1 z8,r2 z8,r0 z9,r1 z9,r2 z9,r0 z10,r1 z10,r2 z10]
 have e:L ++ (c.reads.take i).flatMap encR ++ encI x.client ++ encI x.number ++ encB x.tag=L ++ (c.reads.take (i+1)).flatMap encR:=by rw [htk]; simp [encR]
 exact ⟨k-1,by omega,i+1,.slice xa10 (L ++ (c.reads.take i).flatMap encR ++ encI x.client ++ encI x.number ++ encB x.tag).length xc10,by omega,rfl,by rw [←e]; exact q10,fun g hg=>by
   have:=f10 g hg
   have:=v9.size
   omega,v10⟩
open Go
set_option maxRecDepth 100000
def F3 (F:Nat→Prop) (w:World) (b:Nat):Prop:=(F b∧Old w b)∨b=w.heap.size∨b=w.heap.size+1∨b=w.heap.size+2
set_option maxHeartbeats 8000000 in
theorem crebase_ok {w:World} {F:Nat→Prop} {n:Con} {cs bs:List Value} {b:Bas} (hc:eN.C w F n cs) (hb:eB.C w F b bs) (h1 : ∀x,x∈n.st→CmdS x) (h2 : ∀x,x∈b.taken→CmdS x) (hl:n.st.length+b.taken.length≤1000000) (hs1:n.bas.steps.length≤1000000) (hs2:b.steps.length≤1000000)
   (hm1:(confB n.bas).length≤1000000000) (hm2:(confB b).length≤1000000000) :
   Ok (den Tryz.prog 71 #[.agg cs.toArray,.agg bs.toArray] w) fun u w'=>∃cs',u = .agg cs'.toArray∧eN.C w' (fun b=>F b∧Old w b) (rebN n b) cs'∧Upd NoB w w':=by
 obtain ⟨xa,xc,sa,sc,ta,tc,rfl,k1,k2,k3⟩:=eN_parts hc
 obtain ⟨pa,pc,qa,qc,rfl,m1,m2,m3⟩:=eB_parts hb
 refine den_okC1 (args:=[.agg #[.slice xa n.st.length xc,.slice sa n.bas.steps.length sc,.slice ta n.bas.taken.length tc,.int .i64 n.life],.agg #[.slice pa b.steps.length pc,.slice qa b.taken.length qc]]) 4 90 Tryz.func71 rfl mixed in71 ok71 rfl ?_
 rw [W_seq]
 generalize hKs:KS _ _ _ _ _=Ks
 simp (disch:=omega) only [push_cast,seval,zer_con]
 have c2:=((Blk.new (w:=w) (cs:=[.slice xa n.st.length xc,.slice sa n.bas.steps.length sc,.slice ta n.bas.taken.length tc,.int .i64 n.life]) (E:=90)).alloc (.cells #[.slice pa b.steps.length pc,.slice qa b.taken.length qc] 35 (0,0))).alloc (.cells #[Value.slice none 0 0,Value.slice none 0 0,Value.slice none 0 0,Value.int .i64 0] 90 (0,0))
 have d2:=(Blk.new (w:=w.alloc (.cells #[.slice xa n.st.length xc,.slice sa n.bas.steps.length sc,.slice ta n.bas.taken.length tc,.int .i64 n.life] 90 (0,0))) (cs:=[.slice pa b.steps.length pc,.slice qa b.taken.length qc]) (E:=35)).alloc (.cells #[Value.slice none 0 0,Value.slice none 0 0,Value.slice none 0 0,Value.int .i64 0] 90 (0,0))
 have z2:=Blk.new (w:=(w.alloc (.cells #[.slice xa n.st.length xc,.slice sa n.bas.steps.length sc,.slice ta n.bas.taken.length tc,.int .i64 n.life] 90 (0,0))).alloc (.cells #[.slice pa b.steps.length pc,.slice qa b.taken.length qc] 35 (0,0))) (cs:=[.slice none 0 0,.slice none 0 0,.slice none 0 0,.int .i64 0]) (E:=90)
 have u2:Upd NoB w (((w.alloc (.cells #[.slice xa n.st.length xc,.slice sa n.bas.steps.length sc,.slice ta n.bas.taken.length tc,.int .i64 n.life] 90 (0,0))).alloc (.cells #[.slice pa b.steps.length pc,.slice qa b.taken.length qc] 35 (0,0))).alloc (.cells #[Value.slice none 0 0,Value.slice none 0 0,Value.slice none 0 0,Value.int .i64 0] 90 (0,0))):=(Upd.alloc.alloc').alloc'
 rw [size_alloc] at d2
 rw [size_alloc,size_alloc] at z2
 have gF : ∀b,b<w.heap.size→NoB b∨F3 F w b→F b:=fun b hb h=>h.elim (fun h=>h.elim) fun h=>by
   rcases h with h | h | h | h
   · exact h.1
   all_goals omega
 have g2:=eN_ok.go (F':=F3 F w) hc u2 gF
 have gb2:=eB_ok.go (F':=F3 F w) hb u2 gF
 generalize ((w.alloc (.cells #[.slice xa n.st.length xc,.slice sa n.bas.steps.length sc,.slice ta n.bas.taken.length tc,.int .i64 n.life] 90 (0,0))).alloc (.cells #[.slice pa b.steps.length pc,.slice qa b.taken.length qc] 35 (0,0))).alloc (.cells #[Value.slice none 0 0,Value.slice none 0 0,Value.slice none 0 0,Value.int .i64 0] 90 (0,0))=w2 at *
 rw [show w.heap.size+1+1=w.heap.size+2 from rfl] at *
 have s2:w.heap.size+2<w2.heap.size:=z2.lt
 subst hKs
 rw [KS_nor]
 rw [W_seq]
 generalize hKs:KS _ _ _ _ _=Ks
 simp (maxSteps:=3000000) (disch:=omega) only [push_cast,seval,ld_blk (P:=Tryz.prog) (t:=90) c2 (by kernel_rfl) (by kernel_rfl),d2.cell]
 obtain ⟨_,_,_,_,eb,gm1,gm2,_⟩:=eB_parts gb2
 injection eb with q1 eb
 injection eb with q2 _
 rw [←q2] at gm2
 refine Ok.use (cjoin_ok g2 gm2 h1 h2 hl) ?_
 rintro u w3 ⟨cs3,rfl,g3,u3⟩
 have g3':eN.C w3 (F3 F w) (joinN n b.taken) cs3:=eN_ok.go g3 (Upd.refl (F:=NoB)) fun b _ h=>h.elim (fun h=>h.elim) fun h=>⟨h,by
   show b<w2.heap.size
   rcases h with h | h | h | h
   · exact Nat.lt_of_lt_of_le h.2 u2.size
   all_goals omega⟩
 have k3c:=eN_ok.len g3'
 have es:eN.s=4:=rfl
 rw [es] at k3c
 have c3:=c2.upd u3 fun h=>h
 have d3:=d2.upd u3 fun h=>h
 have z3:=z2.upd u3 fun h=>h
 simp (maxSteps:=3000000) (disch:=omega) only [push_cast,seval,st_blk (P:=Tryz.prog) (t:=90) (cs':=cs3) c3 (by rw [k3c]; kernel_rfl) (by rw [k3c]; rfl) (eN_ok.one g3')]
 have c4:=c3.setRow (cs':=cs3)
 have u4:Upd (fun b=>b=w.heap.size) w3 (w3.setRow w.heap.size cs3.toArray):=Upd.setRow rfl
 have d4:=d3.upd u4 (by omega)
 have z4:=z3.upd u4 (by omega)
 have v4:Upd NoB w (w3.setRow w.heap.size cs3.toArray):=(u2.trans u3 fun _ _ h=>h).trans u4 fun b hb h=>by omega
 have g4:=eN_ok.go (F':=F3 F w) g3' u4 fun b _ h=>h.elim (fun h=>.inr (.inl h)) id
 have gb4:=eB_ok.go (F':=F3 F w) (eB_ok.go (F':=F3 F w) gb2 u3 fun b _ h=>h.elim (fun h=>h.elim) id) u4 fun b _ h=>h.elim (fun h=>.inr (.inl h)) id
 generalize w3.setRow w.heap.size cs3.toArray=w4 at *
 obtain ⟨xa',xc',sa',sc',ta',tc',rfl,j1,j2,j3⟩:=eN_parts g4
 subst hKs
 rw [KS_nor]
 generalize hM:joinN n b.taken=M at *
 have eMb:M.bas=n.bas:=by rw [←hM]; rfl
 have cc : ∀{w':World},Upd NoB w4 w'→∀j,w'.cell? ⟨w.heap.size,j,none⟩ = [Value.slice xa' M.st.length xc',Value.slice sa' M.bas.steps.length sc',Value.slice ta' M.bas.taken.length tc',Value.int .i64 M.life][j]? :=fun u j=>(c4.upd u fun h=>h).cell j
 have dd : ∀{w':World},Upd NoB w4 w'→∀j,w'.cell? ⟨w.heap.size+1,j,none⟩ = [Value.slice pa b.steps.length pc,Value.slice qa b.taken.length qc][j]? :=fun u j=>(d4.upd u fun h=>h).cell j
 have hdr:Upd NoB w4 w4.drew:=Upd.drew
 simp (maxSteps:=3000000) (disch:=omega) only [push_cast,seval,↓nthK_zero,↓nthK_succ,cc hdr,dd hdr]
 refine Ok.use (conf_ok (eB_ok.go (F':=F3 F w) gb4 hdr fun b _ h=>h.elim (fun h=>h.elim) id) hs2) ?_
 rintro u w5 ⟨r5,u5'⟩
 obtain ⟨ra,rc,rfl,_⟩:=r5.form
 have u5:Upd NoB w4 w5:=hdr.trans u5' fun _ _ h=>h
 simp (maxSteps:=3000000) (disch:=omega) only [push_cast,seval,↓nthK_zero,↓nthK_succ,cc hdr,dd hdr,cc u5,dd u5]
 refine Ok.use (conf_ok (eB_ok.go (F':=F3 F w) j2 u5 fun b _ h=>h.elim (fun h=>h.elim) id) (by rw [eMb]; exact hs1)) ?_
 rintro u w6 ⟨r6,u6'⟩
 obtain ⟨ra',rc',rfl,_⟩:=r6.form
 have u6:Upd NoB w4 w6:=u5.trans u6' fun _ _ h=>h
 have c6:=c4.upd u6 fun h=>h
 have d6:=d4.upd u6 fun h=>h
 have z6:=z4.upd u6 fun h=>h
 have v6:=v4.trans u6 fun _ _ h=>h
 have j1':SlD eC w6 (F3 F w) (.slice xa' M.st.length xc') M.st:=j1.go eC_ok u6 fun b _ h=>h.elim (fun h=>h.elim) id
 have j2':eB.C w6 (F3 F w) M.bas [.slice sa' M.bas.steps.length sc',.slice ta' M.bas.taken.length tc']:=eB_ok.go j2 u6 fun b _ h=>h.elim (fun h=>h.elim) id
 have gb6:eB.C w6 (F3 F w) b [.slice pa b.steps.length pc,.slice qa b.taken.length qc]:=eB_ok.go gb4 u6 fun b _ h=>h.elim (fun h=>h.elim) id
 by_cases hlt:(confB M.bas).length<(confB b).length
 · have hlt':((confB M.bas).length:Int)<((confB b).length:Int):=by omega
   have c7:=(c6.set 1 (.slice pa b.steps.length pc)).set 2 (.slice qa b.taken.length qc)
   simp only [List.set_cons_succ,List.set_cons_zero] at c7
   have u7:Upd (fun b=>b=w.heap.size) w6 ((w6.setCell ⟨w.heap.size,1,none⟩ (.slice pa b.steps.length pc)).setCell ⟨w.heap.size,2,none⟩ (.slice qa b.taken.length qc)):=(Upd.set (F:=fun b=>b=w.heap.size) rfl).setIn rfl
   have z7:=z6.upd u7 (by omega)
   have z8:=z7.setRow (cs':=[.slice xa' M.st.length xc',.slice pa b.steps.length pc,.slice qa b.taken.length qc,.int .i64 M.life])
   simp (maxSteps:=3000000) (disch:=omega) only [push_cast,seval,↓nthK_zero,↓nthK_succ,cc hdr,dd hdr,cc u5,dd u5,cc u6,dd u6,hlt',d6.cell,c6.cell,c6.free,ld_blk (P:=Tryz.prog) (t:=90) c7 (by kernel_rfl) (by kernel_rfl),st_blk (P:=Tryz.prog) (t:=90) (cs':=[.slice xa' M.st.length xc',.slice pa b.steps.length pc,.slice qa b.taken.length qc,.int .i64 M.life]) z7 (by kernel_rfl) rfl (fun u hu=>by simp at hu; rcases hu with rfl | rfl | rfl | rfl <;> rfl),ld_blk (P:=Tryz.prog) (t:=90) z8 (by kernel_rfl) (by kernel_rfl)]
   generalize (w6.setCell ⟨w.heap.size,1,none⟩ (.slice pa b.steps.length pc)).setCell ⟨w.heap.size,2,none⟩ (.slice qa b.taken.length qc)=w7 at *
   have u8:Upd (fun b=>b=w.heap.size+2) w7 (w7.setRow (w.heap.size+2) #[.slice xa' M.st.length xc',.slice pa b.steps.length pc,.slice qa b.taken.length qc,.int .i64 M.life]):=Upd.setRow rfl
   have er:rebN n b = {M with bas:=b}:=by
     unfold rebN
     rw [←eMb,if_pos hlt,hM]
   rw [er]
   have j1'':SlD eC w7 (F3 F w) (.slice xa' M.st.length xc') M.st:=j1'.go eC_ok u7 fun b _ h=>h.elim (fun h=>.inr (.inl h)) id
   have gb7:eB.C w7 (F3 F w) b [.slice pa b.steps.length pc,.slice qa b.taken.length qc]:=eB_ok.go gb6 u7 fun b _ h=>h.elim (fun h=>.inr (.inl h)) id
   exact ⟨_,rfl,⟨_,_,_,rfl,j1''.go eC_ok u8 fun b _ h=>h.elim (fun h=>.inr (.inr (.inr h))) .inl,eB_ok.go gb7 u8 fun b _ h=>h.elim (fun h=>.inr (.inr (.inr h))) .inl,⟨j3.1,m3,j3.2.2⟩⟩,(v6.trans u7 fun b hb h=>by omega).trans u8 fun b hb h=>by omega⟩
 · have hlt' : ¬((confB M.bas).length:Int)<((confB b).length:Int):=by omega
   have z8:=z6.setRow (cs':=[.slice xa' M.st.length xc',.slice sa' M.bas.steps.length sc',.slice ta' M.bas.taken.length tc',.int .i64 M.life])
   simp (maxSteps:=3000000) (disch:=omega) only [push_cast,seval,↓nthK_zero,↓nthK_succ,cc hdr,dd hdr,cc u5,dd u5,cc u6,dd u6,hlt',ld_blk (P:=Tryz.prog) (t:=90) c6 (by kernel_rfl) (by kernel_rfl),st_blk (P:=Tryz.prog) (t:=90) (cs':=[.slice xa' M.st.length xc',.slice sa' M.bas.steps.length sc',.slice ta' M.bas.taken.length tc',.int .i64 M.life]) z6 (by kernel_rfl) rfl (fun u hu=>by simp at hu; rcases hu with rfl | rfl | rfl | rfl <;> rfl),ld_blk (P:=Tryz.prog) (t:=90) z8 (by kernel_rfl) (by kernel_rfl)]
   have u8:Upd (fun b=>b=w.heap.size+2) w6 (w6.setRow (w.heap.size+2) #[.slice xa' M.st.length xc',.slice sa' M.bas.steps.length sc',.slice ta' M.bas.taken.length tc',.int .i64 M.life]):=Upd.setRow rfl
   have er:rebN n b=M:=by
     unfold rebN
     rw [←eMb,if_neg hlt,hM]
   rw [er]
   exact ⟨_,rfl,⟨_,_,_,rfl,j1'.go eC_ok u8 fun b _ h=>h.elim (fun h=>.inr (.inr (.inr h))) .inl,eB_ok.go j2' u8 fun b _ h=>h.elim (fun h=>.inr (.inr (.inr h))) .inl,j3⟩,v6.trans u8 fun b hb h=>by omega⟩
end Go.Proofs.YtpgigkceoolgeaaGreatDoor.Fd
