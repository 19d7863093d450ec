import Derived.Test.YtpgigkceoolgeaaGreatDoorY14
set_option linter.all false
namespace Go.Proofs.YtpgigkceoolgeaaGreatDoor.Fd
open Go
set_option maxRecDepth 100000
theorem kEncode1_ok {w:World} {S:Nat→Prop} {p:Nat} {l:List Int} (h:WrI w S p l) {n:Int} (hn:I64 n) (hl:l.length≤900000000) :
   Ok (den Tryz.prog 155 #[.int .i64 n,.pointer (some ⟨p,0,none⟩)] w) fun u w'=>WrI w' (gr S w w') p (l ++ encI n)∧Upd S w w':=by
 refine den_ok (args:=[.int .i64 n,.pointer (some ⟨p,0,none⟩)]) rs155 Tryz.func155 rfl mixed in155 ok155 rfl ?_
 simp (disch:=omega) only [push_cast,seval]
 refine Ok.use (wInt_ok h hn hl) ?_
 rintro u w1 ⟨h1,hu1⟩
 simp (disch:=omega) only [push_cast,seval]
 exact ⟨h1,hu1⟩
theorem encK_len {c:Clm}:(encK c).length=6+(encI c.rr).length+(encI c.rl).length+(encI c.rn).length+(encU c.reads.length).length+(c.reads.flatMap encR).length+(encL c.base).length+(encL c.conf).length+(encI c.count).length+(encB c.root).length:=by
 have e:(encB claimL).length=6:=by rw [encB,encU_small (by decide)]; rfl
 simp only [encK,List.length_append,e]
theorem zer_rid:zer Tryz.prog 175=some (.agg #[.int .i64 0,.int .i64 0,.slice none 0 0]):=by kernel_rfl
set_option maxHeartbeats 4000000 in
theorem kEncode_ok {w:World} {F:Nat→Prop} {c:Clm} {cs:List Value} (hc:eK.C w F c cs) (hl:(encK c).length≤80000000) :
   Ok (den Tryz.prog 122 #[.agg cs.toArray] w) fun u w'=>Bow w' u (encK c)∧(∀g,u.ownBlock=some g→w.heap.size≤g)∧Upd NoB w w':=by
 refine den_ok (args:=[.agg cs.toArray]) rs122 Tryz.func122 rfl mixed in122 ok122 rfl ?_
 have hlen:=encK_len (c:=c)
 obtain ⟨rv,bv,fv,ov,rfl,hrs,hbs,hfs,hos,i1,i2,i3,i4,_,hrw,_,_⟩:=hc
 obtain ⟨ra,rc,rfl,_⟩:=hrs.form
 obtain ⟨ba,bc,rfl,_⟩:=hbs.form
 obtain ⟨fa,fc,rfl,_⟩:=hfs.form
 obtain ⟨oa,oc,rfl⟩:=hos.form
 rw [W_seq]
 generalize hKs:KS _ _ _ _ _=Ks
 simp (disch:=omega) only [push_cast,seval]
 have b0:=Blk.new (w:=w) (cs:=[.int .i64 c.rr,.int .i64 c.rl,.int .i64 c.rn,.slice ra c.reads.length rc,.slice ba c.base.length bc,.slice fa c.conf.length fc,.int .i64 c.count,.slice oa c.root.length oc]) (E:=85)
 have u0:Upd NoB w (w.alloc (.cells [.int .i64 c.rr,.int .i64 c.rl,.int .i64 c.rn,.slice ra c.reads.length rc,.slice ba c.base.length bc,.slice fa c.conf.length fc,.int .i64 c.count,.slice oa c.root.length oc].toArray 85 (0,0))):=Upd.alloc
 generalize w.alloc (.cells [.int .i64 c.rr,.int .i64 c.rl,.int .i64 c.rn,.slice ra c.reads.length rc,.slice ba c.base.length bc,.slice fa c.conf.length fc,.int .i64 c.count,.slice oa c.root.length oc].toArray 85 (0,0))=w0 at *
 subst hKs
 rw [KS_nor]
 rw [W_seq]
 generalize hKs:KS _ _ _ _ _=Ks
 simp (disch:=omega) only [push_cast,seval]
 have h1:=WrI.new (w:=w0)
 have u1:Upd NoB w0 (w0.alloc (.cells #[.slice none 0 0] 165 (0,0))):=Upd.alloc
 have s0:w.heap.size<w0.heap.size:=b0.lt
 have b1:=b0.upd u1 (fun h=>h)
 have v1:=u0.trans u1 fun _ _ h=>h
 have key : ∀b,b<w.heap.size→NoB b∨b=w0.heap.size→F b:=fun b hb h=>h.elim (fun h=>h.elim) fun h=>by omega
 have hrs1:=hrs.go (F':=fun b=>b=w0.heap.size) eR_ok v1 key
 have hbs1:=hbs.go (F':=fun b=>b=w0.heap.size) eC_ok v1 key
 have hfs1:=hfs.go (F':=fun b=>b=w0.heap.size) eC_ok v1 key
 have hos1:=hos.go (F':=fun b=>b=w0.heap.size) v1 key
 have s01:(w0.alloc (.cells #[.slice none 0 0] 165 (0,0))).heap.size=w0.heap.size+1:=size_alloc
 generalize w0.alloc (.cells #[.slice none 0 0] 165 (0,0))=w1 at *
 clear hrs hbs hfs hos u0 u1 b0
 generalize hSd:(fun b=>b=w0.heap.size)=S at *
 have hbB : ¬S w.heap.size:=by rw [←hSd]; simp; omega
 have hS:=h1.bd
 subst hKs
 rw [KS_nor]
 rw [W_seq]
 generalize hKs:KS _ _ _ _ _=Ks
 simp (disch:=omega) only [push_cast,seval]
 subst hKs
 rw [KS_nor]
 rw [W_seq]
 generalize hKs:KS _ _ _ _ _=Ks
 simp (disch:=omega) only [push_cast,seval]
 subst hKs
 rw [KS_nor]
 rw [W_seq]
 generalize hKs:KS _ _ _ _ _=Ks
 simp (disch:=omega) only [push_cast,seval]
 refine Ok.use (wText_ok h1 (s:=⟨#[99,108,97,105,109]⟩) (by decide) (by decide)) ?_
 rintro v w2 ⟨h2,u2⟩
 have ecl:strL ⟨#[99,108,97,105,109]⟩=claimL:=rfl
 rw [ecl,List.nil_append] at h2
 have hel:(encB claimL).length=6:=by rw [encB,encU_small (by decide)]; rfl
 have b2:=b1.upd u2 hbB
 simp (disch:=omega) only [push_cast,seval]
 subst hKs
 rw [KS_nor]
 rw [W_seq]
 generalize hKs:KS _ _ _ _ _=Ks
 simp (disch:=omega) only [push_cast,seval,b2.cell]
 refine Ok.use (kEncode1_ok h2 i1 (by omega)) ?_
 rintro v w3 ⟨h3,u3⟩
 obtain ⟨h3,u3⟩:=wr_step hS u2 h3 u3
 clear b2
 have b3:=b1.upd u3 hbB
 simp (disch:=omega) only [push_cast,seval]
 subst hKs
 rw [KS_nor]
 rw [W_seq]
 generalize hKs:KS _ _ _ _ _=Ks
 simp (disch:=omega) only [push_cast,seval,b3.cell]
 refine Ok.use (kEncode1_ok h3 i2 (by simp only [List.length_append]; omega)) ?_
 rintro v w4 ⟨h4,u4⟩
 obtain ⟨h4,u4⟩:=wr_step hS u3 h4 u4
 clear b3 h3 u3
 have b4:=b1.upd u4 hbB
 simp (disch:=omega) only [push_cast,seval]
 subst hKs
 rw [KS_nor]
 rw [W_seq]
 generalize hKs:KS _ _ _ _ _=Ks
 simp (disch:=omega) only [push_cast,seval,b4.cell]
 refine Ok.use (kEncode1_ok h4 i3 (by simp only [List.length_append]; omega)) ?_
 rintro v w5 ⟨h5,u5⟩
 obtain ⟨h5,u5⟩:=wr_step hS u4 h5 u5
 clear b4 h4 u4
 have hwl:c.reads.length≤(c.reads.flatMap encR).length:=flat_ge fun x=>by have:=encU_pos x.tag.length; simp [encR,encB]; omega
 have b5:=b1.upd u5 hbB
 simp (disch:=omega) only [push_cast,seval]
 subst hKs
 rw [KS_nor]
 rw [W_seq]
 generalize hKs:KS _ _ _ _ _=Ks
 simp (disch:=omega) only [push_cast,seval,b5.cell]
 rw [u64_len (by omega)]
 refine Ok.use (wUint_ok h5 (n:=c.reads.length) (by omega) (by simp only [List.length_append]; omega)) ?_
 rintro v w6 ⟨h6,u6⟩
 obtain ⟨h6,u6⟩:=wr_step hS u5 h6 u6
 clear b5 h5 u5
 have b6:=b1.upd u6 hbB
 simp (disch:=omega) only [push_cast,seval]
 subst hKs
 rw [KS_nor]
 simp (disch:=omega) only [push_cast,seval,b6.cell]
 have hrs6:=hrs1.go (F':=gr S w1 w6) eR_ok u6 gr_go
 generalize hL:encB claimL ++ encI c.rr ++ encI c.rl ++ encI c.rn ++ encU c.reads.length=L at *
 have hLl:L.length=6+(encI c.rr).length+(encI c.rl).length+(encI c.rn).length+(encU c.reads.length).length:=by rw [←hL]; simp only [List.length_append,hel]
 refine loop_inv (I:=fun k st w'=>Bx (∃i:Nat,k+i=c.reads.length∧st = [.int .i64 (i:Int)]∧WrI w' (gr S w1 w') w0.heap.size (L ++ (c.reads.take i).flatMap encR)∧Upd S w1 w') ⟨⟩) ?_ c.reads.length ⟨0,rfl,rfl,by simpa using h6,u6⟩
 clear h6 u6 b6 hrs6
 rintro k st w7 ⟨i,hk,rfl,h7,u7⟩
 have b7:=b1.upd u7 hbB
 by_cases hk0:k=0
 · obtain rfl:i=c.reads.length:=by omega
   rw [List.take_length] at h7
   simp (disch:=omega) only [push_cast,seval,b7.cell]
   have hbs7:=hbs1.go (F':=gr S w1 w7) eC_ok u7 gr_go
   refine Ok.use (kEncode2_ok h7 hbs7 (by simp only [List.length_append]; omega)) ?_
   rintro v w8 ⟨h8,u8⟩
   obtain ⟨h8,u8⟩:=wr_step hS u7 h8 u8
   have b8:=b1.upd u8 hbB
   have hfs8:=hfs1.go (F':=gr S w1 w8) eC_ok u8 gr_go
   simp (disch:=omega) only [push_cast,seval,b8.cell]
   refine Ok.use (kEncode2_ok h8 hfs8 (by simp only [List.length_append]; omega)) ?_
   rintro v w9 ⟨h9,u9⟩
   obtain ⟨h9,u9⟩:=wr_step hS u8 h9 u9
   have b9:=b1.upd u9 hbB
   simp (disch:=omega) only [push_cast,seval,b9.cell]
   refine Ok.use (kEncode1_ok h9 i4 (by simp only [List.length_append]; omega)) ?_
   rintro v w10 ⟨h10,u10⟩
   obtain ⟨h10,u10⟩:=wr_step hS u9 h10 u10
   have b10:=b1.upd u10 hbB
   have hos10:=hos1.go (F':=gr S w1 w10) u10 gr_go
   have hlr:(encB c.root).length=(encU c.root.length).length+c.root.length:=by simp [encB]
   simp (disch:=omega) only [push_cast,seval,b10.cell]
   refine Ok.use (wBytes_ok h10 hos10 (fun _ h=>h) (by omega) (by simp only [List.length_append]; omega)) ?_
   rintro v w11 ⟨h11,u11⟩
   obtain ⟨h11,u11⟩:=wr_step hS u10 h11 u11
   simp (disch:=omega) only [push_cast,seval]
   refine Ok.use (wData_ok h11 (by simp only [List.length_append]; omega)) ?_
   rintro v w12 ⟨h12,hf12,u12⟩
   have e:L ++ c.reads.flatMap encR ++ encL c.base ++ encL c.conf ++ encI c.count ++ encB c.root=encK c:=by rw [←hL]; rfl
   obtain ⟨va,vc,rfl,_⟩:=h12.form
   rw [e] at h12 hf12 ⊢
   simp (disch:=omega) only [push_cast,seval]
   have s111:=u11.size
   refine ⟨h12,fun g hg=>by have:=hf12 g hg; omega,((v1.trans u11 fun b hb h=>?_).trans u12 fun _ _ h=>h)⟩
   rw [←hSd] at h
   omega
 have hi:i<c.reads.length:=by omega
 have hxi:=List.getElem?_eq_getElem hi
 have hwx:=hrw _ (List.getElem_mem hi)
 generalize c.reads[i]=x at *
 have hrs7:=hrs1.go (F':=gr S w1 w7) eR_ok u7 gr_go
 have hle:=flat_len_at (f:=encR) hxi
 have htk:=flat_take (f:=encR) hxi
 have hlx:(encR x).length=(encI x.client).length+(encI x.number).length+(encB x.tag).length:=by simp only [encR,List.length_append]
 have hlt:(encB x.tag).length=(encU x.tag.length).length+x.tag.length:=by simp [encB]
 obtain ⟨xb,xo,xc,xcs,hv,hxl,hxF,⟨tv,rfl,ht,_⟩,hcell⟩:=hrs7.at_ hxi
 injection hv with e1 _ e3
 subst e1
 subst e3
 obtain ⟨ta,tc,rfl⟩:=ht.form
 have q0:=hcell 0 (by decide)
 have q1:=hcell 1 (by decide)
 have q2:=hcell 2 (by decide)
 simp only [eR,List.getElem?_cons_zero,List.getElem?_cons_succ,Nat.add_zero] at q0 q1 q2
 simp (disch:=omega) only [push_cast,seval,b7.cell,q0,q1,q2,zer_rid]
 have c8:=(((Blk.new (w:=w7) (cs:=[.int .i64 0,.int .i64 0,.slice none 0 0]) (E:=175)).set 0 (.int .i64 x.client)).set 1 (.int .i64 x.number)).set 2 (.slice ta x.tag.length tc)
 have u8:Upd NoB w7 ((((w7.alloc (.cells [.int .i64 0,.int .i64 0,.slice none 0 0].toArray 175 (0,0))).setCell ⟨w7.heap.size,0,none⟩ (.int .i64 x.client)).setCell ⟨w7.heap.size,1,none⟩ (.int .i64 x.number)).setCell ⟨w7.heap.size,2,none⟩ (.slice ta x.tag.length tc)):=((Upd.alloc.setNew (Nat.le_refl _)).setNew (Nat.le_refl _)).setNew (Nat.le_refl _)
 simp only [List.set_cons_succ,List.set_cons_zero] at c8
 generalize (((w7.alloc (.cells [.int .i64 0,.int .i64 0,.slice none 0 0].toArray 175 (0,0))).setCell ⟨w7.heap.size,0,none⟩ (.int .i64 x.client)).setCell ⟨w7.heap.size,1,none⟩ (.int .i64 x.number)).setCell ⟨w7.heap.size,2,none⟩ (.slice ta x.tag.length tc)=w8 at *
 have hX : ¬gr S w1 w7 w7.heap.size:=fun h=>by have:=h7.bd _ h; omega
 have h8:=h7.quiet u8
 have ht8:=ht.go (F':=gr S w1 w7) u8 fun _ _ h=>h.elim (fun h=>h.elim) id
 have hS8:=h8.bd
 refine Ok.use (kEncode1_ok h8 hwx.1 (by simp only [List.length_append]; omega)) ?_
 rintro v w9 ⟨h9,u9⟩
 have c9:=c8.upd u9 hX
 simp (disch:=omega) only [push_cast,seval,c9.cell]
 refine Ok.use (kEncode1_ok h9 hwx.2.1 (by simp only [List.length_append]; omega)) ?_
 rintro v w10 ⟨h10,u10⟩
 obtain ⟨h10,u10⟩:=wr_step hS8 u9 h10 u10
 have c10:=c8.upd u10 hX
 have ht10:=ht8.go (F':=gr (gr S w1 w7) w8 w10) u10 gr_go
 simp (disch:=omega) only [push_cast,seval,c10.cell]
 refine Ok.use (wBytes_ok h10 ht10 (fun _ h=>h) (by omega) (by simp only [List.length_append]; omega)) ?_
 rintro v w11 ⟨h11,u11⟩
 obtain ⟨h11,u11⟩:=wr_step hS8 u10 h11 u11
 have e:L ++ (c.reads.take i).flatMap encR ++ encI x.client ++ encI x.number ++ encB x.tag=L ++ ((c.reads.take i).flatMap encR ++ encR x):=by simp [encR]
 rw [e,←htk] at h11
 simp (disch:=omega) only [push_cast,seval]
 have s17:=u7.size
 have s78:=u8.size
 have s811:=u11.size
 refine ⟨k-1,by omega,i+1,by omega,by simp,h11.wide (fun b hb=>?_) (fun b hb=>?_),(u7.trans u8 fun _ _ h=>h.elim).trans u11 fun b hb h=>h.elim id fun h=>by omega⟩
 · rcases hb with (hb | hb) | hb
   · exact .inl hb
   · exact .inr ⟨hb.1,by omega⟩
   · exact .inr ⟨by omega,hb.2⟩
 · rcases hb with hb | hb
   · have:=hS b hb; omega
   · exact hb.2
open Go
set_option maxRecDepth 100000
theorem boxW {w:World} {zs cs:List Value} {E:TypeId}:Blk ((w.alloc (.cells zs.toArray E (0,0))).setRow w.heap.size cs.toArray) w.heap.size cs E∧Upd NoB w ((w.alloc (.cells zs.toArray E (0,0))).setRow w.heap.size cs.toArray):=
 have u1:Upd NoB w (w.alloc (.cells zs.toArray E (0,0))):=Upd.alloc
 ⟨(Blk.new (w:=w) (cs:=zs) (E:=E)).setRow,u1.trans (Upd.setRow (F:=fun b=>b=w.heap.size) (w:=w.alloc (.cells zs.toArray E (0,0))) (g:=w.heap.size) (cs:=cs.toArray) rfl) (F:=NoB) (fun b h1 h2=>by omega)⟩
theorem zer_crt:zer Tryz.prog 88=some (.agg #[.int .i64 0,.int .i64 0,.int .i64 0,.slice none 0 0,.slice none 0 0,.slice none 0 0,.int .i64 0,.slice none 0 0,.slice none 0 0]):=by kernel_rfl
theorem zer_ack:zer Tryz.prog 154=some (.agg #[.int .i64 0,.slice none 0 0]):=by kernel_rfl
theorem encT_len {s:Crt}:(encT s).length=(encU (encK s.c).length).length+(encK s.c).length+(encU s.acks.length).length+(s.acks.flatMap encA).length:=by simp only [encT,encB,List.length_append]
theorem encBs_len {b:Bas}:(encBs b).length=(encU b.steps.length).length+(b.steps.flatMap encT).length+(encL b.taken).length:=by simp only [encBs,List.length_append]
theorem wr_round {S:Nat→Prop} {w w1 w2 w3:World} {p:Nat} {l:List Int} (hS : ∀b,S b→b<w.heap.size) (u1:Upd S w w1) (u2:Upd NoB w1 w2) (h:WrI w3 (gr (gr S w w1) w2 w3) p l) (u3:Upd (gr S w w1) w2 w3):WrI w3 (gr S w w3) p l∧Upd S w w3:=by
 have s01:=u1.size
 have s12:=u2.size
 have s23:=u3.size
 refine ⟨h.wide (fun b hb=>?_) (fun b hb=>?_),(u1.trans u2 fun _ _ h=>h.elim).trans u3 fun b hb h=>h.elim id fun h=>by omega⟩
 · rcases hb with (hb | hb) | hb
   · exact .inl hb
   · exact .inr ⟨hb.1,by omega⟩
   · exact .inr ⟨by omega,hb.2⟩
 · rcases hb with hb | hb
   · have:=hS b hb; omega
   · exact hb.2
set_option maxHeartbeats 4000000 in
theorem putBase_ok {w:World} {S:Nat→Prop} {p:Nat} {l:List Int} (h:WrI w S p l) {b:Bas} {cs:List Value} (hb:eB.C w S b cs) (hl:l.length+(encBs b).length≤80000000) :
   Ok (den Tryz.prog 73 #[.pointer (some ⟨p,0,none⟩),.agg cs.toArray] w) fun u w'=>WrI w' (gr S w w') p (l ++ encBs b)∧Upd S w w':=by
 refine den_ok (args:=[.pointer (some ⟨p,0,none⟩),.agg cs.toArray]) rs73 Tryz.func73 rfl mixed in73 ok73 rfl ?_
 have hlen:=encBs_len (b:=b)
 have hge:b.steps.length≤(b.steps.flatMap encT).length:=flat_ge fun x=>by have:=encU_pos x.acks.length; rw [encT_len]; omega
 obtain ⟨sv,tv,rfl,hss,hts,hbw,_⟩:=hb
 obtain ⟨sa,sc,rfl,_⟩:=hss.form
 obtain ⟨ta,tc,rfl,_⟩:=hts.form
 have hS:=h.bd
 rw [W_seq]
 generalize hKs:KS _ _ _ _ _=Ks
 simp (disch:=omega) only [push_cast,seval]
 have b0:=Blk.new (w:=w) (cs:=[.slice sa b.steps.length sc,.slice ta b.taken.length tc]) (E:=35)
 have u0:Upd NoB w (w.alloc (.cells [.slice sa b.steps.length sc,.slice ta b.taken.length tc].toArray 35 (0,0))):=Upd.alloc
 generalize w.alloc (.cells [.slice sa b.steps.length sc,.slice ta b.taken.length tc].toArray 35 (0,0))=w0 at *
 have h0:=h.quiet u0
 have hss0:=hss.go (F':=S) eT_ok u0 fun b _ h=>h.elim (fun h=>h.elim) id
 have hts0:=hts.go (F':=S) eC_ok u0 fun b _ h=>h.elim (fun h=>h.elim) id
 have bB : ¬S w.heap.size:=fun h=>by have:=hS _ h; omega
 have hS0:=h0.bd
 clear hss hts h
 subst hKs
 rw [KS_nor]
 rw [W_seq]
 generalize hKs:KS _ _ _ _ _=Ks
 simp (disch:=omega) only [push_cast,seval,b0.cell]
 rw [u64_len (by omega)]
 refine Ok.use (wUint_ok h0 (n:=b.steps.length) (by omega) (by omega)) ?_
 rintro u w1 ⟨h1,u1⟩
 have b1:=b0.upd u1 bB
 simp (disch:=omega) only [push_cast,seval]
 subst hKs
 rw [KS_nor]
 simp (disch:=omega) only [push_cast,seval,b1.cell]
 refine loop_inv (I:=fun k st w'=>Bx (∃i:Nat,k+i=b.steps.length∧st = [.int .i64 (i:Int)]∧WrI w' (gr S w0 w') p (l ++ encU b.steps.length ++ (b.steps.take i).flatMap encT)∧Upd S w0 w') ⟨⟩) ?_ b.steps.length ⟨0,rfl,rfl,by simpa using h1,u1⟩
 clear h1 u1 b1
 rintro k st w2 ⟨i,hk,rfl,h2,u2⟩
 have b2:=b0.upd u2 bB
 by_cases hk0:k=0
 · obtain rfl:i=b.steps.length:=by omega
   rw [List.take_length] at h2
   have hts2:=hts0.go (F':=gr S w0 w2) eC_ok u2 gr_go
   simp (disch:=omega) only [push_cast,seval,b2.cell]
   refine Ok.use (putCommands_ok h2 hts2 (by simp only [List.length_append]; omega)) ?_
   rintro v w3 ⟨h3,u3⟩
   obtain ⟨h3,u3⟩:=wr_step hS0 u2 h3 u3
   have e:l ++ encU b.steps.length ++ b.steps.flatMap encT ++ encL b.taken=l ++ encBs b:=by simp [encBs]
   rw [e] at h3
   simp (disch:=omega) only [push_cast,seval]
   have s0:=u0.size
   have s03:=u3.size
   refine ⟨h3.wide (fun b hb=>?_) (fun b hb=>?_),(u0.mono fun _ _ h=>h.elim).trans u3 fun _ _ h=>h⟩
   · rcases hb with hb | hb
     · exact .inl hb
     · exact .inr ⟨by omega,hb.2⟩
   · rcases hb with hb | hb
     · have:=hS b hb; omega
     · exact hb.2
 have hi:i<b.steps.length:=by omega
 have hxi:=List.getElem?_eq_getElem hi
 generalize b.steps[i]=x at *
 have hss2:=hss0.go (F':=gr S w0 w2) eT_ok u2 gr_go
 have hle:=flat_len_at (f:=encT) hxi
 have htk:=flat_take (f:=encT) hxi
 have hlx:=encT_len (s:=x)
 obtain ⟨xb,xo,xc,xcs,hvv,hxl,_,hcx,hcell⟩:=hss2.at_ hxi
 injection hvv with e1 _ e3
 subst e1
 subst e3
 have kc:=eT_ok.len hcx
 have es:eT.s=9:=rfl
 rw [es] at hcell kc
 have l1:=ld_elt (P:=Tryz.prog) (t:=88) (w:=w2) (b:=xb) (o:=xo+i*9) (cs:=xcs) (by kernel_rfl) (by rw [kc]; kernel_rfl) (by rw [kc]; exact hcell)
 have hone:=eT_ok.one hcx
 obtain ⟨ks,av,rfl,hks,hav,hxw⟩:=hcx
 have kk:=eK_ok.len hks
 have ek:eK.s=8:=rfl
 rw [ek] at kk
 obtain ⟨aa,ac,rfl,_⟩:=hav.form
 have b3:=Blk.new (w:=w2) (cs:=[.int .i64 0,.int .i64 0,.int .i64 0,.slice none 0 0,.slice none 0 0,.slice none 0 0,.int .i64 0,.slice none 0 0,.slice none 0 0]) (E:=88)
 obtain ⟨b4,u4⟩:=boxW (w:=w2) (zs:=[.int .i64 0,.int .i64 0,.int .i64 0,.slice none 0 0,.slice none 0 0,.slice none 0 0,.int .i64 0,.slice none 0 0,.slice none 0 0]) (cs:=ks ++ [.slice aa x.acks.length ac]) (E:=88)
 have ld4:=ld_elt (P:=Tryz.prog) (t:=85) (b:=w2.heap.size) (o:=0) (cs:=ks) (by kernel_rfl) (by rw [kk]; kernel_rfl) (fun r hr=>by rw [b4.cell,List.getElem?_append_left (by omega),Nat.zero_add])
 have q8:=b4.cell 8
 rw [List.getElem?_append_right (by omega),kk] at q8
 simp (maxSteps:=3000000) (disch:=omega) only [push_cast,seval,l1,zer_crt,st_blk (P:=Tryz.prog) (t:=88) (cs':=ks ++ [.slice aa x.acks.length ac]) b3 (by rw [kc]; kernel_rfl) (by rw [kc]; rfl) hone,ld4]
 generalize (w2.alloc (.cells [.int .i64 0,.int .i64 0,.int .i64 0,.slice none 0 0,.slice none 0 0,.slice none 0 0,.int .i64 0,.slice none 0 0,.slice none 0 0].toArray 88 (0,0))).setRow w2.heap.size (ks ++ [Value.slice aa x.acks.length ac]).toArray=w4 at *
 have hX : ¬gr S w0 w2 w2.heap.size:=fun h=>by have:=h2.bd _ h; omega
 have hks4:=eK_ok.go (F':=gr S w0 w2) hks u4 fun _ _ h=>h.elim (fun h=>h.elim) id
 have hav4:=hav.go (F':=gr S w0 w2) eA_ok u4 fun _ _ h=>h.elim (fun h=>h.elim) id
 refine Ok.use (kEncode_ok hks4 (by omega)) ?_
 rintro v w5 ⟨h5,f5,u5⟩
 obtain ⟨ya,yc,rfl,_⟩:=h5.form
 have u25:=u4.trans u5 fun _ _ h=>h
 have h5w:=h2.quiet u25
 have b5:=b4.upd u5 fun h=>h
 have b05:=b2.upd u25 fun h=>h
 have hav5:=hav4.go (F':=gr S w0 w2) eA_ok u5 fun _ _ h=>h.elim (fun h=>h.elim) id
 simp (disch:=omega) only [push_cast,seval]
 have hTb:=h5w.bd
 have hX5 : ¬gr (gr S w0 w2) w5 w5 w2.heap.size:=fun h=>h.elim (fun h=>hX h) fun h=>by omega
 generalize hT:gr S w0 w2=T at *
 have hlk:(encB (encK x.c)).length=(encU (encK x.c).length).length+(encK x.c).length:=by simp [encB]
 have hga:x.acks.length≤(x.acks.flatMap encA).length:=flat_ge fun a=>by have:=encU_pos a.tag.length; simp [encA,encB]; omega
 refine Ok.use (wBytes_ok h5w (h5.slb (F:=T) fun g hg hb=>by have:=f5 g hg; rw [←hT] at hb; have:=h2.bd _ (hT ▸ hb); have:=u4.size; omega) (fun _ h=>h) (by omega) (by simp only [List.length_append]; omega)) ?_
 rintro v w6 ⟨h6,u6⟩
 have b6:=b5.upd u6 hX
 have q6:=b6.cell 8
 rw [List.getElem?_append_right (by omega),kk] at q6
 have hav6:=hav5.go (F':=gr T w5 w6) eA_ok u6 gr_go
 simp (disch:=omega) only [push_cast,seval,q6,List.getElem?_cons_zero]
 rw [u64_len (by omega)]
 refine Ok.use (wUint_ok h6 (n:=x.acks.length) (by omega) (by simp only [List.length_append]; omega)) ?_
 rintro v w7 ⟨h7,u7⟩
 obtain ⟨h7,u7⟩:=wr_step hTb u6 h7 u7
 have b7:=b5.upd u7 hX
 have q7:=b7.cell 8
 rw [List.getElem?_append_right (by omega),kk] at q7
 simp (disch:=omega) only [push_cast,seval,q7,List.getElem?_cons_zero]
 generalize hL:l ++ encU b.steps.length ++ (b.steps.take i).flatMap encT ++ encB (encK x.c) ++ encU x.acks.length=L at *
 have hLl:L.length=l.length+(encU b.steps.length).length+((b.steps.take i).flatMap encT).length+(encB (encK x.c)).length+(encU x.acks.length).length:=by rw [←hL]; simp only [List.length_append]
 refine loop_inv (I:=fun k st w'=>Bx (∃j:Nat,k+j=x.acks.length∧st = [.int .i64 (j:Int)]∧WrI w' (gr T w5 w') p (L ++ (x.acks.take j).flatMap encA)∧Upd T w5 w') ⟨⟩) ?_ x.acks.length ⟨0,rfl,rfl,by simpa using h7,u7⟩
 clear h7 u7 b7 h6 u6 b6 hav6 q6 q7
 rintro k' st w8 ⟨j,hk',rfl,h8,u8⟩
 have hav8:=hav5.go (F':=gr T w5 w8) eA_ok u8 gr_go
 by_cases hk1:k'=0
 · obtain rfl:j=x.acks.length:=by omega
   rw [List.take_length] at h8
   have e:L ++ x.acks.flatMap encA=l ++ encU b.steps.length ++ (b.steps.take (i+1)).flatMap encT:=by rw [←hL,htk]; simp [encT]
   rw [e] at h8
   subst hT
   obtain ⟨h9,u9⟩:=wr_round hS0 u2 u25 h8 u8
   simp (disch:=omega) only [push_cast,seval]
   exact ⟨k-1,by omega,i+1,by omega,by simp,h9,u9⟩
 have hj:j<x.acks.length:=by omega
 have hyj:=List.getElem?_eq_getElem hj
 have hwy:=hxw.2 _ (List.getElem_mem hj)
 generalize x.acks[j]=y at *
 have hley:=flat_len_at (f:=encA) hyj
 have htky:=flat_take (f:=encA) hyj
 have hly:(encA y).length=(encI y.rep).length+(encB y.tag).length:=by simp only [encA,List.length_append]
 have hlt:(encB y.tag).length=(encU y.tag.length).length+y.tag.length:=by simp [encB]
 obtain ⟨yb,yo,yc',ycs,hv,hyl,hyF,⟨tv,rfl,ht,_⟩,hycell⟩:=hav8.at_ hyj
 injection hv with e1 _ e3
 subst e1
 subst e3
 obtain ⟨ra,rc,rfl⟩:=ht.form
 have q0:=hycell 0 (by decide)
 have q1:=hycell 1 (by decide)
 simp only [eA,List.getElem?_cons_zero,List.getElem?_cons_succ,Nat.add_zero] at q0 q1
 simp (disch:=omega) only [push_cast,seval,q0,q1,zer_ack]
 have c9:=((Blk.new (w:=w8) (cs:=[.int .i64 0,.slice none 0 0]) (E:=154)).set 0 (.int .i64 y.rep)).set 1 (.slice ra y.tag.length rc)
 have u9:Upd NoB w8 (((w8.alloc (.cells [.int .i64 0,.slice none 0 0].toArray 154 (0,0))).setCell ⟨w8.heap.size,0,none⟩ (.int .i64 y.rep)).setCell ⟨w8.heap.size,1,none⟩ (.slice ra y.tag.length rc)):=(Upd.alloc.setNew (Nat.le_refl _)).setNew (Nat.le_refl _)
 simp only [List.set_cons_succ,List.set_cons_zero] at c9
 generalize ((w8.alloc (.cells [.int .i64 0,.slice none 0 0].toArray 154 (0,0))).setCell ⟨w8.heap.size,0,none⟩ (.int .i64 y.rep)).setCell ⟨w8.heap.size,1,none⟩ (.slice ra y.tag.length rc)=w9 at *
 have hX8 : ¬gr T w5 w8 w8.heap.size:=fun h=>by have:=h8.bd _ h; omega
 have h9:=h8.quiet u9
 have ht9:=ht.go (F':=gr T w5 w8) u9 fun _ _ h=>h.elim (fun h=>h.elim) id
 have hS9:=h9.bd
 refine Ok.use (wInt_ok h9 hwy.1 (by simp only [List.length_append]; omega)) ?_
 rintro v wa ⟨ha,ua⟩
 have ca:=c9.upd ua hX8
 have hta:=ht9.go (F':=gr (gr T w5 w8) w9 wa) ua gr_go
 simp (disch:=omega) only [push_cast,seval,ca.cell]
 refine Ok.use (wBytes_ok ha hta (fun _ h=>h) (by omega) (by simp only [List.length_append]; omega)) ?_
 rintro v wb ⟨hb',ub⟩
 obtain ⟨hb',ub⟩:=wr_step hS9 ua hb' ub
 have e:L ++ (x.acks.take j).flatMap encA ++ encI y.rep ++ encB y.tag=L ++ (x.acks.take (j+1)).flatMap encA:=by rw [htky]; simp [encA]
 rw [e] at hb'
 obtain ⟨hz,uz⟩:=wr_round hTb u8 u9 hb' ub
 simp (disch:=omega) only [push_cast,seval]
 exact ⟨k'-1,by omega,j+1,by omega,by simp,hz,uz⟩
theorem bld_wr (w:World):bldS Tryz.prog 165 #[] w=some (.agg #[.slice none 0 0],w):=by kernel_rfl
theorem encCn_len {c:Con}:(encCn c).length=(encU c.life.toNat).length+(encBs c.bas).length+(encL c.st).length:=by simp only [encCn,List.length_append]
set_option maxHeartbeats 4000000 in
theorem nEncode_ok {w:World} {F:Nat→Prop} {c:Con} {cs:List Value} (hc:eN.C w F c cs) (hl:(encCn c).length≤80000000) :
   Ok (den Tryz.prog 109 #[.agg cs.toArray] w) fun u w'=>Bow w' u (encCn c)∧(∀g,u.ownBlock=some g→w.heap.size≤g)∧Upd NoB w w':=by
 refine den_ok (args:=[.agg cs.toArray]) rs109 Tryz.func109 rfl mixed in109 ok109 rfl ?_
 have hlen:=encCn_len (c:=c)
 obtain ⟨sv,b1,b2,rfl,hst,hbs,hcw,_,hl0,hl1⟩:=hc
 obtain ⟨sa,sc,rfl,_⟩:=hst.form
 rw [W_seq]
 generalize hKs:KS _ _ _ _ _=Ks
 simp (disch:=omega) only [push_cast,seval]
 have b0:=Blk.new (w:=w) (cs:=[.slice sa c.st.length sc,b1,b2,.int .i64 c.life]) (E:=90)
 have u0:Upd NoB w (w.alloc (.cells [.slice sa c.st.length sc,b1,b2,.int .i64 c.life].toArray 90 (0,0))):=Upd.alloc
 generalize w.alloc (.cells [.slice sa c.st.length sc,b1,b2,.int .i64 c.life].toArray 90 (0,0))=w0 at *
 subst hKs
 rw [KS_nor]
 rw [W_seq]
 generalize hKs:KS _ _ _ _ _=Ks
 simp (disch:=omega) only [push_cast,seval,bld_wr]
 have h1:=WrI.new (w:=w0)
 have u1:Upd NoB w0 (w0.alloc (.cells #[.slice none 0 0] 165 (0,0))):=Upd.alloc
 have s0:w.heap.size<w0.heap.size:=b0.lt
 have d1:=b0.upd u1 (fun h=>h)
 have v1:=u0.trans u1 fun _ _ h=>h
 have key : ∀b,b<w.heap.size→NoB b∨b=w0.heap.size→F b:=fun b hb h=>h.elim (fun h=>h.elim) fun h=>by omega
 have hst1:=hst.go (F':=fun b=>b=w0.heap.size) eC_ok v1 key
 have hbs1:=eB_ok.go (F':=fun b=>b=w0.heap.size) hbs v1 key
 have s01:(w0.alloc (.cells #[.slice none 0 0] 165 (0,0))).heap.size=w0.heap.size+1:=size_alloc
 generalize w0.alloc (.cells #[.slice none 0 0] 165 (0,0))=w1 at *
 clear hst hbs u0 u1 b0
 generalize hSd:(fun b=>b=w0.heap.size)=S at *
 have hbB : ¬S w.heap.size:=by rw [←hSd]; simp; omega
 have hS:=h1.bd
 have hlu:IntKind.u64.wrap c.life=(c.life.toNat:Int):=by rw [IntKind.wrap_u64]; omega
 subst hKs
 rw [KS_nor]
 rw [W_seq]
 generalize hKs:KS _ _ _ _ _=Ks
 simp (disch:=omega) only [push_cast,seval,d1.cell]
 rw [hlu]
 refine Ok.use (wUint_ok h1 (n:=c.life.toNat) (by omega) (by simp)) ?_
 rintro v w2 ⟨h2,u2⟩
 rw [List.nil_append] at h2
 have d2:=d1.upd u2 hbB
 have hbs2:=eB_ok.go (F':=gr S w1 w2) hbs1 u2 gr_go
 have ld2:=ld_elt (P:=Tryz.prog) (t:=35) (b:=w.heap.size) (o:=1) (cs:=[b1,b2]) (w:=w2) (by kernel_rfl) (by kernel_rfl) (fun r hr=>by rw [d2.cell]; match r,hr with | 0,_=>rfl | 1,_=>rfl)
 simp (disch:=omega) only [push_cast,seval]
 subst hKs
 rw [KS_nor]
 rw [W_seq]
 generalize hKs:KS _ _ _ _ _=Ks
 simp (disch:=omega) only [push_cast,seval,ld2]
 refine Ok.use (putBase_ok h2 hbs2 (by omega)) ?_
 rintro v w3 ⟨h3,u3⟩
 obtain ⟨h3,u3⟩:=wr_step hS u2 h3 u3
 have d3:=d1.upd u3 hbB
 have hst3:=hst1.go (F':=gr S w1 w3) eC_ok u3 gr_go
 simp (disch:=omega) only [push_cast,seval]
 subst hKs
 rw [KS_nor]
 rw [W_seq]
 generalize hKs:KS _ _ _ _ _=Ks
 simp (disch:=omega) only [push_cast,seval,d3.cell]
 refine Ok.use (putCommands_ok h3 hst3 (by simp only [List.length_append]; omega)) ?_
 rintro v w4 ⟨h4,u4⟩
 obtain ⟨h4,u4⟩:=wr_step hS u3 h4 u4
 have e:encU c.life.toNat ++ encBs c.bas ++ encL c.st=encCn c:=rfl
 simp (disch:=omega) only [push_cast,seval]
 subst hKs
 rw [KS_nor]
 simp (disch:=omega) only [push_cast,seval]
 refine Ok.use (wData_ok h4 (by simp only [List.length_append]; omega)) ?_
 rintro v w5 ⟨h5,hf5,u5⟩
 obtain ⟨va,vc,rfl,_⟩:=h5.form
 rw [e] at h5 hf5 ⊢
 simp (disch:=omega) only [push_cast,seval]
 have s14:=u4.size
 refine ⟨h5,fun g hg=>by have:=hf5 g hg; omega,((v1.trans u4 fun b hb h=>?_).trans u5 fun _ _ h=>h)⟩
 rw [←hSd] at h
 omega
end Go.Proofs.YtpgigkceoolgeaaGreatDoor.Fd
