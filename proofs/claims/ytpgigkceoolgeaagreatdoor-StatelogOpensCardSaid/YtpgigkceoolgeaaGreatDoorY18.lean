import Derived.Test.YtpgigkceoolgeaaGreatDoorY17
set_option linter.all false
namespace Go.Proofs.YtpgigkceoolgeaaGreatDoor.Fd
open Go
set_option maxRecDepth 100000
theorem bld_t1 (a b c:Int) (x1:Option Addr) (n1 m1:Nat) (x2:Option Addr) (n2 m2:Nat) (x3:Option Addr) (n3 m3:Nat) (e:Int) (x4:Option Addr) (n4 m4:Nat) (w:World) :
   bldS Tryz.prog 88 #[(0,.agg #[.int .i64 a,.int .i64 b,.int .i64 c,.slice x1 n1 m1,.slice x2 n2 m2,.slice x3 n3 m3,.int .i64 e,.slice x4 n4 m4])] w=some (.agg #[.int .i64 a,.int .i64 b,.int .i64 c,.slice x1 n1 m1,.slice x2 n2 m2,.slice x3 n3 m3,.int .i64 e,.slice x4 n4 m4,.slice none 0 0],w):=by kernel_rfl
theorem bsl_t1 (a b c:Int) (x1:Option Addr) (n1 m1:Nat) (x2:Option Addr) (n2 m2:Nat) (x3:Option Addr) (n3 m3:Nat) (e:Int) (x4:Option Addr) (n4 m4:Nat) (x5:Option Addr) (n5 m5:Nat) (w:World) :
   bslS Tryz.prog 33 1 #[(0,.agg #[.int .i64 a,.int .i64 b,.int .i64 c,.slice x1 n1 m1,.slice x2 n2 m2,.slice x3 n3 m3,.int .i64 e,.slice x4 n4 m4,.slice x5 n5 m5])] w=some (.slice (some ⟨w.heap.size,0,none⟩) 1 1,w.alloc (.cells #[.int .i64 a,.int .i64 b,.int .i64 c,.slice x1 n1 m1,.slice x2 n2 m2,.slice x3 n3 m3,.int .i64 e,.slice x4 n4 m4,.slice x5 n5 m5] 88 (0,0))):=by kernel_rfl
theorem bldT {w w':World} {F:Nat→Prop} {c:Clm} {ks:List Value} (h:eK.C w F c ks):bldS Tryz.prog 88 #[(0,.agg ks.toArray)] w'=some (.agg (ks ++ [Value.slice none 0 0]).toArray,w'):=by
 obtain ⟨_,_,_,_,rfl,h1,h2,h3,h4,_⟩:=h
 obtain ⟨_,_,rfl,_⟩:=h1.form
 obtain ⟨_,_,rfl,_⟩:=h2.form
 obtain ⟨_,_,rfl,_⟩:=h3.form
 obtain ⟨_,_,rfl⟩:=h4.form
 exact bld_t1 _ _ _ _ _ _ _ _ _ _ _ _ _ _ _ _ _
theorem bslT {w w':World} {F:Nat→Prop} {c:Clm} {ks:List Value} (h:eK.C w F c ks) {a:Option Addr} {n m:Nat}:bslS Tryz.prog 33 1 #[(0,.agg (ks ++ [Value.slice a n m]).toArray)] w'=some (.slice (some ⟨w'.heap.size,0,none⟩) 1 1,w'.alloc (.cells (ks ++ [Value.slice a n m]).toArray 88 (0,0))):=by
 obtain ⟨_,_,_,_,rfl,h1,h2,h3,h4,_⟩:=h
 obtain ⟨_,_,rfl,_⟩:=h1.form
 obtain ⟨_,_,rfl,_⟩:=h2.form
 obtain ⟨_,_,rfl,_⟩:=h3.form
 obtain ⟨_,_,rfl⟩:=h4.form
 exact bsl_t1 _ _ _ _ _ _ _ _ _ _ _ _ _ _ _ _ _ _ _ _
theorem bld_b0 (w:World):bldS Tryz.prog 35 #[] w=some (.agg #[.slice none 0 0,.slice none 0 0],w):=by kernel_rfl
theorem zer_bas:zer Tryz.prog 35=some (.agg #[.slice none 0 0,.slice none 0 0]):=by kernel_rfl
theorem bld_a0 (n:Int) (w:World):bldS Tryz.prog 154 #[(0,.int .i64 n)] w=some (.agg #[.int .i64 n,.slice none 0 0],w):=by kernel_rfl
theorem bsl_a1 (n:Int) (a:Option Addr) (k c:Nat) (w:World):bslS Tryz.prog 86 1 #[(0,.agg #[.int .i64 n,.slice a k c])] w=some (.slice (some ⟨w.heap.size,0,none⟩) 1 1,w.alloc (.cells [.int .i64 n,.slice a k c].toArray 154 (0,0))):=by kernel_rfl
set_option maxHeartbeats 4000000 in
theorem getBase_ok {N:Nat} {w:World} {p:Nat} {d:List Int} {at_:Nat} {v:Value} (h:RdN N w p d at_ v) {b:Bas} (hb:BasW b) (hs:SrtC b.taken) (hh:Has d at_ (encBs b)) :
   Ok (den Tryz.prog 79 #[.pointer (some ⟨p,0,none⟩)] w) fun u w'=>∃cs,u = .agg cs.toArray∧eB.C w' (fun b=>b<w.heap.size) b cs∧RdN N w' p d (at_+(encBs b).length) v∧Upd (fun b=>b=p) w w':=by
 have hd:=h.len
 have hle:=hh.le h.le
 have hlen:=encBs_len (b:=b)
 have hge:b.steps.length≤(b.steps.flatMap encT).length:=flat_ge fun x=>by have:=encU_pos x.acks.length; rw [encT_len]; omega
 have r0:=h.here
 suffices hx:Ok (den Tryz.prog 79 #[.pointer (some ⟨p,0,none⟩)] w) fun u w'=>∃cs,u = .agg cs.toArray∧eB.C w' (fun b=>b<w.heap.size) b cs∧RdN w.heap.size w' p d (at_+(encBs b).length) v∧Upd (fun b=>b=p) w w' by
   refine hx.mono ?_
   rintro u w' ⟨cs,h0,h1,h2,h3⟩
   exact ⟨cs,h0,h1,h.back h2,h3⟩
 clear h
 obtain ⟨hbs,hbt⟩:=hb
 have g3:Has d at_ (encU b.steps.length ++ b.steps.flatMap encT ++ encL b.taken):=hh
 have g2:=g3.left
 have g1:=g2.left
 replace g3:=g3.right
 replace g2:=g2.right
 simp only [List.length_append] at g2 g3
 refine den_okC1 (args:=[.pointer (some ⟨p,0,none⟩)]) 2 35 Tryz.func79 rfl mixed in79 ok79 rfl ?_
 have hpz:=r0.fp
 rw [W_seq]
 generalize hKs:KS _ _ _ _ _=Ks
 simp (disch:=omega) only [push_cast,seval,zer_bas]
 have z1:=Blk.new (w:=w) (cs:=[.slice none 0 0,.slice none 0 0]) (E:=35)
 have u1:Upd NoB w (w.alloc (.cells #[.slice none 0 0,.slice none 0 0] 35 (0,0))):=Upd.alloc
 generalize w.alloc (.cells #[.slice none 0 0,.slice none 0 0] 35 (0,0))=w1 at *
 have r1:=r0.go u1 fun _ _ h=>h
 have s1:w.heap.size<w1.heap.size:=z1.lt
 subst hKs
 rw [KS_nor]
 rw [W_seq]
 generalize hKs:KS _ _ _ _ _=Ks
 simp (disch:=omega) only [push_cast,seval,zer_bas,bld_b0]
 have c2:=((Blk.new (w:=w1) (cs:=[.slice none 0 0,.slice none 0 0]) (E:=35)).set 0 (.slice none 0 0)).set 1 (.slice none 0 0)
 have u2:Upd NoB w1 (((w1.alloc (.cells #[.slice none 0 0,.slice none 0 0] 35 (0,0))).setCell ⟨w1.heap.size,0,none⟩ (.slice none 0 0)).setCell ⟨w1.heap.size,1,none⟩ (.slice none 0 0)):=(Upd.alloc.setNew (Nat.le_refl _)).setNew (Nat.le_refl _)
 simp only [List.set_cons_succ,List.set_cons_zero] at c2
 generalize ((w1.alloc (.cells #[.slice none 0 0,.slice none 0 0] 35 (0,0))).setCell ⟨w1.heap.size,0,none⟩ (.slice none 0 0)).setCell ⟨w1.heap.size,1,none⟩ (.slice none 0 0)=w2 at *
 have z2:=z1.upd u2 fun h=>h
 have r2:=r1.go u2 fun _ _ h=>h
 have v2:Upd (fun b=>b=p) w w2:=(u1.mono fun _ _ h=>h.elim).trans u2 fun _ _ h=>h.elim
 have s2:w1.heap.size<w2.heap.size:=c2.lt
 clear r0 r1 z1 u1 u2
 generalize hcb:w1.heap.size=cb at *
 subst hKs
 rw [KS_nor]
 rw [W_seq]
 generalize hKs:KS _ _ _ _ _=Ks
 simp (disch:=omega) only [push_cast,seval]
 refine Ok.use (nCount_ok r2 (n:=b.steps.length) (by omega) g1 (by omega)) ?_
 rintro u w3 ⟨rfl,r3,u3⟩
 have c3:=c2.upd u3 (by omega)
 have z3:=z2.upd u3 (by omega)
 have v3:=v2.trans u3 fun b h1 h=>h
 have s3:=u3.size
 clear c2 z2 v2 r2 u3
 simp (disch:=omega) only [push_cast,seval]
 refine loop_inv (I:=fun k st w'=>Bx (∃(i:Nat) (sv:Value),k+i=b.steps.length∧st = [.int .i64 (k:Int)]∧RdN w.heap.size w' p d (at_+(encU b.steps.length).length+((b.steps.take i).flatMap encT).length) v∧Blk w' cb [sv,.slice none 0 0] 35∧RowD eT w' (fun b=>b≤cb) sv (b.steps.take i)∧Blk w' w.heap.size [.slice none 0 0,.slice none 0 0] 35∧Upd (fun b=>b=p) w w'∧w3.heap.size≤w'.heap.size) ⟨⟩) ?_ b.steps.length ⟨0,.slice none 0 0,rfl,rfl,by simpa using r3,c3,.nil,z3,v3,Nat.le_refl _⟩
 clear r3 c3 z3 v3
 rintro k st w4 ⟨i,sv,hk,rfl,r4,c4,hs4,z4,v4,s4⟩
 obtain ⟨sa,sc,rfl⟩:=hs4.form
 by_cases hk0:k=0
 · subst hk0
   obtain rfl:i=b.steps.length:=by omega
   rw [List.take_length] at *
   simp (disch:=omega) only [push_cast,seval]
   subst hKs
   rw [KS_nor]
   rw [W_seq]
   generalize hKs:KS _ _ _ _ _=Ks
   simp (disch:=omega) only [push_cast,seval]
   refine Ok.use (getSorted_ok r4 hbt hs (g3.cast (by omega))) ?_
   rintro u w5 ⟨htx,r5,u5⟩
   have c5:=c4.upd u5 (by omega)
   have z5:=z4.upd u5 (by omega)
   have hs5:=hs4.go (F':=fun b=>b≤cb) eT_ok u5 fun b _ h=>h.elim (fun h=>by omega) id
   have ht5:=htx.go (F':=fun b=>b≤cb) eC_ok (Upd.refl (F:=NoB)) fun b _ h=>h.elim (fun h=>h.elim) fun h=>by show b<w4.heap.size; have:=c4.lt; omega
   have v5:=v4.trans u5 fun b h1 h=>h
   obtain ⟨ta,tc,rfl⟩:=ht5.form
   simp (disch:=omega) only [push_cast,seval,c5.cell,c5.free]
   have c6:=c5.set 1 (.slice ta b.taken.length tc)
   have u6:Upd (fun b=>b=cb) w5 (w5.setCell ⟨cb,1,none⟩ (.slice ta b.taken.length tc)):=Upd.set rfl
   simp only [List.set_cons_zero,List.set_cons_succ] at c6
   have z6:=z5.upd u6 (by omega)
   have r6:=r5.go u6 fun b h1 h2=>by omega
   have hs6:=hs5.go (F':=fun b=>b≤cb) eT_ok u6 fun b _ h=>h.elim (fun h=>by omega) id
   have ht6:=ht5.go (F':=fun b=>b≤cb) eC_ok u6 fun b _ h=>h.elim (fun h=>by omega) id
   have v6:=v5.trans u6 fun b h1 h=>by omega
   generalize w5.setCell ⟨cb,1,none⟩ (.slice ta b.taken.length tc)=w6 at *
   subst hKs
   rw [KS_nor]
   have z7:=z6.setRow (cs':=[.slice sa b.steps.length sc,.slice ta b.taken.length tc])
   have u7:Upd (fun b=>b=w.heap.size) w6 (w6.setRow w.heap.size [.slice sa b.steps.length sc,.slice ta b.taken.length tc].toArray):=Upd.setRow rfl
   simp (maxSteps:=3000000) (disch:=omega) only [push_cast,seval,ld_blk (P:=Tryz.prog) (t:=35) c6 (by kernel_rfl) (by kernel_rfl),st_blk (P:=Tryz.prog) (t:=35) (cs':=[.slice sa b.steps.length sc,.slice ta b.taken.length tc]) z6 (by kernel_rfl) rfl (by simp [Value.oneCell']),ld_blk (P:=Tryz.prog) (t:=35) z7 (by kernel_rfl) (by kernel_rfl)]
   have k1:=(hs6.slD eT_ok).go (F':=fun b=>b<w.heap.size) eT_ok u7 fun b _ h=>by omega
   have k2:=(ht6.slD eC_ok).go (F':=fun b=>b<w.heap.size) eC_ok u7 fun b _ h=>by omega
   have r7:=r6.go u7 fun b h1 h2=>by omega
   have ee:at_+(encU b.steps.length).length+(b.steps.flatMap encT).length+(encL b.taken).length=at_+(encBs b).length:=by omega
   rw [ee] at r7
   exact ⟨[.slice sa b.steps.length sc,.slice ta b.taken.length tc],rfl,⟨_,_,rfl,k1,k2,hbs,hbt⟩,r7,v6.trans u7 fun b h1 h=>by omega⟩
 have hi:i<b.steps.length:=by omega
 have hxi:=List.getElem?_eq_getElem hi
 have hwx:=hbs _ (List.getElem_mem hi)
 generalize b.steps[i]=x at *
 have hle2:=flat_len_at (f:=encT) hxi
 have htk:=flat_take (f:=encT) hxi
 have htl:b.steps.take i ++ [x]=b.steps.take (i+1):=by rw [List.take_add_one,hxi]; rfl
 have gx:=g2.flat hxi
 have hlx:=encT_len (s:=x)
 have hlk:(encB (encK x.c)).length=(encU (encK x.c).length).length+(encK x.c).length:=by simp [encB]
 have hga:x.acks.length≤(x.acks.flatMap encA).length:=flat_ge fun a=>by have:=encU_pos a.tag.length; simp [encA,encB]; omega
 have gx1:=gx.left.left
 have gx2:=gx.left.right
 have gx3:=gx.right
 simp only [List.length_append] at gx3
 have ek : ¬(k:Int)≤0:=by omega
 simp (disch:=omega) only [push_cast,seval,ek]
 refine Ok.use (nErr_ok r4) ?_
 rintro u w5 ⟨rfl,rfl⟩
 simp (disch:=omega) only [push_cast,seval]
 refine Ok.use (nBytes_ok r4 (b:=encK x.c) (by omega) (gx1.cast (by omega))) ?_
 rintro u w5 ⟨hb5,hf5,r5,u5⟩
 have c5:=c4.upd u5 (by omega)
 have z5:=z4.upd u5 (by omega)
 have hs5:=hs4.go (F':=fun b=>b≤cb) eT_ok u5 fun b _ h=>h.elim (fun h=>by omega) id
 have v5:=v4.trans u5 fun b h1 h=>h
 have s5:=u5.size
 obtain ⟨ba,bc,rfl,_⟩:=hb5.form
 have hown : ∀g,(Value.slice sa (b.steps.take i).length sc).ownBlock=some g→g<w5.heap.size:=fun g hg=>hs5.lt hg
 clear c4 z4 hs4 v4 r4 u5
 simp (disch:=omega) only [push_cast,seval]
 refine Ok.use (getClaim_ok (hb5.slb (F:=NoB) fun g hg h=>h) hwx.1 (by omega)) ?_
 rintro u w6 ⟨ks,rfl,hk6,u6⟩
 have c6:=c5.upd u6 fun h=>h
 have z6:=z5.upd u6 fun h=>h
 have r6:=r5.go u6 fun _ _ h=>h
 have hs6:=hs5.go (F':=fun b=>b≤cb) eT_ok u6 fun b _ h=>h.elim (fun h=>h.elim) id
 have v6:=v5.trans u6 fun b h1 h=>h.elim
 have s6:=u6.size
 clear c5 z5 r5 hs5 v5 hb5
 have kk:=eK_ok.len hk6
 have ek8:eK.s=8:=rfl
 rw [ek8] at kk
 have b7:=Blk.new (w:=w6) (cs:=[.int .i64 0,.int .i64 0,.int .i64 0,.slice none 0 0,.slice none 0 0,.slice none 0 0,.int .i64 0,.slice none 0 0]) (E:=85)
 obtain ⟨b7',u7⟩:=boxW (w:=w6) (zs:=[.int .i64 0,.int .i64 0,.int .i64 0,.slice none 0 0,.slice none 0 0,.slice none 0 0,.int .i64 0,.slice none 0 0]) (cs:=ks) (E:=85)
 simp (maxSteps:=3000000) (disch:=omega) only [push_cast,seval,zer_clm,st_blk (P:=Tryz.prog) (t:=85) (cs':=ks) b7 (by rw [kk]; kernel_rfl) (by rw [kk]; rfl) (eK_ok.one hk6),ld_blk (P:=Tryz.prog) (t:=85) b7' (by kernel_rfl) (by rw [kk]; kernel_rfl),bldT hk6]
 generalize (w6.alloc (.cells [.int .i64 0,.int .i64 0,.int .i64 0,.slice none 0 0,.slice none 0 0,.slice none 0 0,.int .i64 0,.slice none 0 0].toArray 85 (0,0))).setRow w6.heap.size ks.toArray=w7 at *
 have b8:=Blk.new (w:=w7) (cs:=[.int .i64 0,.int .i64 0,.int .i64 0,.slice none 0 0,.slice none 0 0,.slice none 0 0,.int .i64 0,.slice none 0 0,.slice none 0 0]) (E:=88)
 obtain ⟨t8,u8⟩:=boxW (w:=w7) (zs:=[.int .i64 0,.int .i64 0,.int .i64 0,.slice none 0 0,.slice none 0 0,.slice none 0 0,.int .i64 0,.slice none 0 0,.slice none 0 0]) (cs:=ks ++ [Value.slice none 0 0]) (E:=88)
 simp (maxSteps:=3000000) (disch:=omega) only [push_cast,seval,zer_crt,st_blk (P:=Tryz.prog) (t:=88) (cs':=ks ++ [Value.slice none 0 0]) b8 (by rw [List.length_append,kk]; kernel_rfl) (by rw [List.length_append,kk]; rfl) (fun u hu=>(List.mem_append.1 hu).elim (eK_ok.one hk6 u) fun h=>by rw [List.mem_singleton.1 h]; rfl)]
 generalize (w7.alloc (.cells [.int .i64 0,.int .i64 0,.int .i64 0,.slice none 0 0,.slice none 0 0,.slice none 0 0,.int .i64 0,.slice none 0 0,.slice none 0 0].toArray 88 (0,0))).setRow w7.heap.size (ks ++ [Value.slice none 0 0]).toArray=w8 at *
 have u68:=u7.trans u8 fun _ _ h=>h
 have c8:=c6.upd u68 fun h=>h
 have z8:=z6.upd u68 fun h=>h
 have r8:=r6.go u68 fun _ _ h=>h
 have htb:w7.heap.size<w8.heap.size:=t8.lt
 have s67:=u7.size
 have hs8:=hs6.go (F':=fun b=>b≤cb∨b=w7.heap.size) eT_ok u68 fun b hb h=>h.elim (fun h=>h.elim) fun h=>h.elim id fun h=>by omega
 have hk8:=eK_ok.go (F':=fun b=>b<w5.heap.size∨b=w7.heap.size) hk6 u68 fun b hb h=>h.elim (fun h=>h.elim) fun h=>h.elim id fun h=>by omega
 have v8:=v6.trans u68 fun b h1 h=>h.elim
 clear c6 z6 r6 hs6 v6 hk6 u6 b7 b7' u7 b8 u8 u68
 have hcbw:cb<w5.heap.size:=by omega
 have htc:w5.heap.size≤w7.heap.size:=by omega
 generalize htbe:w7.heap.size=tb at *
 refine Ok.use (nCount_ok r8 (n:=x.acks.length) (by omega) (gx2.cast (by omega)) (by omega)) ?_
 rintro u w9 ⟨rfl,r9,u9⟩
 have c9:=c8.upd u9 (by omega)
 have z9:=z8.upd u9 (by omega)
 have t9:=t8.upd u9 (by omega)
 have hs9:=hs8.go (F':=fun b=>b≤cb∨b=tb∨w9.heap.size≤b) eT_ok u9 fun b hb h=>by rcases h with h | h | h | h <;> (have:=u9.size; omega)
 have hk9:=eK_ok.go (F':=fun b=>b<w5.heap.size∨b=tb∨w9.heap.size≤b) hk8 u9 fun b hb h=>by rcases h with h | h | h | h <;> (have:=u9.size; omega)
 have hs9:=hs9.go (F':=fun b=>b≤cb∨b=tb∨w9.heap.size≤b) eT_ok (Upd.refl (F:=NoB)) fun b hb h=>h.elim (fun h=>h.elim) id
 have v9:=v8.trans u9 fun b h1 h=>h
 have s9:=u9.size
 clear c8 z8 t8 hs8 hk8 v8 r8 u9
 have htM:tb<w9.heap.size:=by omega
 generalize hM:w9.heap.size=M at *
 simp (disch:=omega) only [push_cast,seval]
 refine loop_inv (I:=fun k' st w'=>Bx (∃(j:Nat) (av:Value),k'+j=x.acks.length∧st = [.int .i64 (k':Int)]∧RdN w.heap.size w' p d (at_+(encU b.steps.length).length+((b.steps.take i).flatMap encT).length+(encB (encK x.c)).length+(encU x.acks.length).length+((x.acks.take j).flatMap encA).length) v∧Blk w' cb [.slice sa (b.steps.take i).length sc,.slice none 0 0] 35∧RowD eT w' (fun b=>b≤cb∨b=tb∨M≤b) (.slice sa (b.steps.take i).length sc) (b.steps.take i)∧Blk w' w.heap.size [.slice none 0 0,.slice none 0 0] 35∧Blk w' tb (ks ++ [av]) 88∧eK.C w' (fun b=>b<w5.heap.size∨b=tb∨M≤b) x.c ks∧RowD eA w' (fun b=>b<M) av (x.acks.take j)∧Upd (fun b=>b=p) w w'∧M≤w'.heap.size) ⟨⟩) ?_ x.acks.length ⟨0,.slice none 0 0,rfl,rfl,by simpa using r9,c9,hs9,z9,t9,hk9,.nil,v9,by omega⟩
 clear r9 c9 hs9 z9 t9 hk9 v9
 rintro k' st w10 ⟨j,av,hk',rfl,r10,c10,hs10,z10,t10,hk10,ha10,v10,s10⟩
 obtain ⟨aa,ac,rfl⟩:=ha10.form
 by_cases hk1:k'=0
 · subst hk1
   obtain rfl:j=x.acks.length:=by omega
   rw [List.take_length] at *
   have l10:=ld_blk (P:=Tryz.prog) (t:=88) t10 (by kernel_rfl) (by rw [List.length_append,kk]; kernel_rfl)
   have hsA:=hs10.go (F':=fun b=>b≤cb) eT_ok (Upd.refl (F:=NoB)) fun b _ h=>h.elim (fun h=>h.elim) .inl
   simp (maxSteps:=3000000) (disch:=omega) only [push_cast,seval,c10.cell,l10,bslT hk10]
   have hkB:=eK_ok.go (F':=fun z=>z≤cb∨(Value.slice sa (b.steps.take i).length sc).ownBlock=some z) hk10 (Upd.refl (F:=NoB)) fun b _ h=>by
     rcases h with h | h | h
     · exact h.elim
     · exact .inl (by omega)
     · exact .inl (hown b h)
   have haB:=(ha10.slD eA_ok).go (F':=fun z=>z≤cb∨(Value.slice sa (b.steps.take i).length sc).ownBlock=some z) eA_ok (Upd.refl (F:=NoB)) fun b _ h=>by
     rcases h with h | h | h
     · exact h.elim
     · show b<M; omega
     · have:=hown b h; show b<M; omega
   refine app1_t (x:=x) (cs:=ks ++ [.slice aa x.acks.length ac]) hsA ⟨ks,_,rfl,hkB,haB,hwx⟩ (fun b h=>by omega) (by simp; omega) ?_
   intro v' w11 hs11 u11 f11
   rw [htl] at hs11
   obtain ⟨va,vc',rfl⟩:=hs11.form
   have hof : ∀z,(Value.slice sa (b.steps.take i).length sc).ownBlock=some z→¬z≤cb:=fun z hb=>by have:=hsA.free hb; omega
   have r11:=r10.go u11 fun b h1 h2=>by have:=hof b h2; omega
   have c11:=c10.upd u11 fun h=>by have:=hof _ h; omega
   have z11:=z10.upd u11 fun h=>by have:=hof _ h; omega
   have s11:=u11.size
   have v11:=v10.trans u11 fun b h1 h2=>by have:=hof b h2; omega
   simp (disch:=omega) only [push_cast,seval,c11.cell,c11.free]
   have c12:=c11.set 0 (.slice va (b.steps.take (i+1)).length vc')
   have u12:Upd (fun b=>b=cb) w11 (w11.setCell ⟨cb,0,none⟩ (.slice va (b.steps.take (i+1)).length vc')):=Upd.set rfl
   simp only [List.set_cons_zero] at c12
   have z12:=z11.upd u12 (by omega)
   have r12:=r11.go u12 fun b h1 h2=>by omega
   have hs12:=hs11.go (F':=fun b=>b≤cb) eT_ok u12 fun b _ h=>h.elim (fun h=>by omega) id
   have v12:=v11.trans u12 fun b h1 h=>by omega
   have s12:=u12.size
   have e:at_+(encU b.steps.length).length+((b.steps.take i).flatMap encT).length+(encB (encK x.c)).length+(encU x.acks.length).length+(x.acks.flatMap encA).length=at_+(encU b.steps.length).length+((b.steps.take (i+1)).flatMap encT).length:=by rw [htk,List.length_append]; omega
   rw [e] at r12
   have ek3:((k-1:Nat):Int)=(k:Int)-1:=by omega
   exact ⟨k-1,by omega,i+1,_,by omega,by rw [ek3],r12,c12,hs12,z12,v12,by omega⟩
 have hj:j<x.acks.length:=by omega
 have hyj:=List.getElem?_eq_getElem hj
 have hwy:=hwx.2 _ (List.getElem_mem hj)
 generalize x.acks[j]=y at *
 have hley:=flat_len_at (f:=encA) hyj
 have htky:=flat_take (f:=encA) hyj
 have htly:x.acks.take j ++ [y]=x.acks.take (j+1):=by rw [List.take_add_one,hyj]; rfl
 have gy:=gx3.flat hyj
 have gy1:=gy.left
 have gy2:=gy.right
 have hly:(encA y).length=(encI y.rep).length+(encB y.tag).length:=by simp only [encA,List.length_append]
 have hlt:(encB y.tag).length=(encU y.tag.length).length+y.tag.length:=by simp [encB]
 have ek' : ¬(k':Int)≤0:=by omega
 simp (disch:=omega) only [push_cast,seval,ek']
 refine Ok.use (nErr_ok r10) ?_
 rintro u w11 ⟨rfl,rfl⟩
 simp (disch:=omega) only [push_cast,seval]
 refine Ok.use (nInt_ok r10 hwy.1 (gy1.cast (by omega))) ?_
 rintro u w11 ⟨rfl,r11,u11⟩
 have c11:=c10.upd u11 (by omega)
 have z11:=z10.upd u11 (by omega)
 have t11:=t10.upd u11 (by omega)
 have hs11:=hs10.go (F':=fun b=>b≤cb∨b=tb∨M≤b) eT_ok u11 fun b _ h=>h.elim (fun h=>by omega) id
 have hk11:=eK_ok.go (F':=fun b=>b<w5.heap.size∨b=tb∨M≤b) hk10 u11 fun b _ h=>h.elim (fun h=>by omega) id
 have ha11:=ha10.go (F':=fun b=>b<M) eA_ok u11 fun b _ h=>h.elim (fun h=>by omega) id
 have v11:=v10.trans u11 fun b h1 h=>h
 have s11:=u11.size
 simp (disch:=omega) only [push_cast,seval,bld_a0,zer_ack]
 have d12:=((Blk.new (w:=w11) (cs:=[.int .i64 0,.slice none 0 0]) (E:=154)).set 0 (.int .i64 y.rep)).set 1 (.slice none 0 0)
 have u12:Upd NoB w11 (((w11.alloc (.cells #[.int .i64 0,.slice none 0 0] 154 (0,0))).setCell ⟨w11.heap.size,0,none⟩ (.int .i64 y.rep)).setCell ⟨w11.heap.size,1,none⟩ (.slice none 0 0)):=(Upd.alloc.setNew (Nat.le_refl _)).setNew (Nat.le_refl _)
 simp only [List.set_cons_succ,List.set_cons_zero] at d12
 generalize ((w11.alloc (.cells #[.int .i64 0,.slice none 0 0] 154 (0,0))).setCell ⟨w11.heap.size,0,none⟩ (.int .i64 y.rep)).setCell ⟨w11.heap.size,1,none⟩ (.slice none 0 0)=w12 at *
 have c12:=c11.upd u12 fun h=>h
 have z12:=z11.upd u12 fun h=>h
 have t12:=t11.upd u12 fun h=>h
 have r12:=r11.go u12 fun _ _ h=>h
 have hs12:=hs11.go (F':=fun b=>b≤cb∨b=tb∨M≤b) eT_ok u12 fun b _ h=>h.elim (fun h=>h.elim) id
 have hk12:=eK_ok.go (F':=fun b=>b<w5.heap.size∨b=tb∨M≤b) hk11 u12 fun b _ h=>h.elim (fun h=>h.elim) id
 have ha12:=ha11.go (F':=fun b=>b<M∨b=w11.heap.size) eA_ok u12 fun b hb h=>h.elim (fun h=>h.elim) fun h=>h.elim id fun h=>by omega
 have v12:=v11.trans u12 fun b h1 h=>h.elim
 have hown2 : ∀g,(Value.slice aa (x.acks.take j).length ac).ownBlock=some g→g<w11.heap.size:=fun g hg=>ha11.lt hg
 have hxd:w11.heap.size<w12.heap.size:=d12.lt
 clear c10 c11 z10 z11 t10 t11 r10 r11 hs10 hs11 hk10 hk11 ha10 ha11 v10 v11 u11 u12
 generalize hxb:w11.heap.size=xb at *
 refine Ok.use (nBytes_ok r12 (b:=y.tag) (by omega) (gy2.cast (by omega))) ?_
 rintro u w13 ⟨hb13,hf13,r13,u13⟩
 have c13:=c12.upd u13 (by omega)
 have z13:=z12.upd u13 (by omega)
 have t13:=t12.upd u13 (by omega)
 have d13:=d12.upd u13 (by omega)
 have hs13:=hs12.go (F':=fun b=>b≤cb∨b=tb∨M≤b) eT_ok u13 fun b _ h=>h.elim (fun h=>by omega) id
 have hk13:=eK_ok.go (F':=fun b=>b<w5.heap.size∨b=tb∨M≤b) hk12 u13 fun b _ h=>h.elim (fun h=>by omega) id
 have ha13:=ha12.go (F':=fun b=>b<M∨b=xb) eA_ok u13 fun b _ h=>h.elim (fun h=>by omega) id
 have v13:=v12.trans u13 fun b h1 h=>h
 have s13:=u13.size
 obtain ⟨ya,yc,rfl,_⟩:=hb13.form
 have q13:=t13.cell 8
 rw [List.getElem?_append_right (by omega),kk] at q13
 simp (disch:=omega) only [push_cast,seval,d13.cell,d13.free,q13,bsl_a1]
 have d14:=d13.set 1 (.slice ya y.tag.length yc)
 have u14:Upd (fun b=>b=xb) w13 (w13.setCell ⟨xb,1,none⟩ (.slice ya y.tag.length yc)):=Upd.set rfl
 have c14:=c13.upd u14 (by omega)
 have z14:=z13.upd u14 (by omega)
 have t14:=t13.upd u14 (by omega)
 have r14:=r13.go u14 fun b h1 h2=>by omega
 have hs14:=hs13.go (F':=fun b=>b≤cb∨b=tb∨M≤b) eT_ok u14 fun b _ h=>h.elim (fun h=>by omega) id
 have hk14:=eK_ok.go (F':=fun b=>b<w5.heap.size∨b=tb∨M≤b) hk13 u14 fun b _ h=>h.elim (fun h=>by omega) id
 have ha14:=ha13.go (F':=fun b=>b<M∨b=xb) eA_ok u14 fun b _ h=>h.elim .inr id
 have v14:=v13.trans u14 fun b h1 h=>by omega
 have hbe:=(hb13.upd u14 fun b h1 h2=>by have:=hf13 b h1; omega).slb (F:=fun b=>(b<M∨b=xb)∨(Value.slice aa (x.acks.take j).length ac).ownBlock=some b) fun g hg h=>by
   have:=hf13 g hg
   rcases h with (h | h) | h
   · omega
   · omega
   · have:=hown2 g h; omega
 have se:(w13.setCell ⟨xb,1,none⟩ (.slice ya y.tag.length yc)).heap.size=w13.heap.size:=size_set
 generalize w13.setCell ⟨xb,1,none⟩ (.slice ya y.tag.length yc)=w14 at *
 rw [←se]
 refine app1_a (x:=y) (cs:=[.int .i64 y.rep,.slice ya y.tag.length yc]) ha14 ⟨_,rfl,hbe,hwy⟩ (fun b h=>by omega) (by simp; omega) ?_
 intro v' w15 ha15 u15 f15
 rw [htly] at ha15
 obtain ⟨va,vc',rfl⟩:=ha15.form
 have hof : ∀b,(Value.slice aa (x.acks.take j).length ac).ownBlock=some b→¬b<M:=fun b hb=>by have:=ha14.free hb; omega
 have r15:=r14.go u15 fun b h1 h2=>by have:=hof b h2; omega
 have c15:=c14.upd u15 fun h=>by have:=hof _ h; omega
 have z15:=z14.upd u15 fun h=>by have:=hof _ h; omega
 have t15:=t14.upd u15 fun h=>by have:=hof _ h; omega
 have hs15:=hs14.go (F':=fun b=>b≤cb∨b=tb∨M≤b) eT_ok u15 fun b _ h=>h.elim (fun h=>by have:=hof b h; omega) id
 have hk15:=eK_ok.go (F':=fun b=>b<w5.heap.size∨b=tb∨M≤b) hk14 u15 fun b _ h=>h.elim (fun h=>by have:=hof b h; omega) id
 have s15:=u15.size
 have v15:=v14.trans u15 fun b h1 h2=>by have:=hof b h2; omega
 have q15:=t15.cell 8
 rw [List.getElem?_append_right (by omega),kk] at q15
 simp (disch:=omega) only [push_cast,seval,q15,t15.free]
 have t16:=t15.set 8 (.slice va (x.acks.take (j+1)).length vc')
 have u16:Upd (fun b=>b=tb) w15 (w15.setCell ⟨tb,8,none⟩ (.slice va (x.acks.take (j+1)).length vc')):=Upd.set rfl
 have et:(ks ++ [Value.slice aa (x.acks.take j).length ac]).set 8 (.slice va (x.acks.take (j+1)).length vc')=ks ++ [Value.slice va (x.acks.take (j+1)).length vc']:=by rw [List.set_append_right _ _ (by omega),kk]; rfl
 rw [et] at t16
 have c16:=c15.upd u16 (by omega)
 have z16:=z15.upd u16 (by omega)
 have r16:=r15.go u16 fun b h1 h2=>by omega
 have hs16:=hs15.go (F':=fun b=>b≤cb∨b=tb∨M≤b) eT_ok u16 fun b _ h=>h.elim (fun h=>by omega) id
 have hk16:=eK_ok.go (F':=fun b=>b<w5.heap.size∨b=tb∨M≤b) hk15 u16 fun b _ h=>h.elim (fun h=>by omega) id
 have ha16:=ha15.go (F':=fun b=>b<M) eA_ok u16 fun b _ h=>h.elim (fun h=>.inl (by omega)) .inl
 have v16:=v15.trans u16 fun b h1 h=>by omega
 have s16:=u16.size
 have e:at_+(encU b.steps.length).length+((b.steps.take i).flatMap encT).length+(encB (encK x.c)).length+(encU x.acks.length).length+((x.acks.take j).flatMap encA).length+(encI y.rep).length+(encB y.tag).length=at_+(encU b.steps.length).length+((b.steps.take i).flatMap encT).length+(encB (encK x.c)).length+(encU x.acks.length).length+((x.acks.take (j+1)).flatMap encA).length:=by rw [htky,List.length_append]; omega
 rw [e] at r16
 have ek3:((k'-1:Nat):Int)=(k':Int)-1:=by omega
 exact ⟨k'-1,by omega,j+1,_,by omega,by rw [ek3],r16,c16,hs16,z16,t16,hk16,ha16,v16,by omega⟩
open Go
set_option maxRecDepth 100000
theorem encBs_rng {b:Bas} (h:BasW b):Rng (encBs b):=by
 obtain ⟨h1,h2⟩:=h
 unfold encBs encL
 refine ((encU_rng _).append (flat_rng fun s hs=>?_)).append ((encU_rng _).append (flat_rng fun x hx=>encB_rng (encC_rng (h2 x hx))))
 exact ((encB_rng (encK_rng (h1 s hs).1)).append (encU_rng _)).append (flat_rng fun a ha=>encI_rng.append (encB_rng ((h1 s hs).2 a ha).2))
theorem encCn_rng {c:Con} (h:ConW c):Rng (encCn c):=by
 obtain ⟨h1,h2,_⟩:=h
 unfold encCn encL
 exact ((encU_rng _).append (encBs_rng h2)).append ((encU_rng _).append (flat_rng fun x hx=>encB_rng (encC_rng (h1 x hx))))
theorem zer_con:zer Tryz.prog 90=some (.agg #[.slice none 0 0,.slice none 0 0,.slice none 0 0,.int .i64 0]):=by kernel_rfl
theorem bld_con (n:Int) (w:World):bldS Tryz.prog 90 #[(2,.int .i64 n)] w=some (.agg #[.slice none 0 0,.slice none 0 0,.slice none 0 0,.int .i64 n],w):=by kernel_rfl
set_option maxHeartbeats 4000000 in
theorem decode_ok {w:World} {F:Nat→Prop} {y:Value} {c:Con} (hy:SlB w F y (encCn c)) (hw:ConW c) (hs1:SrtC c.st) (hs2:SrtC c.bas.taken) (hl:(encCn c).length≤1000000) :
   Ok (den Tryz.prog 42 #[y] w) fun u w'=>∃cs,u = .tuple #[.agg cs.toArray,.bool true]∧eN.C w' (fun b=>b<w.heap.size) c cs∧Upd NoB w w':=by
 have hrg:=encCn_rng hw
 obtain ⟨ya,yc,rfl⟩:=hy.form
 refine den_okC2 (args:=[.slice ya (encCn c).length yc]) 2 90 3 Tryz.func42 rfl mixed in42 ok42 rfl ?_
 have hlen:=encCn_len (c:=c)
 have g3:Has (encCn c) 0 (encU c.life.toNat ++ encBs c.bas ++ encL c.st):=Has.all
 have g2:=g3.left
 have g1:=g2.left
 replace g3:=g3.right
 replace g2:=g2.right
 simp only [List.length_append,Nat.zero_add] at g2 g3
 generalize hd:encCn c=d at *
 obtain ⟨hst,hbas,hl0,hl1⟩:=id hw
 rw [W_seq]
 generalize hKs:KS _ _ _ _ _=Ks
 simp (disch:=omega) only [push_cast,seval,zer_con]
 have z1:=Blk.new (w:=w) (cs:=[.slice none 0 0,.slice none 0 0,.slice none 0 0,.int .i64 0]) (E:=90)
 have u1:Upd NoB w (w.alloc (.cells #[.slice none 0 0,.slice none 0 0,.slice none 0 0,.int .i64 0] 90 (0,0))):=Upd.alloc
 generalize w.alloc (.cells #[.slice none 0 0,.slice none 0 0,.slice none 0 0,.int .i64 0] 90 (0,0))=w1 at *
 have hy1:=hy.go (F':=F) u1 fun _ _ h=>h.elim (fun h=>h.elim) id
 have s1:w.heap.size<w1.heap.size:=z1.lt
 subst hKs
 rw [KS_nor]
 rw [W_seq]
 generalize hKs:KS _ _ _ _ _=Ks
 simp (disch:=omega) only [push_cast,seval]
 refine Ok.use (nNew_ok hy1 hrg hl) ?_
 rintro u w2 ⟨p,v,rfl,r2,hp,u2⟩
 have z2:=z1.upd u2 fun h=>h
 have v2:=u1.trans u2 fun _ _ h=>h
 have s2:=u2.size
 clear hy hy1 z1 u1 u2
 simp (disch:=omega) only [push_cast,seval]
 subst hKs
 rw [KS_nor]
 rw [W_seq]
 generalize hKs:KS _ _ _ _ _=Ks
 simp (disch:=omega) only [push_cast,seval]
 refine Ok.use (getLife_ok r2 (n:=c.life.toNat) (by omega) g1) ?_
 rintro u w3 ⟨rfl,r3,u3⟩
 have z3:=z2.upd u3 (by omega)
 have v3:=v2.trans u3 fun b h1 h=>by omega
 have s3:=u3.size
 have elf:(c.life.toNat:Int)=c.life:=by omega
 rw [elf]
 simp (disch:=omega) only [push_cast,seval,bld_con,zer_con]
 have c4:=((((Blk.new (w:=w3) (cs:=[.slice none 0 0,.slice none 0 0,.slice none 0 0,.int .i64 0]) (E:=90)).set 0 (.slice none 0 0)).set 1 (.slice none 0 0)).set 2 (.slice none 0 0)).set 3 (.int .i64 c.life)
 have u4:Upd NoB w3 (((((w3.alloc (.cells #[.slice none 0 0,.slice none 0 0,.slice none 0 0,.int .i64 0] 90 (0,0))).setCell ⟨w3.heap.size,0,none⟩ (.slice none 0 0)).setCell ⟨w3.heap.size,1,none⟩ (.slice none 0 0)).setCell ⟨w3.heap.size,2,none⟩ (.slice none 0 0)).setCell ⟨w3.heap.size,3,none⟩ (.int .i64 c.life)):=(((Upd.alloc.setNew (Nat.le_refl _)).setNew (Nat.le_refl _)).setNew (Nat.le_refl _)).setNew (Nat.le_refl _)
 simp only [List.set_cons_succ,List.set_cons_zero] at c4
 generalize ((((w3.alloc (.cells #[.slice none 0 0,.slice none 0 0,.slice none 0 0,.int .i64 0] 90 (0,0))).setCell ⟨w3.heap.size,0,none⟩ (.slice none 0 0)).setCell ⟨w3.heap.size,1,none⟩ (.slice none 0 0)).setCell ⟨w3.heap.size,2,none⟩ (.slice none 0 0)).setCell ⟨w3.heap.size,3,none⟩ (.int .i64 c.life)=w4 at *
 have r4:=(r3.go u4 fun _ _ h=>h).big s3
 have z4:=z3.upd u4 fun h=>h
 have v4:=v3.trans u4 fun _ _ h=>h
 have hw3:w.heap.size<w3.heap.size:=z3.lt
 have hN:w3.heap.size<w4.heap.size:=c4.lt
 have hpc:p<w3.heap.size:=Nat.lt_of_lt_of_le r2.fp s3
 clear r2 r3 z2 z3 v2 v3 u3
 generalize hcb:w3.heap.size=cb at *
 subst hKs
 rw [KS_nor]
 rw [W_seq]
 generalize hKs:KS _ _ _ _ _=Ks
 simp (disch:=omega) only [push_cast,seval]
 refine Ok.use (getBase_ok r4 hbas hs2 (g2.cast (by omega))) ?_
 rintro u w5 ⟨cs,rfl,hb5x,r5,u5⟩
 have hb5:=eB_ok.go (F':=fun b=>b≤cb) hb5x (Upd.refl (F:=NoB)) fun b _ h=>h.elim (fun h=>h.elim) fun h=>by show b<w4.heap.size; omega
 have c5:=c4.upd u5 (by omega)
 have z5:=z4.upd u5 (by omega)
 have v5:=v4.trans u5 fun b h1 h=>by omega
 have s5:=u5.size
 obtain ⟨bs,bt,rfl,hbs5,hbt5,hbw⟩:=hb5
 obtain ⟨sa,sc,rfl,_⟩:=hbs5.form
 obtain ⟨ka,kc,rfl,_⟩:=hbt5.form
 simp (disch:=omega) only [push_cast,seval,c5.cell,c5.free]
 have c6:=((c5.set 1 (.slice sa c.bas.steps.length sc)).set 2 (.slice ka c.bas.taken.length kc))
 have u6:Upd (fun b=>b=cb) w5 ((w5.setCell ⟨cb,1,none⟩ (.slice sa c.bas.steps.length sc)).setCell ⟨cb,2,none⟩ (.slice ka c.bas.taken.length kc)):=((Upd.set (F:=fun b=>b=cb) rfl).trans (Upd.set (F:=fun b=>b=cb) rfl) fun _ _ h=>h)
 have sz6:((w5.setCell ⟨cb,1,none⟩ (.slice sa c.bas.steps.length sc)).setCell ⟨cb,2,none⟩ (.slice ka c.bas.taken.length kc)).heap.size=w5.heap.size:=by simp only [size_set]
 simp only [List.set_cons_succ,List.set_cons_zero] at c6
 generalize (w5.setCell ⟨cb,1,none⟩ (.slice sa c.bas.steps.length sc)).setCell ⟨cb,2,none⟩ (.slice ka c.bas.taken.length kc)=w6 at *
 have z6:=z5.upd u6 (by omega)
 have r6:=r5.go u6 fun b h1 h2=>by omega
 have v6:=v5.trans u6 fun b h1 h=>by omega
 have hbs6:=hbs5.go (F':=fun b=>b≤cb) eT_ok u6 fun b _ h=>h.elim (fun h=>by omega) id
 have hbt6:=hbt5.go (F':=fun b=>b≤cb) eC_ok u6 fun b _ h=>h.elim (fun h=>by omega) id
 have s6:=u6.size
 subst hKs
 rw [KS_nor]
 rw [W_seq]
 generalize hKs:KS _ _ _ _ _=Ks
 simp (disch:=omega) only [push_cast,seval]
 refine Ok.use (getSorted_ok r6 hst hs1 (g3.cast (by omega))) ?_
 rintro u w7 ⟨htx,r7,u7⟩
 have c7:=c6.upd u7 (by omega)
 have z7:=z6.upd u7 (by omega)
 have v7:=v6.trans u7 fun b h1 h=>by omega
 have hbs7:=hbs6.go (F':=fun b=>b≤cb) eT_ok u7 fun b _ h=>h.elim (fun h=>by omega) id
 have hbt7:=hbt6.go (F':=fun b=>b≤cb) eC_ok u7 fun b _ h=>h.elim (fun h=>by omega) id
 have s7:=u7.size
 have ht7:=htx.go (F':=fun b=>b≤cb) eC_ok (Upd.refl (F:=NoB)) fun b _ h=>h.elim (fun h=>h.elim) fun h=>by show b<w6.heap.size; have:=c6.lt; omega
 obtain ⟨ta,tc,rfl⟩:=ht7.form
 simp (disch:=omega) only [push_cast,seval,c7.cell,c7.free]
 have c8:=(c7.set 0 (.slice ta c.st.length tc))
 have u8:Upd (fun b=>b=cb) w7 (w7.setCell ⟨cb,0,none⟩ (.slice ta c.st.length tc)):=Upd.set (F:=fun b=>b=cb) rfl
 have sz8:(w7.setCell ⟨cb,0,none⟩ (.slice ta c.st.length tc)).heap.size=w7.heap.size:=by simp only [size_set]
 simp only [List.set_cons_succ,List.set_cons_zero] at c8
 generalize w7.setCell ⟨cb,0,none⟩ (.slice ta c.st.length tc)=w8 at *
 have z8:=z7.upd u8 (by omega)
 have r8:=r7.go u8 fun b h1 h2=>by omega
 have v8:=v7.trans u8 fun b h1 h=>by omega
 have hbs8:=hbs7.go (F':=fun b=>b≤cb) eT_ok u8 fun b _ h=>h.elim (fun h=>by omega) id
 have hbt8:=hbt7.go (F':=fun b=>b≤cb) eC_ok u8 fun b _ h=>h.elim (fun h=>by omega) id
 have ht8:=ht7.go (F':=fun b=>b≤cb) eC_ok u8 fun b _ h=>h.elim (fun h=>by omega) id
 have s8:=u8.size
 have ee:0+(encU c.life.toNat).length+(encBs c.bas).length+(encL c.st).length=d.length:=by omega
 rw [ee] at r8
 subst hKs
 rw [KS_nor]
 have lA : ∀{w':World},Upd NoB w8 w'→ldS Tryz.prog 90 (.pointer (some ⟨cb,0,none⟩)) w'=some (.agg #[Value.slice ta c.st.length tc,.slice sa c.bas.steps.length sc,.slice ka c.bas.taken.length kc,.int .i64 c.life],w'):=fun u=>ld_blk (P:=Tryz.prog) (t:=90) (c8.upd u (fun h=>h)) (by kernel_rfl) (by kernel_rfl)
 simp (maxSteps:=3000000) (disch:=omega) only [push_cast,seval,↓nthK_zero,↓nthK_succ,lA Upd.drew]
 refine Ok.use (nEnd_ok (r8.go (Upd.drew (F:=NoB)) fun _ _ h=>h)) ?_
 rintro u w9 ⟨rfl,u9'⟩
 have u9:Upd NoB w8 w9:=(Upd.drew (F:=NoB)).trans u9' fun _ _ h=>h
 have z9:=z8.upd u9 fun h=>h
 have z10:=z9.setRow (cs':=[.slice ta c.st.length tc,.slice sa c.bas.steps.length sc,.slice ka c.bas.taken.length kc,.int .i64 c.life])
 have u10:Upd (fun b=>b=w.heap.size) w9 (w9.setRow w.heap.size [.slice ta c.st.length tc,.slice sa c.bas.steps.length sc,.slice ka c.bas.taken.length kc,.int .i64 c.life].toArray):=Upd.setRow rfl
 simp (maxSteps:=3000000) (disch:=omega) only [push_cast,seval,↓nthK_zero,↓nthK_succ,lA Upd.drew,lA u9,st_blk (P:=Tryz.prog) (t:=90) (cs':=[.slice ta c.st.length tc,.slice sa c.bas.steps.length sc,.slice ka c.bas.taken.length kc,.int .i64 c.life]) z9 (by kernel_rfl) rfl (by simp [Value.oneCell']),ld_blk (P:=Tryz.prog) (t:=90) z10 (by kernel_rfl) (by kernel_rfl)]
 have u810:=(u9.mono (G:=fun b=>b=w.heap.size) fun _ _ h=>h.elim).trans u10 fun _ _ h=>h
 have k1:=hbs8.go (F':=fun b=>b<w.heap.size) eT_ok u810 fun b _ h=>by omega
 have k2:=hbt8.go (F':=fun b=>b<w.heap.size) eC_ok u810 fun b _ h=>by omega
 have k3:=(ht8.slD eC_ok).go (F':=fun b=>b<w.heap.size) eC_ok u810 fun b _ h=>by omega
 exact ⟨[.slice ta c.st.length tc,.slice sa c.bas.steps.length sc,.slice ka c.bas.taken.length kc,.int .i64 c.life],rfl,⟨_,_,_,rfl,k3,⟨_,_,rfl,k1,k2,hbw⟩,hw⟩,v8.trans u810 fun b h1 h=>by omega⟩
set_option maxHeartbeats 4000000 in
theorem copied_ok {w:World} {F:Nat→Prop} {c:Con} {cs:List Value} (hc:eN.C w F c cs) (hs1:SrtC c.st) (hs2:SrtC c.bas.taken) (hl:(encCn c).length≤1000000) :
   Ok (den Tryz.prog 59 #[.agg cs.toArray] w) fun u w'=>∃cs',u = .agg cs'.toArray∧eN.C w' (fun b=>b<w.heap.size) c cs'∧Upd NoB w w':=by
 refine den_okC1 (args:=[.agg cs.toArray]) 2 90 Tryz.func59 rfl mixed in59 ok59 rfl ?_
 have hw:ConW c:=by obtain ⟨_,_,_,_,_,_,h⟩:=hc; exact h
 have kn:=eN_ok.len hc
 have es:eN.s=4:=rfl
 rw [es] at kn
 rw [W_seq]
 generalize hKs:KS _ _ _ _ _=Ks
 simp (disch:=omega) only [push_cast,seval,zer_con]
 have b2:=(Blk.new (w:=w) (cs:=cs) (E:=90)).alloc (.cells #[Value.slice none 0 0,.slice none 0 0,.slice none 0 0,.int .i64 0] 90 (0,0))
 have z2:=Blk.new (w:=w.alloc (.cells cs.toArray 90 (0,0))) (cs:=[.slice none 0 0,.slice none 0 0,.slice none 0 0,.int .i64 0]) (E:=90)
 have u2:Upd NoB w ((w.alloc (.cells cs.toArray 90 (0,0))).alloc (.cells #[Value.slice none 0 0,.slice none 0 0,.slice none 0 0,.int .i64 0] 90 (0,0))):=Upd.alloc.alloc'
 rw [size_alloc] at z2
 have hc2:=eN_ok.go (F':=F) hc u2 fun _ _ h=>h.elim (fun h=>h.elim) id
 generalize (w.alloc (.cells cs.toArray 90 (0,0))).alloc (.cells #[Value.slice none 0 0,.slice none 0 0,.slice none 0 0,.int .i64 0] 90 (0,0))=w2 at *
 subst hKs
 rw [KS_nor]
 rw [W_seq]
 generalize hKs:KS _ _ _ _ _=Ks
 simp (maxSteps:=3000000) (disch:=omega) only [push_cast,seval,ld_blk (P:=Tryz.prog) (t:=90) b2 (by kernel_rfl) (by rw [kn]; kernel_rfl)]
 refine Ok.use (nEncode_ok hc2 (by omega)) ?_
 rintro u w3 ⟨h3,hf3,u3⟩
 obtain ⟨ya,yc,rfl,_⟩:=h3.form
 have z3:=z2.upd u3 fun h=>h
 have v3:=u2.trans u3 fun _ _ h=>h
 simp (disch:=omega) only [push_cast,seval]
 refine Ok.use (decode_ok (h3.slb (F:=NoB) fun g hg h=>h) hw hs1 hs2 hl) ?_
 rintro u w4 ⟨ds,rfl,hd4,u4⟩
 have z4:=z3.upd u4 fun h=>h
 have v4:=v3.trans u4 fun _ _ h=>h
 have kd:=eN_ok.len hd4
 rw [es] at kd
 have hzs:w.heap.size+1<w3.heap.size:=z3.lt
 have b5:=Blk.new (w:=w4) (cs:=[.slice none 0 0,.slice none 0 0,.slice none 0 0,.int .i64 0]) (E:=90)
 obtain ⟨b6,u6⟩:=boxW (w:=w4) (zs:=[.slice none 0 0,.slice none 0 0,.slice none 0 0,.int .i64 0]) (cs:=ds) (E:=90)
 simp (maxSteps:=3000000) (disch:=omega) only [push_cast,seval,zer_con,st_blk (P:=Tryz.prog) (t:=90) (cs':=ds) b5 (by rw [kd]; kernel_rfl) (by rw [kd]; rfl) (eN_ok.one hd4)]
 generalize (w4.alloc (.cells [Value.slice none 0 0,.slice none 0 0,.slice none 0 0,.int .i64 0].toArray 90 (0,0))).setRow w4.heap.size ds.toArray=w6 at *
 have hd6:=eN_ok.go (F':=fun b=>b<w3.heap.size) hd4 u6 fun _ _ h=>h.elim (fun h=>h.elim) id
 have z6:=z4.upd u6 fun h=>h
 have v6:=v4.trans u6 fun _ _ h=>h
 subst hKs
 rw [KS_nor]
 have z7:=z6.setRow (cs':=ds)
 have u7:Upd (fun b=>b=w.heap.size+1) w6 (w6.setRow (w.heap.size+1) ds.toArray):=Upd.setRow rfl
 simp (maxSteps:=3000000) (disch:=omega) only [push_cast,seval,ld_blk (P:=Tryz.prog) (t:=90) b6 (by kernel_rfl) (by rw [kd]; kernel_rfl),st_blk (P:=Tryz.prog) (t:=90) (cs':=ds) z6 (by rw [kd]; kernel_rfl) (by rw [kd]; rfl) (eN_ok.one hd4),ld_blk (P:=Tryz.prog) (t:=90) z7 (by kernel_rfl) (by rw [kd]; kernel_rfl)]
 exact ⟨ds,rfl,eN_ok.go (F':=fun b=>b<w.heap.size) hd6 u7 fun b _ h=>by show b<w3.heap.size; omega,v6.trans u7 fun b h1 h=>by omega⟩
end Go.Proofs.YtpgigkceoolgeaaGreatDoor.Fd
