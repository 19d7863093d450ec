import Derived.Test.YtpgigkceoolgeaaGreatDoorY16
set_option linter.all false
namespace Go.Proofs.YtpgigkceoolgeaaGreatDoor.Fd
open Go
set_option maxRecDepth 100000
theorem getLife_ok {N:Nat} {w:World} {p:Nat} {d:List Int} {at_:Nat} {v:Value} (h:RdN N w p d at_ v) {n:Nat} (hn:n≤4611686018427387904) (hh:Has d at_ (encU n)) :
   Ok (den Tryz.prog 78 #[.pointer (some ⟨p,0,none⟩)] w) fun u w'=>u = .int .i64 (n:Int)∧RdN N w' p d (at_+(encU n).length) v∧Upd (fun b=>b=p) w w':=by
 refine den_ok (args:=[.pointer (some ⟨p,0,none⟩)]) rs78 Tryz.func78 rfl mixed in78 ok78 rfl ?_
 simp (disch:=omega) only [push_cast,seval]
 refine Ok.use (nUint_ok h (n:=n) (by omega) hh) ?_
 rintro u w1 ⟨rfl,r1,u1⟩
 have e1 : ¬(4611686018427387904:Int)<(n:Int):=by omega
 simp (disch:=omega) only [push_cast,seval,e1]
 exact ⟨r1,u1⟩
theorem kInt_ok {N:Nat} {w:World} {p rb:Nat} {d:List Int} {at_:Nat} {v:Value} {E:TypeId} (h:RdN N w p d at_ v) (hq:Blk w rb [.pointer (some ⟨p,0,none⟩)] E) {n:Int} (hn:I64 n) (hh:Has d at_ (encI n)) :
   Ok (den Tryz.prog 160 #[.pointer (some ⟨rb,0,none⟩)] w) fun u w'=>u = .int .i64 n∧RdN N w' p d (at_+(encI n).length) v∧Upd (fun b=>b=p) w w':=by
 refine den_ok (args:=[.pointer (some ⟨rb,0,none⟩)]) rs160 Tryz.func160 rfl mixed in160 ok160 rfl ?_
 simp (disch:=omega) only [push_cast,seval,hq.cell]
 refine Ok.use (nInt_ok h hn hh) ?_
 rintro u w1 ⟨rfl,r1,u1⟩
 simp (disch:=omega) only [push_cast,seval]
 exact ⟨r1,u1⟩
theorem bld_k0 (w:World):bldS Tryz.prog 85 #[] w=some (.agg #[.int .i64 0,.int .i64 0,.int .i64 0,.slice none 0 0,.slice none 0 0,.slice none 0 0,.int .i64 0,.slice none 0 0],w):=by kernel_rfl
theorem zer_clm:zer Tryz.prog 85=some (.agg #[.int .i64 0,.int .i64 0,.int .i64 0,.slice none 0 0,.slice none 0 0,.slice none 0 0,.int .i64 0,.slice none 0 0]):=by kernel_rfl
theorem bld_r2 (a b:Int) (w:World):bldS Tryz.prog 175 #[(0,.int .i64 a),(1,.int .i64 b)] w=some (.agg #[.int .i64 a,.int .i64 b,.slice none 0 0],w):=by kernel_rfl
theorem bsl_r1 (a b:Int) (x:Option Addr) (n c:Nat) (w:World):bslS Tryz.prog 83 1 #[(0,.agg #[.int .i64 a,.int .i64 b,.slice x n c])] w=some (.slice (some ⟨w.heap.size,0,none⟩) 1 1,w.alloc (.cells [.int .i64 a,.int .i64 b,.slice x n c].toArray 175 (0,0))):=by kernel_rfl
theorem claim_str:strOfNums claimL=⟨#[99,108,97,105,109]⟩:=rfl
theorem encK_rng {c:Clm} (h:ClmW c):Rng (encK c):=by
 obtain ⟨i1,i2,i3,i4,ho,hr,hb,hf⟩:=h
 unfold encK encL
 refine (((((((((encB_rng (fun x hx=>?_)).append encI_rng).append encI_rng).append encI_rng).append (encU_rng _)).append (flat_rng fun x hx=>(encI_rng.append encI_rng).append (encB_rng (hr x hx).2.2))).append ((encU_rng _).append (flat_rng fun x hx=>encB_rng (encC_rng (hb x hx))))).append ((encU_rng _).append (flat_rng fun x hx=>encB_rng (encC_rng (hf x hx))))).append encI_rng).append (encB_rng ho)
 simp [claimL] at hx
 rcases hx with rfl | rfl | rfl | rfl | rfl <;> decide
set_option maxHeartbeats 4000000 in
theorem getClaim_ok {w:World} {F:Nat→Prop} {y:Value} {c:Clm} (hy:SlB w F y (encK c)) (hw:ClmW c) (hl:(encK c).length≤1000000) :
   Ok (den Tryz.prog 130 #[y] w) fun u w'=>∃cs,u = .tuple #[.agg cs.toArray,.bool true]∧eK.C w' (fun b=>b<w.heap.size) c cs∧Upd NoB w w':=by
 have hrg:=encK_rng hw
 obtain ⟨ya,yc,rfl⟩:=hy.form
 refine den_okC2 (args:=[.slice ya (encK c).length yc]) 2 85 3 Tryz.func130 rfl mixed in130 ok130 rfl ?_
 have hlen:=encK_len (c:=c)
 have hlo:(encB c.root).length=(encU c.root.length).length+c.root.length:=by simp [encB]
 have hel:(encB claimL).length=6:=by rw [encB,encU_small (by decide)]; rfl
 have g9:Has (encK c) 0 (encB claimL ++ encI c.rr ++ encI c.rl ++ encI c.rn ++ encU c.reads.length ++ c.reads.flatMap encR ++ encL c.base ++ encL c.conf ++ encI c.count ++ encB c.root):=Has.all
 have g8:=g9.left
 have g7:=g8.left
 have g6:=g7.left
 have g5:=g6.left
 have g4:=g5.left
 have g3:=g4.left
 have g2:=g3.left
 have g1:=g2.left
 have g0:=g1.left
 replace g9:=g9.right
 replace g8:=g8.right
 replace g7:=g7.right
 replace g6:=g6.right
 replace g5:=g5.right
 replace g4:=g4.right
 replace g3:=g3.right
 replace g2:=g2.right
 replace g1:=g1.right
 simp only [List.length_append,Nat.zero_add,hel] at g1 g2 g3 g4 g5 g6 g7 g8 g9
 generalize hd:encK c=d at *
 obtain ⟨i1,i2,i3,i4,hoo,hww,hbb,hff⟩:=hw
 have hwl:c.reads.length≤(c.reads.flatMap encR).length:=flat_ge fun x=>by have:=encU_pos x.tag.length; simp [encR,encB]; omega
 rw [W_seq]
 generalize hKs:KS _ _ _ _ _=Ks
 simp (disch:=omega) only [push_cast,seval,zer_clm]
 have z1:=Blk.new (w:=w) (cs:=[.int .i64 0,.int .i64 0,.int .i64 0,.slice none 0 0,.slice none 0 0,.slice none 0 0,.int .i64 0,.slice none 0 0]) (E:=85)
 have u1:Upd NoB w (w.alloc (.cells #[.int .i64 0,.int .i64 0,.int .i64 0,.slice none 0 0,.slice none 0 0,.slice none 0 0,.int .i64 0,.slice none 0 0] 85 (0,0))):=Upd.alloc
 have hy1:=hy.go (F':=F) u1 fun _ _ h=>h.elim (fun h=>h.elim) id
 have s1:(w.alloc (.cells #[.int .i64 0,.int .i64 0,.int .i64 0,.slice none 0 0,.slice none 0 0,.slice none 0 0,.int .i64 0,.slice none 0 0] 85 (0,0))).heap.size=w.heap.size+1:=size_alloc
 generalize w.alloc (.cells #[.int .i64 0,.int .i64 0,.int .i64 0,.slice none 0 0,.slice none 0 0,.slice none 0 0,.int .i64 0,.slice none 0 0] 85 (0,0))=w1 at *
 subst hKs
 rw [KS_nor]
 rw [W_seq]
 generalize hKs:KS _ _ _ _ _=Ks
 simp (disch:=omega) only [push_cast,seval]
 refine Ok.use (nNew_ok hy1 hrg hl) ?_
 rintro u w2 ⟨p,v,rfl,r2,hp,u2⟩
 have z2:=z1.upd u2 fun h=>h
 have v2:=u1.trans u2 fun _ _ h=>h
 have s2:=u2.size
 clear hy hy1 z1 u1 u2
 simp (disch:=omega) only [push_cast,seval]
 have q3:=(Blk.new (w:=w2) (cs:=[.pointer none]) (E:=132)).set 0 (.pointer (some ⟨p,0,none⟩))
 have u3:Upd NoB w2 ((w2.alloc (.cells #[.pointer none] 132 (0,0))).setCell ⟨w2.heap.size,0,none⟩ (.pointer (some ⟨p,0,none⟩))):=Upd.alloc.setNew (Nat.le_refl _)
 simp only [List.set_cons_succ,List.set_cons_zero] at q3
 generalize (w2.alloc (.cells #[.pointer none] 132 (0,0))).setCell ⟨w2.heap.size,0,none⟩ (.pointer (some ⟨p,0,none⟩))=w3 at *
 have z3:=z2.upd u3 fun h=>h
 have r3:=r2.go u3 fun _ _ h=>h
 have v3:=v2.trans u3 fun _ _ h=>h
 have s3:=u3.size
 have hprb:p<w2.heap.size:=r2.fp
 generalize hrb:w2.heap.size=rb at *
 subst hKs
 rw [KS_nor]
 rw [W_seq]
 generalize hKs:KS _ _ _ _ _=Ks
 simp (disch:=omega) only [push_cast,seval,q3.cell]
 refine Ok.use (nText_ok r3 (b:=claimL) (by decide) g0) ?_
 rintro u w4 ⟨rfl,r4,u4⟩
 rw [claim_str]
 rw [hel] at r4
 have z4:=z3.upd u4 (by omega)
 have q4:=q3.upd u4 (by omega)
 have v4:=v3.trans u4 fun b h1 h=>by omega
 have s4:=u4.size
 simp (disch:=omega) only [push_cast,seval,beq_self_eq_true,Bool.not_true]
 subst hKs
 rw [KS_nor]
 rw [W_seq]
 generalize hKs:KS _ _ _ _ _=Ks
 simp (disch:=omega) only [push_cast,seval]
 subst hKs
 rw [KS_nor]
 rw [W_seq]
 generalize hKs:KS _ _ _ _ _=Ks
 simp (disch:=omega) only [push_cast,seval,bld_k0,zer_clm]
 have c5:=((((((((Blk.new (w:=w4) (cs:=[.int .i64 0,.int .i64 0,.int .i64 0,.slice none 0 0,.slice none 0 0,.slice none 0 0,.int .i64 0,.slice none 0 0]) (E:=85)).set 0 (.int .i64 0)).set 1 (.int .i64 0)).set 2 (.int .i64 0)).set 3 (.slice none 0 0)).set 4 (.slice none 0 0)).set 5 (.slice none 0 0)).set 6 (.int .i64 0)).set 7 (.slice none 0 0)
 have u5:Upd NoB w4 (((((((((w4.alloc (.cells #[.int .i64 0,.int .i64 0,.int .i64 0,.slice none 0 0,.slice none 0 0,.slice none 0 0,.int .i64 0,.slice none 0 0] 85 (0,0))).setCell ⟨w4.heap.size,0,none⟩ (.int .i64 0)).setCell ⟨w4.heap.size,1,none⟩ (.int .i64 0)).setCell ⟨w4.heap.size,2,none⟩ (.int .i64 0)).setCell ⟨w4.heap.size,3,none⟩ (.slice none 0 0)).setCell ⟨w4.heap.size,4,none⟩ (.slice none 0 0)).setCell ⟨w4.heap.size,5,none⟩ (.slice none 0 0)).setCell ⟨w4.heap.size,6,none⟩ (.int .i64 0)).setCell ⟨w4.heap.size,7,none⟩ (.slice none 0 0)):=(((((((Upd.alloc.setNew (Nat.le_refl _)).setNew (Nat.le_refl _)).setNew (Nat.le_refl _)).setNew (Nat.le_refl _)).setNew (Nat.le_refl _)).setNew (Nat.le_refl _)).setNew (Nat.le_refl _)).setNew (Nat.le_refl _)
 simp only [List.set_cons_succ,List.set_cons_zero] at c5
 generalize ((((((((w4.alloc (.cells #[.int .i64 0,.int .i64 0,.int .i64 0,.slice none 0 0,.slice none 0 0,.slice none 0 0,.int .i64 0,.slice none 0 0] 85 (0,0))).setCell ⟨w4.heap.size,0,none⟩ (.int .i64 0)).setCell ⟨w4.heap.size,1,none⟩ (.int .i64 0)).setCell ⟨w4.heap.size,2,none⟩ (.int .i64 0)).setCell ⟨w4.heap.size,3,none⟩ (.slice none 0 0)).setCell ⟨w4.heap.size,4,none⟩ (.slice none 0 0)).setCell ⟨w4.heap.size,5,none⟩ (.slice none 0 0)).setCell ⟨w4.heap.size,6,none⟩ (.int .i64 0)).setCell ⟨w4.heap.size,7,none⟩ (.slice none 0 0)=w5 at *
 have z5:=z4.upd u5 fun h=>h
 have q5:=q4.upd u5 fun h=>h
 have r5:=(r4.go u5 fun _ _ h=>h).big (Nat.le_trans (Nat.le_of_lt q3.lt) s4)
 have v5:=v4.trans u5 fun _ _ h=>h
 have hw3:w.heap.size<w4.heap.size:=z4.lt
 have hqc:rb<w4.heap.size:=q4.lt
 have hcw:w4.heap.size<w5.heap.size:=c5.lt
 have hwr:w.heap.size<rb:=by omega
 clear z3 z4 q3 q4 r2 r3 r4 v2 v3 v4 u3 u4 u5
 generalize hcb:w4.heap.size=cb at *
 subst hKs
 rw [KS_nor]
 rw [W_seq]
 generalize hKs:KS _ _ _ _ _=Ks
 simp (disch:=omega) only [push_cast,seval]
 refine Ok.use (kInt_ok r5 q5 i1 (g1.cast (by omega))) ?_
 rintro u w6 ⟨rfl,r6,u6⟩
 have c6:=c5.upd u6 (by omega)
 have z6:=z5.upd u6 (by omega)
 have q6:=q5.upd u6 (by omega)
 have v6:=v5.trans u6 fun b h1 h=>by omega
 have s6:=u6.size
 simp (disch:=omega) only [push_cast,seval]
 refine Ok.use (kInt_ok r6 q6 i2 (g2.cast (by omega))) ?_
 rintro u w7 ⟨rfl,r7,u7⟩
 have c7:=c6.upd u7 (by omega)
 have z7:=z6.upd u7 (by omega)
 have q7:=q6.upd u7 (by omega)
 have v7:=v6.trans u7 fun b h1 h=>by omega
 have s7:=u7.size
 simp (disch:=omega) only [push_cast,seval]
 refine Ok.use (kInt_ok r7 q7 i3 (g3.cast (by omega))) ?_
 rintro u w8 ⟨rfl,r8,u8⟩
 have c8:=c7.upd u8 (by omega)
 have z8:=z7.upd u8 (by omega)
 have q8:=q7.upd u8 (by omega)
 have v8:=v7.trans u8 fun b h1 h=>by omega
 have s8:=u8.size
 simp (disch:=omega) only [push_cast,seval,c8.cell,c8.free]
 have c9:=(((c8.set 0 (.int .i64 c.rr)).set 1 (.int .i64 c.rl)).set 2 (.int .i64 c.rn))
 have u9:Upd (fun b=>b=cb) w8 (((w8.setCell ⟨cb,0,none⟩ (.int .i64 c.rr)).setCell ⟨cb,1,none⟩ (.int .i64 c.rl)).setCell ⟨cb,2,none⟩ (.int .i64 c.rn)):=((((Upd.set (F:=fun b=>b=cb) rfl).trans (Upd.set (F:=fun b=>b=cb) rfl) fun _ _ h=>h)).trans (Upd.set (F:=fun b=>b=cb) rfl) fun _ _ h=>h)
 have sz9:(((w8.setCell ⟨cb,0,none⟩ (.int .i64 c.rr)).setCell ⟨cb,1,none⟩ (.int .i64 c.rl)).setCell ⟨cb,2,none⟩ (.int .i64 c.rn)).heap.size=w8.heap.size:=by simp only [size_set]
 simp only [List.set_cons_succ,List.set_cons_zero] at c9
 generalize ((w8.setCell ⟨cb,0,none⟩ (.int .i64 c.rr)).setCell ⟨cb,1,none⟩ (.int .i64 c.rl)).setCell ⟨cb,2,none⟩ (.int .i64 c.rn)=w9 at *
 have z9:=z8.upd u9 (by omega)
 have q9:=q8.upd u9 (by omega)
 have r9:=r8.go u9 fun b h1 h2=>by omega
 have v9:=v8.trans u9 fun b h1 h=>by omega
 have s9:=u9.size
 clear c5 c6 c7 c8 z5 z6 z7 z8 q5 q6 q7 q8 r5 r6 r7 r8 v5 v6 v7 v8 u6 u7 u8 u9
 subst hKs
 rw [KS_nor]
 rw [W_seq]
 generalize hKs:KS _ _ _ _ _=Ks
 simp (disch:=omega) only [push_cast,seval,q9.cell]
 refine Ok.use (nCount_ok r9 (n:=c.reads.length) (by omega) (g4.cast (by omega)) (by omega)) ?_
 rintro u w10 ⟨rfl,r10,u10⟩
 have c10:=c9.upd u10 (by omega)
 have z10:=z9.upd u10 (by omega)
 have q10:=q9.upd u10 (by omega)
 have v10:=v9.trans u10 fun b h1 h=>by omega
 have s10:=u10.size
 clear c9 z9 q9 r9 v9 u10
 simp (disch:=omega) only [push_cast,seval]
 refine loop_inv (I:=fun k st w'=>Bx (∃(i:Nat) (rv:Value),k+i=c.reads.length∧st = [.int .i64 (k:Int)]∧RdN cb w' p d (6+(encI c.rr).length+(encI c.rl).length+(encI c.rn).length+(encU c.reads.length).length+((c.reads.take i).flatMap encR).length) v∧Blk w' cb [.int .i64 c.rr,.int .i64 c.rl,.int .i64 c.rn,rv,.slice none 0 0,.slice none 0 0,.int .i64 0,.slice none 0 0] 85∧RowD eR w' (fun b=>b≤cb) rv (c.reads.take i)∧Blk w' w.heap.size [.int .i64 0,.int .i64 0,.int .i64 0,.slice none 0 0,.slice none 0 0,.slice none 0 0,.int .i64 0,.slice none 0 0] 85∧Blk w' rb [.pointer (some ⟨p,0,none⟩)] 132∧Upd NoB w w'∧w10.heap.size≤w'.heap.size) ⟨⟩) ?_ c.reads.length ⟨0,.slice none 0 0,rfl,rfl,by simpa using r10,c10,.nil,z10,q10,v10,Nat.le_refl _⟩
 clear r10 c10 z10 q10 v10
 rintro k st w11 ⟨i,rv,hk,rfl,r11,c11,hr11,z11,q11,v11,s11⟩
 obtain ⟨rva,rvc,rfl⟩:=hr11.form
 by_cases hk0:k=0
 · subst hk0
   obtain rfl:i=c.reads.length:=by omega
   rw [List.take_length] at *
   simp (disch:=omega) only [push_cast,seval]
   subst hKs
   rw [KS_nor]
   rw [W_seq]
   generalize hKs:KS _ _ _ _ _=Ks
   simp (disch:=omega) only [push_cast,seval,q11.cell]
   refine Ok.use (getCommands_ok r11 hbb (g6.cast (by omega))) ?_
   rintro u w12 ⟨hbx,r12,u12⟩
   have c12:=c11.upd u12 (by omega)
   have z12:=z11.upd u12 (by omega)
   have q12:=q11.upd u12 (by omega)
   have v12:=v11.trans u12 fun b h1 h=>by omega
   have hr12:=hr11.go (F':=fun b=>b≤cb) eR_ok u12 fun b _ h=>h.elim (fun h=>by omega) id
   have s12:=u12.size
   have hb12:=hbx.go (F':=fun b=>b≤cb) eC_ok (Upd.refl (F:=NoB)) fun b _ h=>h.elim (fun h=>h.elim) fun h=>by show b<w11.heap.size; have:=c11.lt; omega
   obtain ⟨ba,bc,rfl⟩:=hb12.form
   simp (disch:=omega) only [push_cast,seval,c12.cell,c12.free]
   have c13:=(c12.set 4 (.slice ba c.base.length bc))
   have u13:Upd (fun b=>b=cb) w12 (w12.setCell ⟨cb,4,none⟩ (.slice ba c.base.length bc)):=Upd.set (F:=fun b=>b=cb) rfl
   have sz13:(w12.setCell ⟨cb,4,none⟩ (.slice ba c.base.length bc)).heap.size=w12.heap.size:=by simp only [size_set]
   simp only [List.set_cons_succ,List.set_cons_zero] at c13
   generalize w12.setCell ⟨cb,4,none⟩ (.slice ba c.base.length bc)=w13 at *
   have z13:=z12.upd u13 (by omega)
   have q13:=q12.upd u13 (by omega)
   have r13:=r12.go u13 fun b h1 h2=>by omega
   have v13:=v12.trans u13 fun b h1 h=>by omega
   have hr13:=hr12.go (F':=fun b=>b≤cb) eR_ok u13 fun b _ h=>h.elim (fun h=>by omega) id
   have hb13:=hb12.go (F':=fun b=>b≤cb) eC_ok u13 fun b _ h=>h.elim (fun h=>by omega) id
   have s13:=u13.size
   subst hKs
   rw [KS_nor]
   rw [W_seq]
   generalize hKs:KS _ _ _ _ _=Ks
   simp (disch:=omega) only [push_cast,seval,q13.cell]
   refine Ok.use (getCommands_ok r13 hff (g7.cast (by omega))) ?_
   rintro u w14 ⟨hfx,r14,u14⟩
   have c14:=c13.upd u14 (by omega)
   have z14:=z13.upd u14 (by omega)
   have q14:=q13.upd u14 (by omega)
   have v14:=v13.trans u14 fun b h1 h=>by omega
   have hr14:=hr13.go (F':=fun b=>b≤cb) eR_ok u14 fun b _ h=>h.elim (fun h=>by omega) id
   have hb14:=hb13.go (F':=fun b=>b≤cb) eC_ok u14 fun b _ h=>h.elim (fun h=>by omega) id
   have s14:=u14.size
   have hf14:=hfx.go (F':=fun b=>b≤cb) eC_ok (Upd.refl (F:=NoB)) fun b _ h=>h.elim (fun h=>h.elim) fun h=>by show b<w13.heap.size; have:=c13.lt; omega
   obtain ⟨fa,fc,rfl⟩:=hf14.form
   simp (disch:=omega) only [push_cast,seval,c14.cell,c14.free]
   have c15:=(c14.set 5 (.slice fa c.conf.length fc))
   have u15:Upd (fun b=>b=cb) w14 (w14.setCell ⟨cb,5,none⟩ (.slice fa c.conf.length fc)):=Upd.set (F:=fun b=>b=cb) rfl
   have sz15:(w14.setCell ⟨cb,5,none⟩ (.slice fa c.conf.length fc)).heap.size=w14.heap.size:=by simp only [size_set]
   simp only [List.set_cons_succ,List.set_cons_zero] at c15
   generalize w14.setCell ⟨cb,5,none⟩ (.slice fa c.conf.length fc)=w15 at *
   have z15:=z14.upd u15 (by omega)
   have q15:=q14.upd u15 (by omega)
   have r15:=r14.go u15 fun b h1 h2=>by omega
   have v15:=v14.trans u15 fun b h1 h=>by omega
   have hr15:=hr14.go (F':=fun b=>b≤cb) eR_ok u15 fun b _ h=>h.elim (fun h=>by omega) id
   have hb15:=hb14.go (F':=fun b=>b≤cb) eC_ok u15 fun b _ h=>h.elim (fun h=>by omega) id
   have hf15:=hf14.go (F':=fun b=>b≤cb) eC_ok u15 fun b _ h=>h.elim (fun h=>by omega) id
   have s15:=u15.size
   clear c11 c12 c13 c14 z11 z12 z13 z14 q11 q12 q13 q14 r11 r12 r13 r14 v11 v12 v13 v14 hr11 hr12 hr13 hr14 hb12 hb13 hb14 hf14 hbx hfx u12 u13 u14 u15
   subst hKs
   rw [KS_nor]
   rw [W_seq]
   generalize hKs:KS _ _ _ _ _=Ks
   simp (disch:=omega) only [push_cast,seval]
   refine Ok.use (kInt_ok r15 q15 i4 (g8.cast (by omega))) ?_
   rintro u w16 ⟨rfl,r16,u16⟩
   have c16:=c15.upd u16 (by omega)
   have z16:=z15.upd u16 (by omega)
   have q16:=q15.upd u16 (by omega)
   have v16:=v15.trans u16 fun b h1 h=>by omega
   have hr16:=hr15.go (F':=fun b=>b≤cb) eR_ok u16 fun b _ h=>h.elim (fun h=>by omega) id
   have hb16:=hb15.go (F':=fun b=>b≤cb) eC_ok u16 fun b _ h=>h.elim (fun h=>by omega) id
   have hf16:=hf15.go (F':=fun b=>b≤cb) eC_ok u16 fun b _ h=>h.elim (fun h=>by omega) id
   have s16:=u16.size
   simp (disch:=omega) only [push_cast,seval,c16.cell,c16.free]
   have c17:=(c16.set 6 (.int .i64 c.count))
   have u17:Upd (fun b=>b=cb) w16 (w16.setCell ⟨cb,6,none⟩ (.int .i64 c.count)):=Upd.set (F:=fun b=>b=cb) rfl
   have sz17:(w16.setCell ⟨cb,6,none⟩ (.int .i64 c.count)).heap.size=w16.heap.size:=by simp only [size_set]
   simp only [List.set_cons_succ,List.set_cons_zero] at c17
   generalize w16.setCell ⟨cb,6,none⟩ (.int .i64 c.count)=w17 at *
   have z17:=z16.upd u17 (by omega)
   have q17:=q16.upd u17 (by omega)
   have r17:=r16.go u17 fun b h1 h2=>by omega
   have v17:=v16.trans u17 fun b h1 h=>by omega
   have hr17:=hr16.go (F':=fun b=>b≤cb) eR_ok u17 fun b _ h=>h.elim (fun h=>by omega) id
   have hb17:=hb16.go (F':=fun b=>b≤cb) eC_ok u17 fun b _ h=>h.elim (fun h=>by omega) id
   have hf17:=hf16.go (F':=fun b=>b≤cb) eC_ok u17 fun b _ h=>h.elim (fun h=>by omega) id
   have s17:=u17.size
   subst hKs
   rw [KS_nor]
   rw [W_seq]
   generalize hKs:KS _ _ _ _ _=Ks
   simp (disch:=omega) only [push_cast,seval,q17.cell]
   refine Ok.use (nBytes_ok r17 (b:=c.root) (by omega) (g9.cast (by omega))) ?_
   rintro u w18 ⟨hy18,hg18,r18,u18⟩
   have c18:=c17.upd u18 (by omega)
   have z18:=z17.upd u18 (by omega)
   have q18:=q17.upd u18 (by omega)
   have v18:=v17.trans u18 fun b h1 h=>by omega
   have hr18:=hr17.go (F':=fun b=>b≤cb) eR_ok u18 fun b _ h=>h.elim (fun h=>by omega) id
   have hb18:=hb17.go (F':=fun b=>b≤cb) eC_ok u18 fun b _ h=>h.elim (fun h=>by omega) id
   have hf18:=hf17.go (F':=fun b=>b≤cb) eC_ok u18 fun b _ h=>h.elim (fun h=>by omega) id
   have s18:=u18.size
   obtain ⟨oa,oc,rfl,_⟩:=hy18.form
   simp (disch:=omega) only [push_cast,seval,c18.cell,c18.free]
   have hlcb:=c17.lt
   have hbe:=(hy18.upd (Upd.set rfl:Upd (fun b=>b=cb) w18 (w18.setCell ⟨cb,7,none⟩ (.slice oa c.root.length oc))) fun b h1 h2=>by have:=hg18 b h1; omega).slb (F:=fun b=>b≤cb) fun g hg h=>by have:=hg18 g hg; omega
   have c19:=(c18.set 7 (.slice oa c.root.length oc))
   have u19:Upd (fun b=>b=cb) w18 (w18.setCell ⟨cb,7,none⟩ (.slice oa c.root.length oc)):=Upd.set (F:=fun b=>b=cb) rfl
   have sz19:(w18.setCell ⟨cb,7,none⟩ (.slice oa c.root.length oc)).heap.size=w18.heap.size:=by simp only [size_set]
   simp only [List.set_cons_succ,List.set_cons_zero] at c19
   generalize w18.setCell ⟨cb,7,none⟩ (.slice oa c.root.length oc)=w19 at *
   have z19:=z18.upd u19 (by omega)
   have q19:=q18.upd u19 (by omega)
   have r19:=r18.go u19 fun b h1 h2=>by omega
   have v19:=v18.trans u19 fun b h1 h=>by omega
   have hr19:=hr18.go (F':=fun b=>b≤cb) eR_ok u19 fun b _ h=>h.elim (fun h=>by omega) id
   have hb19:=hb18.go (F':=fun b=>b≤cb) eC_ok u19 fun b _ h=>h.elim (fun h=>by omega) id
   have hf19:=hf18.go (F':=fun b=>b≤cb) eC_ok u19 fun b _ h=>h.elim (fun h=>by omega) id
   have s19:=u19.size
   have ee:6+(encI c.rr).length+(encI c.rl).length+(encI c.rn).length+(encU c.reads.length).length+(c.reads.flatMap encR).length+(encL c.base).length+(encL c.conf).length+(encI c.count).length+(encB c.root).length=d.length:=by omega
   rw [ee] at r19
   clear c15 c16 c17 c18 z15 z16 z17 z18 q15 q16 q17 q18 r15 r16 r17 r18 v15 v16 v17 v18 hr15 hr16 hr17 hr18 u16 u17 u18 u19
   subst hKs
   rw [KS_nor]
   have CS:=[Value.int .i64 c.rr,.int .i64 c.rl,.int .i64 c.rn,.slice rva c.reads.length rvc,.slice ba c.base.length bc,.slice fa c.conf.length fc,.int .i64 c.count,.slice oa c.root.length oc]
   have lA : ∀{w':World},Upd NoB w19 w'→ldS Tryz.prog 85 (.pointer (some ⟨cb,0,none⟩)) w'=some (.agg #[Value.int .i64 c.rr,.int .i64 c.rl,.int .i64 c.rn,.slice rva c.reads.length rvc,.slice ba c.base.length bc,.slice fa c.conf.length fc,.int .i64 c.count,.slice oa c.root.length oc],w'):=fun u=>ld_blk (P:=Tryz.prog) (t:=85) (c19.upd u (fun h=>h)) (by kernel_rfl) (by kernel_rfl)
   have qA : ∀{w':World},Upd NoB w19 w'→∀j,w'.cell? ⟨rb,j,none⟩ = [Value.pointer (some ⟨p,0,none⟩)][j]? :=fun u j=>(q19.upd u fun h=>h).cell j
   simp (maxSteps:=3000000) (disch:=omega) only [push_cast,seval,↓nthK_zero,↓nthK_succ,lA Upd.drew,qA Upd.drew]
   refine Ok.use (nEnd_ok (r19.go (Upd.drew (F:=NoB)) fun _ _ h=>h)) ?_
   rintro u w20 ⟨rfl,u20'⟩
   have u20:Upd NoB w19 w20:=(Upd.drew (F:=NoB)).trans u20' fun _ _ h=>h
   have z20:=z19.upd u20 fun h=>h
   have z21:=z20.setRow (cs':=[.int .i64 c.rr,.int .i64 c.rl,.int .i64 c.rn,.slice rva c.reads.length rvc,.slice ba c.base.length bc,.slice fa c.conf.length fc,.int .i64 c.count,.slice oa c.root.length oc])
   have u21:Upd (fun b=>b=w.heap.size) w20 (w20.setRow w.heap.size [.int .i64 c.rr,.int .i64 c.rl,.int .i64 c.rn,.slice rva c.reads.length rvc,.slice ba c.base.length bc,.slice fa c.conf.length fc,.int .i64 c.count,.slice oa c.root.length oc].toArray):=Upd.setRow rfl
   simp (maxSteps:=3000000) (disch:=omega) only [push_cast,seval,↓nthK_zero,↓nthK_succ,lA Upd.drew,qA Upd.drew,lA u20,qA u20,st_blk (P:=Tryz.prog) (t:=85) (cs':=[.int .i64 c.rr,.int .i64 c.rl,.int .i64 c.rn,.slice rva c.reads.length rvc,.slice ba c.base.length bc,.slice fa c.conf.length fc,.int .i64 c.count,.slice oa c.root.length oc]) z20 (by kernel_rfl) rfl (by simp [Value.oneCell']),ld_blk (P:=Tryz.prog) (t:=85) z21 (by kernel_rfl) (by kernel_rfl)]
   have u1921:=(u20.mono (G:=fun b=>b=w.heap.size) fun _ _ h=>h.elim).trans u21 fun _ _ h=>h
   have k1:=(hr19.slD eR_ok).go (F':=fun b=>b<w.heap.size) eR_ok u1921 fun b _ h=>by omega
   have k2:=(hb19.slD eC_ok).go (F':=fun b=>b<w.heap.size) eC_ok u1921 fun b _ h=>by omega
   have k3:=(hf19.slD eC_ok).go (F':=fun b=>b<w.heap.size) eC_ok u1921 fun b _ h=>by omega
   have k4:=hbe.go (F':=fun b=>b<w.heap.size) u1921 fun b _ h=>by omega
   exact ⟨[.int .i64 c.rr,.int .i64 c.rl,.int .i64 c.rn,.slice rva c.reads.length rvc,.slice ba c.base.length bc,.slice fa c.conf.length fc,.int .i64 c.count,.slice oa c.root.length oc],rfl,⟨_,_,_,_,rfl,k1,k2,k3,k4,i1,i2,i3,i4,hoo,hww,hbb,hff⟩,v19.trans u1921 fun b h1 h=>by omega⟩
 have hi:i<c.reads.length:=by omega
 have hxi:=List.getElem?_eq_getElem hi
 have hwx:=hww _ (List.getElem_mem hi)
 generalize c.reads[i]=x at *
 have hle:=flat_len_at (f:=encR) hxi
 have htk:=flat_take (f:=encR) hxi
 have htl:c.reads.take i ++ [x]=c.reads.take (i+1):=by rw [List.take_add_one,hxi]; rfl
 have gx:=(g5.cast (b:=6+(encI c.rr).length+(encI c.rl).length+(encI c.rn).length+(encU c.reads.length).length) (by omega)).flat hxi
 have hlx:(encR x).length=(encI x.client).length+(encI x.number).length+(encB x.tag).length:=by simp only [encR,List.length_append]
 have hld:(encB x.tag).length=(encU x.tag.length).length+x.tag.length:=by simp [encB]
 have gx1:=gx.left.left
 have gx2:=gx.left.right
 have gx3:=gx.right
 simp only [List.length_append] at gx3
 have ek : ¬(k:Int)≤0:=by omega
 simp (disch:=omega) only [push_cast,seval,ek,q11.cell]
 refine Ok.use (nErr_ok r11) ?_
 rintro u w12 ⟨rfl,rfl⟩
 simp (disch:=omega) only [push_cast,seval]
 refine Ok.use (kInt_ok r11 q11 hwx.1 (gx1.cast (by omega))) ?_
 rintro u w12 ⟨rfl,r12,u12⟩
 have c12:=c11.upd u12 (by omega)
 have z12:=z11.upd u12 (by omega)
 have q12:=q11.upd u12 (by omega)
 have v12:=v11.trans u12 fun b h1 h=>by omega
 have hr12:=hr11.go (F':=fun b=>b≤cb) eR_ok u12 fun b _ h=>h.elim (fun h=>by omega) id
 have s12:=u12.size
 simp (disch:=omega) only [push_cast,seval]
 refine Ok.use (kInt_ok r12 q12 hwx.2.1 (gx2.cast (by omega))) ?_
 rintro u w13 ⟨rfl,r13,u13⟩
 have c13:=c12.upd u13 (by omega)
 have z13:=z12.upd u13 (by omega)
 have q13:=q12.upd u13 (by omega)
 have v13:=v12.trans u13 fun b h1 h=>by omega
 have hr13:=hr12.go (F':=fun b=>b≤cb) eR_ok u13 fun b _ h=>h.elim (fun h=>by omega) id
 have s13:=u13.size
 simp (disch:=omega) only [push_cast,seval,bld_r2,q13.cell]
 have d14:=(((Blk.new (w:=w13) (cs:=[.int .i64 0,.int .i64 0,.slice none 0 0]) (E:=175)).set 0 (.int .i64 x.client)).set 1 (.int .i64 x.number)).set 2 (.slice none 0 0)
 have u14:Upd NoB w13 ((((w13.alloc (.cells #[.int .i64 0,.int .i64 0,.slice none 0 0] 175 (0,0))).setCell ⟨w13.heap.size,0,none⟩ (.int .i64 x.client)).setCell ⟨w13.heap.size,1,none⟩ (.int .i64 x.number)).setCell ⟨w13.heap.size,2,none⟩ (.slice none 0 0)):=((Upd.alloc.setNew (Nat.le_refl _)).setNew (Nat.le_refl _)).setNew (Nat.le_refl _)
 simp only [List.set_cons_succ,List.set_cons_zero] at d14
 generalize (((w13.alloc (.cells #[.int .i64 0,.int .i64 0,.slice none 0 0] 175 (0,0))).setCell ⟨w13.heap.size,0,none⟩ (.int .i64 x.client)).setCell ⟨w13.heap.size,1,none⟩ (.int .i64 x.number)).setCell ⟨w13.heap.size,2,none⟩ (.slice none 0 0)=w14 at *
 have hbx:cb<w13.heap.size:=c13.lt
 have hxc:w13.heap.size<w14.heap.size:=d14.lt
 have hown : ∀g,(Value.slice rva (c.reads.take i).length rvc).ownBlock=some g→g<w13.heap.size:=fun g hg=>hr13.lt hg
 have c14:=c13.upd u14 (fun h=>h)
 have z14:=z13.upd u14 (fun h=>h)
 have q14:=q13.upd u14 (fun h=>h)
 have r14:=r13.go u14 fun b h1 h2=>by exact h2
 have v14:=v13.trans u14 fun b h1 h=>by exact h
 have s14:=u14.size
 have hr14:=hr13.go (F':=fun b=>b≤cb∨b=w13.heap.size) eR_ok u14 fun b hb h=>h.elim (fun h=>h.elim) fun h=>h.elim id fun h=>by omega
 clear c11 c12 c13 z11 z12 z13 q11 q12 q13 r11 r12 r13 v11 v12 v13 hr11 hr12 hr13 u12 u13 u14
 generalize hxb:w13.heap.size=xb at *
 refine Ok.use (nBytes_ok r14 (b:=x.tag) (by omega) (gx3.cast (by omega))) ?_
 rintro u w15 ⟨hb15,hf15,r15,u15⟩
 have c15:=c14.upd u15 (by omega)
 have z15:=z14.upd u15 (by omega)
 have q15:=q14.upd u15 (by omega)
 have v15:=v14.trans u15 fun b h1 h=>by omega
 have s15:=u15.size
 have hr15:=hr14.go (F':=fun b=>b≤cb∨b=xb) eR_ok u15 fun b _ h=>h.elim (fun h=>.inl (by omega)) id
 have d15:=d14.upd u15 (by omega)
 obtain ⟨ta,tc,rfl,_⟩:=hb15.form
 have d16:=d15.set 2 (.slice ta x.tag.length tc)
 have u16:Upd (fun b=>b=xb) w15 (w15.setCell ⟨xb,2,none⟩ (.slice ta x.tag.length tc)):=Upd.set rfl
 have c16:=c15.upd u16 (by omega)
 have z16:=z15.upd u16 (by omega)
 have q16:=q15.upd u16 (by omega)
 have r16:=r15.go u16 fun b h1 h2=>by omega
 have v16:=v15.trans u16 fun b h1 h=>by omega
 have s16:=u16.size
 have hr16:=hr15.go (F':=fun b=>b≤cb∨b=xb) eR_ok u16 fun b _ h=>h.elim .inr id
 have hbe:=(hb15.upd u16 fun b h1 h2=>by have:=hf15 b h1; omega).slb (F:=fun b=>(b≤cb∨b=xb)∨(Value.slice rva (c.reads.take i).length rvc).ownBlock=some b) fun g hg h=>by
   have:=hf15 g hg
   rcases h with (h | h) | h
   · omega
   · omega
   · have:=hown g h; omega
 have se:(w15.setCell ⟨xb,2,none⟩ (.slice ta x.tag.length tc)).heap.size=w15.heap.size:=size_set
 simp (disch:=omega) only [push_cast,seval,d15.cell,d15.free,c15.cell,bsl_r1]
 generalize w15.setCell ⟨xb,2,none⟩ (.slice ta x.tag.length tc)=w16 at *
 rw [←se]
 refine app1_r (x:=x) (cs:=[.int .i64 x.client,.int .i64 x.number,.slice ta x.tag.length tc]) hr16 ⟨_,rfl,hbe,hwx⟩ (fun b h=>by omega) (by simp; omega) ?_
 intro v' w17 hr17 u17 f17
 rw [htl] at hr17
 obtain ⟨va,vc',rfl⟩:=hr17.form
 have hof : ∀b,(Value.slice rva (c.reads.take i).length rvc).ownBlock=some b→¬b≤cb:=fun b hb=>by have:=hr16.free hb; omega
 have r17:=r16.go u17 fun b h1 h2=>hof b h2 (by omega)
 have c17:=c16.upd u17 fun h=>hof _ h (by omega)
 have z17:=z16.upd u17 fun h=>hof _ h (by omega)
 have q17:=q16.upd u17 fun h=>hof _ h (by omega)
 have s17:=u17.size
 have v17:=v16.trans u17 fun b h1 h2=>by have:=hof b h2; omega
 simp (disch:=omega) only [push_cast,seval,c17.cell,c17.free]
 have c18:=(c17.set 3 (.slice va (c.reads.take (i+1)).length vc'))
 have u18:Upd (fun b=>b=cb) w17 (w17.setCell ⟨cb,3,none⟩ (.slice va (c.reads.take (i+1)).length vc')):=Upd.set (F:=fun b=>b=cb) rfl
 have sz18:(w17.setCell ⟨cb,3,none⟩ (.slice va (c.reads.take (i+1)).length vc')).heap.size=w17.heap.size:=by simp only [size_set]
 simp only [List.set_cons_succ,List.set_cons_zero] at c18
 generalize w17.setCell ⟨cb,3,none⟩ (.slice va (c.reads.take (i+1)).length vc')=w18 at *
 have z18:=z17.upd u18 (by omega)
 have q18:=q17.upd u18 (by omega)
 have r18:=r17.go u18 fun b h1 h2=>by omega
 have v18:=v17.trans u18 fun b h1 h=>by omega
 have s18:=u18.size
 have hr18:=hr17.go (F':=fun b=>b≤cb) eR_ok u18 fun b _ h=>h.elim (fun h=>.inl (by omega)) .inl
 have e:6+(encI c.rr).length+(encI c.rl).length+(encI c.rn).length+(encU c.reads.length).length+((c.reads.take i).flatMap encR).length+(encI x.client).length+(encI x.number).length+(encB x.tag).length=6+(encI c.rr).length+(encI c.rl).length+(encI c.rn).length+(encU c.reads.length).length+((c.reads.take (i+1)).flatMap encR).length:=by rw [htk,List.length_append]; omega
 rw [e] at r18
 have ek3:((k-1:Nat):Int)=(k:Int)-1:=by omega
 exact ⟨k-1,by omega,i+1,_,by omega,by rw [ek3],r18,c18,hr18,z18,q18,v18,by omega⟩
end Go.Proofs.YtpgigkceoolgeaaGreatDoor.Fd
