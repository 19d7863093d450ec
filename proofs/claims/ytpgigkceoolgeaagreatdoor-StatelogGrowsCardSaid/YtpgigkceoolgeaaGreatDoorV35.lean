import Derived.Test.YtpgigkceoolgeaaGreatDoorV34
set_option linter.all false
namespace Go.Proofs.YtpgigkceoolgeaaGreatDoor.Fd
open Go
set_option maxRecDepth 100000
theorem aAz {s:Nat}(hs:s<256):Geo (9+s%64) (szS s) 1 (8+s%64):=by
 have hz1:64≤szS s∧szS s≤512:=by
  unfold szS;split
  ·omega
  ·split
   ·omega
   ·split <;> omega
 generalize szS s=sz at *;generalize hr:s%64=r;have hr64:r<64:=by omega
 refine⟨hz1.1,by omega,by omega,by omega,by omega,?_,?_⟩
 ·have:(8+r-(8+r)/2)*sz≤71*512:=Nat.mul_le_mul (by omega) hz1.2;omega
 ·have:(8+r)*sz≤71*512:=Nat.mul_le_mul (by omega) hz1.2;omega
theorem aBA:zer Tryz.prog 45=some (.agg #[.int .i64 0,.slice none 0 0,.slice none 0 0,.slice none 0 0,.int .i64 0,.slice none 0 0]):=by kernel_rfl
theorem LW.dsk {w w':World}{D J:Nat→Prop}{p lb jb cb:Nat}{s:LS}(h:LW w D J p lb jb cb s){d':DS}(hd:IsDisk w' (gr D w w') p d')(hu:Upd D w w'):LW w' (gr D w w') J p lb jb cb {s with d:=d'}∧LT w w' D (gr D w w') J:=by
 have hj:JT w w' D (gr D w w') jb:=⟨fun _ h=>h,fun _ h=>.inl h,hu.mono fun _ _ h=>.inl h⟩;have hc:JT w w' D (gr D w w') cb:=⟨fun _ h=>h,fun _ h=>.inl h,hu.mono fun _ _ h=>.inl h⟩;have sep : ∀b,J b→¬gr D w w' b∧b<w'.heap.size:=fun b hb=>⟨fun hh=>hh.elim (h.jw.sep b hb).1 fun hh=>by have:=(h.jw.sep b hb).2; omega,Nat.lt_of_lt_of_le (h.jw.sep b hb).2 hu.size⟩;exact⟨h.jour (j':=s.j) (d':=d') ⟨hd,hc.other h.cw.jj h.jw.obj h.ne.1 (h.jw.sep jb h.jw.jj).1,h.jw.jj,sep⟩ hj,hj.lt h.jw.jj⟩
theorem Run.mono {N sz first count G G' t t':Nat}{s:LS}{n':Con}(h:Run N sz first count G t s n')(hG:G≤G')(ht:t≤t'):Run N sz first count G' t' s n':=by
 obtain⟨h1,h2,h3,h4⟩:=h;exact⟨h1.mono ht,h2.mono ht,h3,h4.imp (fun ⟨rs,n0,hU⟩=>⟨rs,n0,hU.mono hG⟩) fun hD=>hD.mono hG⟩
theorem aBB {area room:Nat}{m:Con×List (List Int)}(h:(rlive area room m).2=0):(rlive area room m).1.1.life=m.1.life+1:=by
 unfold rlive rchange at *;split at h
 ·cases h
 ·rename_i h1;rw[if_neg h1];split at h
  ·rename_i h2;rw[if_pos h2]
  ·rename_i h2;rw[if_neg h2];split at h
   ·cases h
   ·rename_i h3;rw[if_neg h3]
theorem Run.live {N sz first count G t:Nat}(g:Geo N sz first count){s:LS}{n':Con}(h:Run N sz first count G t s n')(hG:G<4611686018427387904)(ht:t≤28)(h0:(lop s .liv).2=0):(lop s .liv).1.n.life=s.n.life+1:=by
 obtain⟨n2,_,_,_,ha,hb⟩:=h.op g hG ht (o:=.liv) trivial;cases hd:s.dn
 ·obtain⟨rs,hm⟩:=ha hd;rcases hm _ rfl with ⟨e1,e2,_⟩ | ⟨e1,_⟩
  ·rw[e2];exact aBB (m:=(s.n,rs.map encRc)) (show(rop (areaG sz count) (roomG sz count) (s.n,rs.map encRc) .liv).2=0 by rw[←e1]; exact h0)
  ·rw[e1] at h0; cases h0
 ·rw[(hb hd).1] at h0; cases h0
set_option maxHeartbeats 16000000 in
theorem aBC {w:World}(hK:KT w){s:Nat}(hs:s<256){v:Value}{l:List OpS}(hv:SlD eO w (OLD w) v l) :
 Ok (den Tryz.prog 6 #[.int .u8 (s:Int),v] w) fun u w'=>u = .bool true∧Upd (fun _=>False) w w':=by
 obtain⟨va,vc,rfl,_⟩:=hv.form;have g:=aAz hs;refine aB (args:=[.int .u8 (s:Int),.slice va l.length vc]) rs6 Tryz.func6 rfl mixed (by kernel_rfl) ok6 rfl ?_;simp(maxSteps:=3000000)(disch:=omega)only[push_cast,seval];refine Ok.use (aAX hK) ?_;rintro v w1 ⟨rfl,u1⟩;simp(maxSteps:=3000000)(disch:=omega)only[push_cast,seval];refine Ok.use (aAx hs) ?_;rintro v w2 ⟨p,rfl,hd2,u2⟩;have v2:=u1.trans u2 fun _ _ h=>h;simp(maxSteps:=3000000)(disch:=omega)only[push_cast,seval];refine Ok.use (aAp (hv.go (F':=NoB) fD v2 fun _ _ h=>(h.elim id id).elim)) ?_;rintro v w3 ⟨⟨b,rfl,hb⟩,u3⟩;have v3:=v2.trans u3 fun _ _ h=>h;cases b
 ·simp(maxSteps:=3000000)(disch:=omega)only[push_cast,seval];exact v3
 obtain⟨hl24,hB⟩:=hb rfl;have hk1:=hK.1;have hs1:=u1.size;have hgr : ∀b,gr (fun _=>False) w1 w2 b→w.heap.size≤b:=fun b hb=>hb.elim (fun h=>h.elim) fun h=>by omega
 simp(maxSteps:=3000000)(disch:=omega)only[push_cast,seval];refine Ok.use (jT (hK.upd v3 fun h=>h) (hd2.upd u3 fun _ _ h=>h) (fun h=>by have:=hgr 1 h; omega) g WfD.new rfl (by decide) (uQ g)) ?_;rintro v w4 ⟨lb,jb,cb,J,s4,rfl,hJ,hL,u4,hsd,hsn,hU⟩;have v4:=v3.trans u4 fun _ _ h=>h;simp(maxSteps:=3000000)(disch:=omega)only[push_cast,seval];have hRun:Run (9+s%64) (szS s) 1 (8+s%64) 0 0 s4 s4.n:=Run.of_up hU (by rw[hsn]; exact uT);have hJw : ∀b,J b→w.heap.size≤b:=fun b hb=>Nat.le_trans v3.size (hJ b hb);refine aE (I:=fun k st w'=>Bx (∃(i:Nat) (lb jb cb:Nat) (D J:Nat→Prop) (s':LS) (n':Con) (lived:Int),k+i=l.length∧st = [.pointer (some ⟨lb,0,none⟩),.int .i64 lived,.int .i64 (i:Int)]∧LW w' D J p lb jb cb s'∧(∀b,D b→w.heap.size≤b)∧(∀b,J b→w.heap.size≤b)∧
  Run (9+s%64) (szS s) 1 (8+s%64) i i s' n'∧lived≤s'.n.life∧0≤lived∧Upd NoB w w') ⟨⟩) ?_ l.length ⟨0,lb,jb,cb,_,J,s4,s4.n,0,by omega,rfl,hL,hgr,hJw,hRun,by rw[hsn]; exact Int.le_refl _,Int.le_refl _,v4⟩
 clear hL hU hRun hJ hJw hsd hsn;rintro k st w5 ⟨i,lb,jb,cb,D,J,s5,n5,lived,hk,rfl,hL,hD,hJ,hR,hlv,hlv0,v5⟩;by_cases hk0:k=0
 ·obtain rfl:i=l.length:=by omega
  simp(maxSteps:=3000000)(disch:=omega)only[push_cast,seval];exact v5
 have hi:i<l.length:=by omega
 have hi':(i:Int)<(l.length:Int):=by omega
 have hx:=List.getElem?_eq_getElem hi;generalize l[i]=o at hx;have hoB:=hB o (List.mem_of_getElem? hx);have ht28:i≤28:=by omega
 have hlb:=hR.lb g;have hsm:=hR.1;have hFn : ∀b,FF D J b→w.heap.size≤b:=fun b hb=>hb.elim (hD b) (hJ b);obtain⟨og,oo,cs,rfl,hog,hx1,hx2⟩:=(hv.go (F':=FF D J) fD v5 fun b _ h=>h.elim (fun h=>h.elim) (hFn b)).row hx;have kc:=fD.len hx1;have es:eO.s=6:=rfl;rw[es] at hx2 kc;have lO:=cN (P:=Tryz.prog) (t:=45) (w:=w5) (b:=og) (o:=oo+i*6) (cs:=cs) (by kernel_rfl) (by rw[kc]; kernel_rfl) (by rw[kc]; exact hx2 Upd.refl);have hone:=fD.one hx1;have b6:=Blk.new (w:=w5) (cs:=[.int .i64 0,.slice none 0 0,.slice none 0 0,.slice none 0 0,.int .i64 0,.slice none 0 0]) (E:=45);have stf:=aO (P:=Tryz.prog) (t:=45) (cs':=cs) b6 (by rw[kc]; kernel_rfl) (by rw[kc]; rfl) hone;have b7:=b6.setRow (cs':=cs);have u7:Upd NoB w5 ((w5.alloc (.cells #[.int .i64 0,.slice none 0 0,.slice none 0 0,.slice none 0 0,.int .i64 0,.slice none 0 0] 45 (0,0))).setRow w5.heap.size cs.toArray):=Upd.alloc.trans (Upd.setRow (F:=fun b=>b=w5.heap.size) rfl) fun b hb e=>by omega
 generalize hw7:(w5.alloc (.cells #[.int .i64 0,.slice none 0 0,.slice none 0 0,.slice none 0 0,.int .i64 0,.slice none 0 0] 45 (0,0))).setRow w5.heap.size cs.toArray=w7 at *;have h7:=hL.quiet u7;have v7:=v5.trans u7 fun _ _ h=>h;simp(maxSteps:=3000000)(disch:=omega)only[push_cast,seval,hi',lO,aBA,stf,hw7];refine Ok.use (m8 h7 (hsm.cons (by omega)) (by have:=hsm.len (by omega); omega)) ?_;rintro v w8 ⟨q8,u8⟩;obtain⟨xa8,xc8,rfl,_⟩:=q8.form;have h8:=h7.quiet u8;simp(maxSteps:=3000000)(disch:=omega)only[push_cast,seval];refine Ok.use (m9 h8 (hsm.cons (by omega)) (by have:=hsm.len (by omega); omega)) ?_;rintro v w9 ⟨cs9,rfl,q9,u9⟩;have h9:=h8.quiet u9;simp(maxSteps:=3000000)(disch:=omega)only[push_cast,seval];refine Ok.use (tD q9 (by have:=(hsm.cons (by omega)).bl; omega)) ?_;rintro v w10 ⟨q10,u10⟩;obtain⟨xa10,xc10,rfl,_⟩:=q10.form;have h10:=h9.quiet u10;simp(maxSteps:=3000000)(disch:=omega)only[push_cast,seval];refine Ok.use (dL h10) ?_;rintro v w11 ⟨rfl,rfl⟩;have v10:=((v7.trans u8 fun _ _ h=>h).trans u9 fun _ _ h=>h).trans u10 fun _ _ h=>h;have u7to10:Upd NoB w7 w10:=(u8.trans u9 fun _ _ h=>h).trans u10 fun _ _ h=>h;have hc10:eO.C w10 (FF D J) o cs:=fD.go hx1 (u7.trans u7to10 fun _ _ h=>h) fun b _ h=>h.elim (fun h=>h.elim) id;have b10:=b7.upd u7to10 fun h=>h;have q8':SlD eC w10 NoB (.slice xa8 s5.n.st.length xc8) s5.n.st:=q8.q aA (u9.trans u10 fun _ _ h=>h);obtain⟨lv,p1,p2,kv,rfl,hlist,hbase,hkeep,hi1,hi2⟩:=id hc10;obtain⟨kva,kvc,rfl,_⟩:=id hkeep;have c10:=b10.cell;generalize hKq:KS _ _ _ _ (KB 1 _)=Kq;simp(maxSteps:=3000000)(disch:=omega)only[push_cast,seval];subst hKq;rw[aC,aD];generalize hKs:KS _ _ _ _ _=Ks;have hbd7 : ∀b,FF D J b→b<w7.heap.size:=fun b hb=>h7.bd hb;have hend : ∀(ρ:Env) (w6:World) (lb' jb' cb':Nat) (D' J':Nat→Prop) (s6:LS) (n6:Con) (lv':Int),ρ 5 = .pointer (some ⟨p,0,none⟩)→ρ 6 = .int .i64 (8+((s:Int)%64))→ρ 1 = .slice (some ⟨og,oo,none⟩) l.length vc→ρ 7 = .pointer (some ⟨lb',0,none⟩)→ρ 9 = .int .i64 lv'→ρ 10 = .int .i64 (i:Int)→ρ 12 = .slice xa8 s5.n.st.length xc8→ρ 13 = .int .i64 ((confB s5.n.bas).length:Int)→ρ 14 = .int .i64 s5.n.life→
  LW w6 D' J' p lb' jb' cb' s6→(∀b,D' b→w.heap.size≤b)→(∀b,J' b→w.heap.size≤b)→Run (9+s%64) (szS s) 1 (8+s%64) (i+1) (i+1) s6 n6→LeN s5.n s6.n→lv'≤s6.n.life→0≤lv'→Upd NoB w w6→SlD eC w6 NoB (.slice xa8 s5.n.st.length xc8) s5.n.st→Ks (.normal,ρ,w6):=by
  intro ρ w6 lb' jb' cb' D' J' s6 n6 lv' e5 e6 e1 e7 e9 e10 e12 e13 e14 h6 hD6 hJ6 hR6 hle hl6 hl06 v6 q6;subst hKs;have sm6:=hR6.1;simp(maxSteps:=3000000)(disch:=omega)only[push_cast,seval,e5,e6,e1,e7,e9,e10,e12,e13,e14];refine Ok.use (m8 h6 (sm6.cons (by omega)) (by have:=sm6.len (by omega); omega)) ?_;rintro v w11 ⟨q11,u11⟩;obtain⟨xa11,xc11,rfl,_⟩:=q11.form;have h11:=h6.quiet u11;simp(maxSteps:=3000000)(disch:=omega)only[push_cast,seval,e5,e6,e1,e7,e9,e10,e12,e13,e14];refine Ok.use (W8 (q6.q aA u11) q11 (hsm.cons (by omega)).s (sm6.cons (by omega)).s (by have:=(hsm.cons (by omega)).sl; omega) (by have:=(sm6.cons (by omega)).sl; omega)) ?_;rintro v w12 ⟨rfl,u12⟩;have h12:=h11.quiet u12;rw[decide_eq_true hle.1];simp(maxSteps:=3000000)(disch:=omega)only[push_cast,seval,e5,e6,e1,e7,e9,e10,e12,e13,e14];refine Ok.use (m9 h12 (sm6.cons (by omega)) (by have:=sm6.len (by omega); omega)) ?_;rintro v w13 ⟨cs13,rfl,q13,u13⟩;have h13:=h12.quiet u13;simp(maxSteps:=3000000)(disch:=omega)only[push_cast,seval,e5,e6,e1,e7,e9,e10,e12,e13,e14];refine Ok.use (tD q13 (by have:=(sm6.cons (by omega)).bl; omega)) ?_;rintro v w14 ⟨q14,u14⟩;obtain⟨xa14,xc14,rfl,_⟩:=q14.form;have h14:=h13.quiet u14;have z1:=hle.2.1;have z2:=hle.2.2;have z1' : ¬((confB s6.n.bas).length:Int)<((confB s5.n.bas).length:Int):=by omega
  have z2' : ¬s6.n.life<s5.n.life:=by omega
  simp(maxSteps:=3000000)(disch:=omega)only[push_cast,seval,e5,e6,e1,e7,e9,e10,e12,e13,e14,z1'];refine Ok.use (dL h14) ?_;rintro v w15 ⟨rfl,rfl⟩;simp(maxSteps:=3000000)(disch:=omega)only[push_cast,seval,e5,e6,e1,e7,e9,e10,e12,e13,e14,z1',z2'];exact⟨k-1,by omega,i+1,lb',jb',cb',D',J',s6,n6,lv',by omega,rfl,h14,hD6,hJ6,hR6,hl6,hl06,(((v6.trans u11 fun _ _ h=>h).trans u12 fun _ _ h=>h).trans u13 fun _ _ h=>h).trans u14 fun _ _ h=>h⟩
 by_cases kd:0≤o.kind∧o.kind≤3
 ·obtain⟨kd1,kd2⟩:=kd;simp(maxSteps:=3000000)(disch:=omega)only[push_cast,seval,c10,kd1,kd2,aI (P:=Tryz.prog) (t:=45) b10 (by kernel_rfl) (by kernel_rfl)];refine Ok.use (aAr h10 hlb (by decide) hsm ht28 hc10 hoB) ?_;rintro v w11 ⟨rfl,D11,h11,l11⟩;obtain⟨n2,hR2,hle,_,_⟩:=hR.op g (by omega) ht28 (aAq hoB);have c11:=(b10.upd l11.upd fun h=>Nat.lt_irrefl _ (hL.bd h)).cell;have q11:SlD eC w11 NoB (.slice xa8 s5.n.st.length xc8) s5.n.st:=q8.go aA (((u9.trans u10 fun _ _ h=>h).mono (G:=FF D J) fun _ _ h=>h.elim).trans l11.upd fun _ _ h=>h) fun b _ h=>h.elim (fun h=>h7.bd h) fun h=>h.elim;have v11:=l11.new_ hD hJ v10;by_cases hz:(lop s5 (opK o)).2=0
  ·by_cases k2:o.kind=2
   ·have eo:opK o = .liv:=by unfold opK; rw[if_neg (by omega),if_neg (by omega),if_pos k2]
    have hlf:=hR.live g (by omega) ht28 (by rw[←eo]; exact hz);rw[←eo] at hlf;have hgt : ¬(lop s5 (opK o)).1.n.life≤lived:=by omega
    simp(maxSteps:=3000000)(disch:=omega)only[push_cast,seval,c11,hz,k2];refine Ok.use (dL h11) ?_;rintro v w12 ⟨rfl,rfl⟩;simp(maxSteps:=3000000)(disch:=omega)only[push_cast,seval,hgt];refine Ok.use (dL h11) ?_;rintro v w12 ⟨rfl,rfl⟩;simp(maxSteps:=3000000)(disch:=omega)only[push_cast,seval];exact hend _ w11 lb jb cb D11 J _ n2 _ rfl rfl rfl rfl rfl rfl rfl rfl rfl h11 v11.2 hJ hR2 hle (Int.le_refl _) (by omega) v11.1 q11
   ·simp(maxSteps:=3000000)(disch:=omega)only[push_cast,seval,c11,hz,k2];exact hend _ w11 lb jb cb D11 J _ n2 _ rfl rfl rfl rfl rfl rfl rfl rfl rfl h11 v11.2 hJ hR2 hle (Int.le_trans hlv hle.2.2) hlv0 v11.1 q11
  ·simp(maxSteps:=3000000)(disch:=omega)only[push_cast,seval,c11,hz];exact hend _ w11 lb jb cb D11 J _ n2 _ rfl rfl rfl rfl rfl rfl rfl rfl rfl h11 v11.2 hJ hR2 hle (Int.le_trans hlv hle.2.2) hlv0 v11.1 q11
 have hR2:=hR.mono (show i≤i+1 by omega) (show i≤i+1 by omega);by_cases k5:o.kind=5
 ·simp(maxSteps:=3000000)(disch:=omega)only[push_cast,seval,c10,k5];refine Ok.use (RS h10.jw.disk o.n) ?_;rintro v w11 ⟨hd11,u11⟩;obtain⟨h11,l11⟩:=h10.dsk hd11 u11;have v11:=l11.new_ hD hJ v10;have q11:SlD eC w11 NoB (.slice xa8 s5.n.st.length xc8) s5.n.st:=q8.go aA (((u9.trans u10 fun _ _ h=>h).mono (G:=FF D J) fun _ _ h=>h.elim).trans l11.upd fun _ _ h=>h) fun b _ h=>h.elim (fun h=>h7.bd h) fun h=>h.elim;simp(maxSteps:=3000000)(disch:=omega)only[push_cast,seval];exact hend _ w11 lb jb cb _ J _ n5 _ rfl rfl rfl rfl rfl rfl rfl rfl rfl h11 v11.2 hJ (hR2.fail (by have:=hi2.2; omega)) LeN.refl hlv hlv0 v11.1 q11
 by_cases k6:o.kind=6
 ·simp(maxSteps:=3000000)(disch:=omega)only[push_cast,seval,c10,k6];have hkeepD:SlT w10 D (.slice kva o.keep.length kvc) o.keep:=hkeep.go_ (Upd.refl (F:=NoB)) fun b _ h=>h.elim (fun h=>h.elim) .inl;refine Ok.use (pF h10.jw.disk (Nat.lt_of_le_of_lt (hR.disk g) (by decide)) hkeepD) ?_;rintro v w11 ⟨hd11,u11⟩;have k10:=h10.cw.k0.1;have hK11:KT w11:=h10.cw.kt.upd u11 k10;have hd1 : ¬gr D w10 w11 1:=fun hh=>hh.elim k10 fun hh=>by have:=h10.cw.kt.1; omega
  have v11:Upd NoB w w11:=v10.trans u11 fun b hb hh=>by have:=hD b hh; omega
  have d11 : ∀b,gr D w10 w11 b→w.heap.size≤b:=fun b hh=>hh.elim (hD b) fun hh=>by have:=v10.size; omega
  obtain⟨hw11,n2,rs2,m2,hf2,_,hs2,hle⟩:=hR.crash o.keep;simp(maxSteps:=3000000)(disch:=omega)only[push_cast,seval];refine Ok.use (jT hK11 hd11 hd1 g hw11 rfl (by omega) hf2) ?_;rintro v w12 ⟨lb2,jb2,cb2,J2,s6,rfl,hJ2,h12,u12,hsd6,hsn6,hU6⟩;have v12:=v11.trans u12 fun _ _ h=>h;have hJ2w : ∀b,J2 b→w.heap.size≤b:=fun b hb=>Nat.le_trans v11.size (hJ2 b hb);have q12:SlD eC w12 NoB (.slice xa8 s5.n.st.length xc8) s5.n.st:=q8.go aA ((((u9.trans u10 fun _ _ h=>h).mono (G:=D) fun _ _ h=>h.elim).trans u11 fun _ _ h=>h).trans u12 fun b _ h=>h.elim) fun b _ h=>h.elim (fun h=>h7.bd (.inl h)) fun h=>h.elim;rw[←hsn6] at hs2 hle;simp(maxSteps:=3000000)(disch:=omega)only[push_cast,seval];exact hend _ w12 lb2 jb2 cb2 _ J2 _ _ _ rfl rfl rfl rfl rfl rfl rfl rfl rfl h12 d11 hJ2w ((Run.of_up hU6 hs2).mono (by omega) (by omega)) hle (Int.le_trans hlv hle.2.2) hlv0 v12 q12
 ·by_cases kd1:0≤o.kind
  ·have kd2 : ¬o.kind≤3:=fun h=>kd ⟨kd1,h⟩;simp(maxSteps:=3000000)(disch:=omega)only[push_cast,seval,c10,kd1,kd2,k5,k6];exact hend _ w10 lb jb cb D J _ n5 _ rfl rfl rfl rfl rfl rfl rfl rfl rfl h10 hD hJ hR2 LeN.refl hlv hlv0 v10 q8'
  ·simp(maxSteps:=3000000)(disch:=omega)only[push_cast,seval,c10,kd1,k5,k6];exact hend _ w10 lb jb cb D J _ n5 _ rfl rfl rfl rfl rfl rfl rfl rfl rfl h10 hD hJ hR2 LeN.refl hlv hlv0 v10 q8'
theorem statelogGrows_law {w:World}(hK:KT w)(shape:Int)(w1:(Lit.int .u8 shape).wf=true){v:Value}(hv : ∃l,SlD eO w (OLD w) v l) :
 Ok (den Tryz.prog 6 #[.int .u8 shape,v] w) fun v w'=>v = .bool true∧Upd (fun _=>False) w w':=by
 obtain⟨s,rfl,hs⟩:=aAs w1;obtain⟨l,hv⟩:=hv;exact aBC hK hs hv
end Go.Proofs.YtpgigkceoolgeaaGreatDoor.Fd
