import Derived.Test.YtpgigkceoolgeaaGreatDoorS035
set_option linter.all false
namespace Go.Proofs.YtpgigkceoolgeaaGreatDoor.Fd
open Go
set_option maxRecDepth 100000
set_option maxHeartbeats 8000000 in
theorem aCn {w:World}{F:Nat→Prop}{mb area room:Nat}{m:Con×List (List Int)}(h:RW w F mb area room m)(hF : ∀b,F b→b<w.heap.size)(har:area≤1073741824)(hro:room≤1000000)(hn:ConS m.1){b:Bas}{bs:List Value}(hy:eB.C w (fun b=>F b∨b=mb) b bs)(hx:BasS b)
 (hl1:(stream m.2).length≤900000) (hk:(encCn (rebN m.1 b)).length≤1000000) (hrl:(encBs b).length≤800000) :
 Ok (den Tryz.prog 45 #[.pointer (some ⟨mb,0,none⟩),.agg bs.toArray] w) fun u w'=>u = .int .i64 (rrebase area room m b).2∧RW w' F mb area room (rrebase area room m b).1∧Upd (fun b=>b=mb) w w':=by
 have hRW:=h;obtain⟨cs0,rv,hb0,hn0,hr0⟩:=h;obtain⟨xa0,xc0,sa0,sc0,ta0,tc0,rfl,k1,k2,k3⟩:=aO hn0;obtain⟨pa,pc,qa,qc,rfl,m1,m2,m3⟩:=a8 hy;obtain⟨rva,rvc,rfl,_⟩:=id hr0;simp only[List.cons_append,List.nil_append] at hb0;have hmb:=hb0.lt;have nb : ¬NoB mb:=fun h=>h;refine aB (args:=[.pointer (some ⟨mb,0,none⟩),.agg #[.slice pa b.steps.length pc,.slice qa b.taken.length qc]]) rs45 Tryz.func45 rfl mixed (by kernel_rfl) PW rfl ?_;rw[aD];generalize hKs:KS _ _ _ _ _=Ks;simp(disch:=omega)only[push_cast,seval];have b1:=Blk.new (w:=w) (cs:=[.slice pa b.steps.length pc,.slice qa b.taken.length qc]) (E:=35);have u1:Upd NoB w (w.alloc (.cells [.slice pa b.steps.length pc,.slice qa b.taken.length qc].toArray 35 (0,0))):=Upd.alloc;generalize w.alloc (.cells [.slice pa b.steps.length pc,.slice qa b.taken.length qc].toArray 35 (0,0))=w1 at *;have s1:=b1.lt;have h1:=hb0.upd u1 nb;have n1:eN.C w1 (fun b=>F b∨b=mb) m.1 _:=aH.go hn0 u1 fun b _ h=>h.elim (fun h=>h.elim) id;have y1:eB.C w1 (fun b=>F b∨b=mb) b _:=aK.go hy u1 fun b _ h=>h.elim (fun h=>h.elim) id;have k1':=k2;subst hKs;rw[aC];have lb : ∀{w':World},Upd NoB w1 w'→∀j,w'.cell? ⟨w.heap.size,j,none⟩ = [Value.slice pa b.steps.length pc,.slice qa b.taken.length qc][j]? :=fun u j=>(b1.upd u fun h=>h).cell j;have lm : ∀{w':World},Upd NoB w1 w'→∀j,w'.cell? ⟨mb,j,none⟩ = [Value.slice xa0 m.1.st.length xc0,.slice sa0 m.1.bas.steps.length sc0,.slice ta0 m.1.bas.taken.length tc0,.int .i64 m.1.life,.slice rva m.2.length rvc,.int .i64 (area:Int),.int .i64 (room:Int)][j]? :=fun u j=>(h1.upd u nb).cell j;have lc : ∀{w':World},Upd NoB w1 w'→ldS Tryz.prog 37 (.pointer (some ⟨mb,0,none⟩)) w'=some (.agg #[.slice xa0 m.1.st.length xc0,.slice sa0 m.1.bas.steps.length sc0,.slice ta0 m.1.bas.taken.length tc0,.int .i64 m.1.life],w'):=fun {w'} u=>by
  have:Blk w' mb ([Value.slice xa0 m.1.st.length xc0,.slice sa0 m.1.bas.steps.length sc0,.slice ta0 m.1.bas.taken.length tc0,.int .i64 m.1.life] ++ [.slice rva m.2.length rvc,.int .i64 (area:Int),.int .i64 (room:Int)]) 40:=h1.upd u nb;exact fJ this rfl
 have d1:Upd NoB w1 w1.drew:=Upd.drew;rw[aD];generalize hKs:KS _ _ _ _ _=Ks;simp(disch:=omega)only[push_cast,seval,↓aE,↓aF,lb d1,lm d1];refine Ok.use (jP (aK.q y1 d1) (by have:=hx.bl; omega)) ?_;rintro u w2 ⟨q2,u2'⟩;obtain⟨ra,rc,rfl,_⟩:=q2.form;have u2:=d1.trans u2' fun _ _ h=>h;simp(disch:=omega)only[push_cast,seval,↓aE,↓aF,lb d1,lm d1,lb u2,lm u2];have k2b:eB.C w2 NoB m.1.bas [.slice sa0 m.1.bas.steps.length sc0,.slice ta0 m.1.bas.taken.length tc0]:=aK.q k2 (u1.trans u2 fun _ _ h=>h);refine Ok.use (jP k2b (by have:=hn.bl; omega)) ?_;rintro u w3 ⟨q3,u3'⟩;obtain⟨ra3,rc3,rfl,_⟩:=q3.form;have u3:=u2.trans u3' fun _ _ h=>h;simp(disch:=omega)only[push_cast,seval,↓aE,↓aF,lb d1,lm d1,lb u2,lm u2,lb u3,lm u3];subst hKs;rw[aC];unfold rrebase;by_cases h0:(confB b).length≤(confB m.1.bas).length
 ·have h0':((confB b).length:Int)≤((confB m.1.bas).length:Int):=by omega
  rw[if_pos h0];simp(maxSteps:=3000000)(disch:=omega)only[push_cast,seval,h0'];have u03:=u1.trans u3 fun _ _ h=>h;exact⟨hRW.go u03 nb fun b _ hh=>hh.elim (fun hh=>hh.elim) id,u03.mono fun _ _ h=>h.elim⟩
 have h0' : ¬((confB b).length:Int)≤((confB m.1.bas).length:Int):=by omega
 rw[if_neg h0];have d3:Upd NoB w3 w3.drew:=Upd.drew;have u3d:=u3.drew';simp(maxSteps:=3000000)(disch:=omega)only[push_cast,seval,↓aE,↓aF,h0',lb u3d,lc u3d];refine Ok.use (aAD (aK.q y1 u3d) (by omega)) ?_;rintro u w4 ⟨q4,f4,u4'⟩;have u4:=u3d.trans u4' fun _ _ h=>h;obtain⟨ea,ec,rfl⟩:=bY q4;simp(maxSteps:=3000000)(disch:=omega)only[push_cast,seval,↓aE,↓aF,lb u3d,lc u3d,lb u4,lc u4];have n4:eN.C w4 (fun b=>F b∨b=mb) m.1 _:=aH.go n1 u4 fun b _ h=>h.elim (fun h=>h.elim) id;have y4:eB.C w4 (fun b=>F b∨b=mb) b _:=aK.go y1 u4 fun b _ h=>h.elim (fun h=>h.elim) id;refine Ok.use (aCE n4 y4 hn.s hx.ts (by have:=hn.sl; have:=hx.tl; omega) (by have:=hn.bl; omega) (by have:=hx.bl; omega) hn.cl hx.cl) ?_;rintro u w5 ⟨cs5,rfl,n5,u5'⟩;have u5:=u4.trans u5' fun _ _ h=>h;have v5:=u1.trans u5 fun _ _ h=>h;simp(maxSteps:=3000000)(disch:=omega)only[push_cast,seval,↓aE,↓aF,lb u3d,lc u3d,lb u4,lc u4,lb u5,lc u5];have hFm : ∀b,(F b∨b=mb)→b<w.heap.size:=fun b hh=>hh.elim (hF b) fun e=>by omega
 have v4:=u1.trans u4 fun _ _ h=>h;have n5':eN.C w5 (fun b=>F b∨b=mb) (rebN m.1 b) cs5:=aH.go n5 (Upd.refl (F:=NoB)) fun b _ hh=>hh.elim (fun hh=>hh.elim) fun hh=>⟨hh,Nat.lt_of_lt_of_le (hFm b hh) v4.size⟩;have sb:SlB w5 (fun b=>F b∨b=mb) (.slice ea (encRc (.reb b)).length ec) (encRc (.reb b)):=(q4.slb (F:=fun b=>F b∨b=mb) fun g hg hh=>by
  have:=f4 g hg;have:w.heap.size≤w3.drew.heap.size:=(u1.trans u3d fun _ _ h=>h).size;have:=hFm g hh;omega).go u5' fun b _ hh=>hh.elim (fun hh=>hh.elim) id
 have hR5:RW w5 F mb area room m:=hRW.go v5 nb fun b _ hh=>hh.elim (fun hh=>hh.elim) id;refine Ok.use (n9 hR5 (fun b hb=>Nat.lt_of_lt_of_le (hF b hb) v5.size) har hro sb n5' hl1 (by
  have:=aL (n:=2) (by decide);simp only[encRc,List.length_append];omega) hk) ?_
 rintro u w8 ⟨rfl,h8,u8⟩;simp(maxSteps:=3000000)(disch:=omega)only[push_cast,seval];exact⟨h8,(v5.mono fun _ _ h=>h.elim).trans u8 fun _ _ h=>h⟩
open Go
set_option maxRecDepth 100000
set_option maxHeartbeats 8000000 in
theorem aCo {w:World}{F:Nat→Prop}{mb area room:Nat}{m:Con×List (List Int)}(h:RW w F mb area room m)(hF : ∀b,F b→b<w.heap.size)(har:area≤1073741824)(hro:room≤1000000)(hn:ConS m.1)
 (hl1:(stream m.2).length≤900000) (hk:(encCn {m.1 with life:=m.1.life+1}).length≤1000000) :
 Ok (den Tryz.prog 46 #[.pointer (some ⟨mb,0,none⟩)] w) fun u w'=>u = .int .i64 (rlive area room m).2∧RW w' F mb area room (rlive area room m).1∧Upd (fun b=>b=mb) w w':=by
 have hRW:=h;obtain⟨cs0,rv,hb0,hn0,hr0⟩:=h;obtain⟨xa0,xc0,sa0,sc0,ta0,tc0,rfl,k1,k2,k3⟩:=aO hn0;obtain⟨rva,rvc,rfl,_⟩:=id hr0;simp only[List.cons_append,List.nil_append] at hb0;have hmb:=hb0.lt;have nb : ¬NoB mb:=fun h=>h;have hl0:=k3.2.2.1;have hl9:=k3.2.2.2;refine aB (args:=[.pointer (some ⟨mb,0,none⟩)]) rs46 Tryz.func46 rfl mixed (by kernel_rfl) PX rfl ?_;unfold rlive;by_cases h0:4611686018427387904≤m.1.life
 ·rw[if_pos h0];simp(maxSteps:=3000000)(disch:=omega)only[push_cast,seval,hb0.cell,h0];exact⟨hRW,Upd.refl⟩
 rw[if_neg h0];have hb2:Blk w mb ([Value.slice xa0 m.1.st.length xc0,.slice sa0 m.1.bas.steps.length sc0,.slice ta0 m.1.bas.taken.length tc0,.int .i64 m.1.life] ++ [.slice rva m.2.length rvc,.int .i64 (area:Int),.int .i64 (room:Int)]) 40:=hb0;have c3:=(Blk.new (w:=w) (cs:=[.slice none 0 0,.slice none 0 0,.slice none 0 0,.int .i64 0]) (E:=37));have c4:=c3.setRow (cs':=[.slice xa0 m.1.st.length xc0,.slice sa0 m.1.bas.steps.length sc0,.slice ta0 m.1.bas.taken.length tc0,.int .i64 m.1.life]);have c5:=c4.set 3 (.int .i64 (m.1.life+1));simp only[List.set_cons_succ,List.set_cons_zero] at c5;have hones : ∀u∈[Value.slice xa0 m.1.st.length xc0,.slice sa0 m.1.bas.steps.length sc0,.slice ta0 m.1.bas.taken.length tc0,.int .i64 m.1.life],u.oneCell'=true:=fun u hu=>by simp at hu; rcases hu with rfl | rfl | rfl | rfl <;> rfl
 have u4:Upd NoB w ((w.alloc (.cells #[.slice none 0 0,.slice none 0 0,.slice none 0 0,.int .i64 0] 37 (0,0))).setRow w.heap.size #[.slice xa0 m.1.st.length xc0,.slice sa0 m.1.bas.steps.length sc0,.slice ta0 m.1.bas.taken.length tc0,.int .i64 m.1.life]):=Upd.alloc.trans (Upd.setRow (F:=fun b=>b=w.heap.size) rfl) fun b hb e=>by omega
 have u5:=u4.setNew (a:=⟨w.heap.size,3,none⟩) (v:=.int .i64 (m.1.life+1)) (Nat.le_refl _);rw[aD];generalize hKs:KS _ _ _ _ _=Ks;simp(disch:=omega)only[push_cast,seval];subst hKs;rw[aC];rw[aD];generalize hKs:KS _ _ _ _ _=Ks;simp(disch:=omega)only[push_cast,seval,hb0.cell,h0];subst hKs;rw[aC];rw[aD];generalize hKs:KS _ _ _ _ _=Ks;simp(disch:=omega)only[push_cast,seval,fJ hb2 rfl,fI,aP (P:=Tryz.prog) (t:=37) (cs':=[.slice xa0 m.1.st.length xc0,.slice sa0 m.1.bas.steps.length sc0,.slice ta0 m.1.bas.taken.length tc0,.int .i64 m.1.life]) c3 (by kernel_rfl) rfl hones];subst hKs;rw[aC];rw[aD];generalize hKs:KS _ _ _ _ _=Ks;simp(disch:=omega)only[push_cast,seval,c4.cell,c4.free];subst hKs;rw[aC];have gF : ∀b,b<w.heap.size→NoB b∨(F b∨b=mb)→F b∨b=mb:=fun b hb h=>h.elim (fun h=>h.elim) id;have n5:eN.C _ (fun b=>F b∨b=mb) m.1 _:=aH.go hn0 u5 gF;generalize ((w.alloc (.cells #[.slice none 0 0,.slice none 0 0,.slice none 0 0,.int .i64 0] 37 (0,0))).setRow w.heap.size #[.slice xa0 m.1.st.length xc0,.slice sa0 m.1.bas.steps.length sc0,.slice ta0 m.1.bas.taken.length tc0,.int .i64 m.1.life]).setCell ⟨w.heap.size,3,none⟩ (.int .i64 (m.1.life+1))=w5 at *;have cc : ∀{w':World},Upd NoB w5 w'→∀j,w'.cell? ⟨w.heap.size,j,none⟩ = [Value.slice xa0 m.1.st.length xc0,.slice sa0 m.1.bas.steps.length sc0,.slice ta0 m.1.bas.taken.length tc0,.int .i64 (m.1.life+1)][j]? :=fun u j=>(c5.upd u fun h=>h).cell j;have lc : ∀{w':World},Upd NoB w5 w'→ldS Tryz.prog 37 (.pointer (some ⟨w.heap.size,0,none⟩)) w'=some (.agg #[.slice xa0 m.1.st.length xc0,.slice sa0 m.1.bas.steps.length sc0,.slice ta0 m.1.bas.taken.length tc0,.int .i64 (m.1.life+1)],w'):=fun u=>aJ (P:=Tryz.prog) (t:=37) (c5.upd u fun h=>h) (by kernel_rfl) (by kernel_rfl);obtain⟨k,hk1⟩ : ∃k:Nat,m.1.life+1=(k:Int):=⟨(m.1.life+1).toNat,by omega⟩;have hk2:m.1.life.toNat+1=k:=by omega
 have d5:Upd NoB w5 w5.drew:=Upd.drew;rw[hk1] at cc lc;simp(maxSteps:=3000000)(disch:=omega)only[push_cast,seval,↓aE,↓aF,cc d5,lc d5];refine Ok.use (aAE (n:=k) (by omega)) ?_;rintro u w6 ⟨q6,f6,u6'⟩;have u6:=d5.trans u6' fun _ _ h=>h;obtain⟨ea,ec,rfl⟩:=bY q6;simp(maxSteps:=3000000)(disch:=omega)only[push_cast,seval,↓aE,↓aF,cc d5,lc d5,cc u6,lc u6];have v6:=u5.trans u6 fun _ _ h=>h;have sb:SlB w6 (fun b=>F b∨b=mb) (.slice ea (encRc (.liv k)).length ec) (encRc (.liv k)):=q6.slb fun g hg hh=>by
  have:=f6 g hg;have:w.heap.size≤w5.drew.heap.size:=(u5.trans d5 fun _ _ h=>h).size;rcases hh with hh | hh
  ·have:=hF g hh; omega
  ·omega
 have n6:eN.C w6 (fun b=>F b∨b=mb) {m.1 with life:=m.1.life+1} [.slice xa0 m.1.st.length xc0,.slice sa0 m.1.bas.steps.length sc0,.slice ta0 m.1.bas.taken.length tc0,.int .i64 (k:Int)]:=by
  have h1:eN.C w6 (fun b=>F b∨b=mb) m.1 _:=aH.go n5 u6 fun b _ h=>h.elim (fun h=>h.elim) id;obtain⟨_,_,_,_,_,_,e4,g1,g2,_⟩:=aO h1;injection e4 with p1 e4;injection e4 with p2 e4;injection e4 with p3 _;rw[←p1] at g1;rw[←p2,←p3] at g2;exact⟨_,_,_,by rw[←hk1],g1,g2,k3.1,k3.2.1,by show 0≤m.1.life+1; omega,by show m.1.life+1≤_; omega⟩
 have hR6:RW w6 F mb area room m:=hRW.go v6 nb fun b _ hh=>hh.elim (fun hh=>hh.elim) id;rw[hk2];refine Ok.use (n9 hR6 (fun b hb=>Nat.lt_of_lt_of_le (hF b hb) v6.size) har hro sb n6 hl1 (by
  have:=aL (n:=3) (by decide);have:=aL (n:=k) (by omega);simp only[encRc,List.length_append];omega) hk) ?_
 rintro u w8 ⟨rfl,h8,u8⟩;simp(maxSteps:=3000000)(disch:=omega)only[push_cast,seval];exact⟨h8,(v6.mono fun _ _ h=>h.elim).trans u8 fun _ _ h=>h⟩
set_option maxHeartbeats 8000000 in
theorem aCp {w:World}{F:Nat→Prop}{mb area room:Nat}{m:Con×List (List Int)}(h:RW w F mb area room m)(hF : ∀b,F b→b<w.heap.size)(hro:room≤1000000)(hn:ConS m.1)(hk:(encCn m.1).length≤1000000) :
 Ok (den Tryz.prog 47 #[.pointer (some ⟨mb,0,none⟩)] w) fun u w'=>u = .int .i64 (rcompact room m).2∧RW w' F mb area room (rcompact room m).1∧Upd (fun b=>b=mb) w w':=by
 have hRW:=h;obtain⟨cs0,rv,hb0,hn0,hr0⟩:=h;obtain⟨xa0,xc0,sa0,sc0,ta0,tc0,rfl,k1,k2,k3⟩:=aO hn0;obtain⟨rva,rvc,rfl,_⟩:=id hr0;simp only[List.cons_append,List.nil_append] at hb0;have hmb:=hb0.lt;have nb : ¬NoB mb:=fun h=>h;have cc : ∀{w':World},Upd NoB w w'→∀j,w'.cell? ⟨mb,j,none⟩ = [Value.slice xa0 m.1.st.length xc0,.slice sa0 m.1.bas.steps.length sc0,.slice ta0 m.1.bas.taken.length tc0,.int .i64 m.1.life,.slice rva m.2.length rvc,.int .i64 (area:Int),.int .i64 (room:Int)][j]? :=fun u j=>(hb0.upd u nb).cell j;have lc : ∀{w':World},Upd NoB w w'→ldS Tryz.prog 37 (.pointer (some ⟨mb,0,none⟩)) w'=some (.agg #[.slice xa0 m.1.st.length xc0,.slice sa0 m.1.bas.steps.length sc0,.slice ta0 m.1.bas.taken.length tc0,.int .i64 m.1.life],w'):=fun {w'} u=>by
  have:Blk w' mb ([Value.slice xa0 m.1.st.length xc0,.slice sa0 m.1.bas.steps.length sc0,.slice ta0 m.1.bas.taken.length tc0,.int .i64 m.1.life] ++ [.slice rva m.2.length rvc,.int .i64 (area:Int),.int .i64 (room:Int)]) 40:=hb0.upd u nb;exact fJ this rfl
 have d0:Upd NoB w w.drew:=Upd.drew;refine aB (args:=[.pointer (some ⟨mb,0,none⟩)]) rs47 Tryz.func47 rfl mixed (by kernel_rfl) PY rfl ?_;simp(maxSteps:=3000000)(disch:=omega)only[push_cast,seval,↓aE,↓aF,lc d0,cc d0];refine Ok.use (uM (aH.q hn0 d0) (by omega)) ?_;rintro u w1 ⟨q1,f1,u1'⟩;have u1:=d0.trans u1' fun _ _ h=>h;obtain⟨ea,ec,rfl,_⟩:=q1.form;obtain⟨B,hB⟩ : ∃B,B=(encCn m.1).length:=⟨_,rfl⟩;unfold rcompact;rw[←hB] at hk ⊢;by_cases hbig:room<B
 ·have hbig':(room:Int)<(B:Int):=by omega
  rw[if_pos hbig];simp(maxSteps:=3000000)(disch:=omega)only[push_cast,seval,↓aE,↓aF,lc d0,cc d0,lc u1,cc u1,hbig'];exact⟨hRW.go u1 nb fun b _ hh=>hh.elim (fun hh=>hh.elim) id,u1.mono fun _ _ h=>h.elim⟩
 have hbig' : ¬(room:Int)<(B:Int):=by omega
 rw[if_neg hbig];have hb1:=hb0.upd u1 nb;have hb2:=hb1.set 4 (.slice none 0 0);simp only[List.set_cons_succ,List.set_cons_zero] at hb2;have u2:Upd (fun b=>b=mb) w1 (w1.setCell ⟨mb,4,none⟩ (.slice none 0 0)):=Upd.set (F:=fun b=>b=mb) rfl;have v2:Upd (fun b=>b=mb) w (w1.setCell ⟨mb,4,none⟩ (.slice none 0 0)):=(u1.mono (G:=fun b=>b=mb) fun _ _ h=>h.elim).trans u2 fun _ _ h=>h;simp(maxSteps:=3000000)(disch:=omega)only[push_cast,seval,↓aE,↓aF,lc d0,cc d0,lc u1,cc u1,hbig',hb1.free];refine⟨⟨[.slice xa0 m.1.st.length xc0,.slice sa0 m.1.bas.steps.length sc0,.slice ta0 m.1.bas.taken.length tc0,.int .i64 m.1.life],.slice none 0 0,hb2,aH.go hn0 v2 fun b _ h=>h.elim .inr id,SlR.nil⟩,v2⟩
set_option maxHeartbeats 8000000 in
theorem aCq {w:World}{F:Nat→Prop}{mb area room:Nat}{m:Con×List (List Int)}(h:RW w F mb area room m)(hF : ∀b,F b→b<w.heap.size)(har:area≤1073741824)(hro:room≤1000000){t:Nat}(hs:SmN t m.1)(ht:t≤28)(hl1:(stream m.2).length≤900000){o:OpS}{cs:List Value}(hc:eO.C w (fun b=>F b∨b=mb) o cs)(ho:OpB o) :
 Ok (den Tryz.prog 15 #[.pointer (some ⟨mb,0,none⟩),.agg cs.toArray] w) fun u w'=>u = .int .i64 (rop area room m (opK o)).2∧RW w' F mb area room (rop area room m (opK o)).1∧Upd (fun b=>b=mb) w w':=by
 obtain⟨lv,p1,p2,kv,rfl,hlist,hbase,⟨ka,kc,rfl,_⟩,hi1,hi2⟩:=hc;obtain⟨la,lc,rfl,_⟩:=hlist.form;obtain⟨sa,sc,ta,tc,hpp,hst,htk,hbw⟩:=a8 hbase;injection hpp with q1 hpp;injection hpp with q2 _;subst q1 q2;have hcn:=hs.cons (by omega);refine aB (args:=[.pointer (some ⟨mb,0,none⟩),.agg #[.int .i64 o.kind,.slice la o.list.length lc,.slice sa o.base.steps.length sc,.slice ta o.base.taken.length tc,.int .i64 o.n,.slice ka o.keep.length kc]]) rs15 Tryz.func15 rfl mixed (by kernel_rfl) O3 rfl ?_;rw[aD];generalize hKs:KS _ _ _ _ _=Ks;simp(disch:=omega)only[push_cast,Nat.reduceBEq,Nat.reduceEqDiff,Nat.reduceAdd,Nat.reduceMul,Nat.reduceSub,Nat.reduceLT,Int.reduceToNat,Int.reduceLT,Int.reduceLE,Int.reduceEq,Int.reduceAdd,Int.reduceSub,Int.reduceNeg,Int.reduceMul];have u0:Upd NoB w (w.alloc (.cells [.int .i64 o.kind,.slice la o.list.length lc,.slice sa o.base.steps.length sc,.slice ta o.base.taken.length tc,.int .i64 o.n,.slice ka o.keep.length kc].toArray 45 (0,0))):=Upd.alloc;have b0:=Blk.new (w:=w) (cs:=[.int .i64 o.kind,.slice la o.list.length lc,.slice sa o.base.steps.length sc,.slice ta o.base.taken.length tc,.int .i64 o.n,.slice ka o.keep.length kc]) (E:=45);generalize w.alloc (.cells [.int .i64 o.kind,.slice la o.list.length lc,.slice sa o.base.steps.length sc,.slice ta o.base.taken.length tc,.int .i64 o.n,.slice ka o.keep.length kc].toArray 45 (0,0))=w0 at *;have hmb:=h.lt;have nb : ¬NoB mb:=fun h=>h;have h0:RW w0 F mb area room m:=h.go u0 nb fun b _ hh=>hh.elim (fun hh=>hh.elim) id;have hF0 : ∀b,F b→b<w0.heap.size:=fun b hb=>Nat.lt_of_lt_of_le (hF b hb) u0.size;have hc0:=b0.cell;have out : ∀{w':World},Upd (fun b=>b=mb) w0 w'→Upd (fun b=>b=mb) w w':=fun u=>(u0.mono (G:=fun b=>b=mb) fun _ _ h=>h.elim).trans u fun _ _ h=>h;subst hKs;rw[aC];unfold opK;by_cases k0:o.kind=0
 ·rw[if_pos k0];simp(config:={maxSteps:=3000000}) (disch:=omega) only[push_cast,Nat.reduceBEq,Nat.reduceEqDiff,Nat.reduceAdd,Nat.reduceMul,Nat.reduceSub,Nat.reduceLT,Int.reduceToNat,Int.reduceLT,Int.reduceLE,Int.reduceEq,Int.reduceAdd,Int.reduceSub,Int.reduceNeg,Int.reduceMul,hc0,eq_true k0];have ho1:=ho.1;have hm:=fH (m:=m.1.st) ho1.1;have hml:=cV (l:=o.list) (m:=m.1.st);have ho2:=ho1.2;have hj:=(hs.join hm (by omega)).len (by omega);have h2:=dS hm (by omega);have h3:(minC o.list m.1.st).length*2010≤6*2010:=Nat.mul_le_mul_right _ (by omega);refine Ok.use (aCD h0 hF0 har hro hcn (hlist.go aA (F':=fun b=>F b∨b=mb) u0 fun b _ hh=>hh.elim (fun hh=>hh.elim) id) (fun x hx=>(ho1.1 x hx).s) (by omega) hl1 (by omega) (by omega)) ?_;rintro u w1 ⟨rfl,h1,u1⟩;simp(config:={maxSteps:=3000000}) (disch:=omega) only[push_cast,Nat.reduceBEq,Nat.reduceEqDiff,Nat.reduceAdd,Nat.reduceMul,Nat.reduceSub,Nat.reduceLT,Int.reduceToNat,Int.reduceLT,Int.reduceLE,Int.reduceEq,Int.reduceAdd,Int.reduceSub,Int.reduceNeg,Int.reduceMul];exact⟨rfl,h1,out u1⟩
 rw[if_neg k0];by_cases k1:o.kind=1
 ·rw[if_pos k1];simp(config:={maxSteps:=3000000}) (disch:=omega) only[push_cast,Nat.reduceBEq,Nat.reduceEqDiff,Nat.reduceAdd,Nat.reduceMul,Nat.reduceSub,Nat.reduceLT,Int.reduceToNat,Int.reduceLT,Int.reduceLE,Int.reduceEq,Int.reduceAdd,Int.reduceSub,Int.reduceNeg,Int.reduceMul,hc0,eq_false k0,eq_true k1];have h1:=(hs.reb ho.2).len (by omega);have h2:=ho.2.l;refine Ok.use (aCn h0 hF0 har hro hcn (aK.go (F':=fun b=>F b∨b=mb) hbase u0 fun b _ hh=>hh.elim (fun hh=>hh.elim) id) ho.2.s hl1 (by omega) (by omega)) ?_;rintro u w1 ⟨rfl,h1,u1⟩;simp(config:={maxSteps:=3000000}) (disch:=omega) only[push_cast,Nat.reduceBEq,Nat.reduceEqDiff,Nat.reduceAdd,Nat.reduceMul,Nat.reduceSub,Nat.reduceLT,Int.reduceToNat,Int.reduceLT,Int.reduceLE,Int.reduceEq,Int.reduceAdd,Int.reduceSub,Int.reduceNeg,Int.reduceMul];exact⟨rfl,h1,out u1⟩
 rw[if_neg k1];by_cases k2:o.kind=2
 ·rw[if_pos k2];simp(config:={maxSteps:=3000000}) (disch:=omega) only[push_cast,Nat.reduceBEq,Nat.reduceEqDiff,Nat.reduceAdd,Nat.reduceMul,Nat.reduceSub,Nat.reduceLT,Int.reduceToNat,Int.reduceLT,Int.reduceLE,Int.reduceEq,Int.reduceAdd,Int.reduceSub,Int.reduceNeg,Int.reduceMul,hc0,eq_false k0,eq_false k1,eq_true k2];have h1:=hs.len (by omega);have h2:=cK (c:=m.1);have h3:=hs.l1;have h4:=aL (n:=(m.1.life+1).toNat) (by omega);refine Ok.use (aCo h0 hF0 har hro hcn hl1 (by
   rw[cK];show(encU (m.1.life+1).toNat).length+(encBs m.1.bas).length+(encL m.1.st).length≤1000000;omega)) ?_
  rintro u w1 ⟨rfl,h1,u1⟩;simp(config:={maxSteps:=3000000}) (disch:=omega) only[push_cast,Nat.reduceBEq,Nat.reduceEqDiff,Nat.reduceAdd,Nat.reduceMul,Nat.reduceSub,Nat.reduceLT,Int.reduceToNat,Int.reduceLT,Int.reduceLE,Int.reduceEq,Int.reduceAdd,Int.reduceSub,Int.reduceNeg,Int.reduceMul];exact⟨rfl,h1,out u1⟩
 rw[if_neg k2];simp(config:={maxSteps:=3000000}) (disch:=omega) only[push_cast,Nat.reduceBEq,Nat.reduceEqDiff,Nat.reduceAdd,Nat.reduceMul,Nat.reduceSub,Nat.reduceLT,Int.reduceToNat,Int.reduceLT,Int.reduceLE,Int.reduceEq,Int.reduceAdd,Int.reduceSub,Int.reduceNeg,Int.reduceMul,hc0,eq_false k0,eq_false k1,eq_false k2];refine Ok.use (aCp h0 hF0 hro hcn (by have:=hs.len (by omega); omega)) ?_;rintro u w1 ⟨rfl,h1,u1⟩;simp(config:={maxSteps:=3000000}) (disch:=omega) only[push_cast,Nat.reduceBEq,Nat.reduceEqDiff,Nat.reduceAdd,Nat.reduceMul,Nat.reduceSub,Nat.reduceLT,Int.reduceToNat,Int.reduceLT,Int.reduceLE,Int.reduceEq,Int.reduceAdd,Int.reduceSub,Int.reduceNeg,Int.reduceMul];exact⟨rfl,h1,out u1⟩
open Go
set_option maxRecDepth 100000
theorem aCr {s:Nat}(hs:s<256):Geo (9+s%64) (szS s) 1 (8+s%64):=by
 have hz1:64≤szS s∧szS s≤512:=by
  unfold szS;split
  ·omega
  ·split
   ·omega
   ·split <;> omega
 generalize szS s=sz at *;generalize hr:s%64=r;have hr64:r<64:=by omega
 refine⟨hz1.1,by omega,by omega,by omega,by omega,?_,?_⟩
 ·have:(8+r-(8+r)/2)*sz≤71*512:=Nat.mul_le_mul (by omega) hz1.2;omega
 ·have:(8+r)*sz≤71*512:=Nat.mul_le_mul (by omega) hz1.2;omega
theorem aCs:zer Tryz.prog 45=some (.agg #[.int .i64 0,.slice none 0 0,.slice none 0 0,.slice none 0 0,.int .i64 0,.slice none 0 0]):=by kernel_rfl
theorem LW.dsk {w w':World}{D J:Nat→Prop}{p lb jb cb:Nat}{s:LS}(h:LW w D J p lb jb cb s){d':DS}(hd:IsDisk w' (gr D w w') p d')(hu:Upd D w w'):LW w' (gr D w w') J p lb jb cb {s with d:=d'}∧LT w w' D (gr D w w') J:=by
 have hj:JT w w' D (gr D w w') jb:=⟨fun _ h=>h,fun _ h=>.inl h,hu.mono fun _ _ h=>.inl h⟩;have hc:JT w w' D (gr D w w') cb:=⟨fun _ h=>h,fun _ h=>.inl h,hu.mono fun _ _ h=>.inl h⟩;have sep : ∀b,J b→¬gr D w w' b∧b<w'.heap.size:=fun b hb=>⟨fun hh=>hh.elim (h.jw.sep b hb).1 fun hh=>by have:=(h.jw.sep b hb).2; omega,Nat.lt_of_lt_of_le (h.jw.sep b hb).2 hu.size⟩;exact⟨h.jour (j':=s.j) (d':=d') ⟨hd,hc.other h.cw.jj h.jw.obj h.ne.1 (h.jw.sep jb h.jw.jj).1,h.jw.jj,sep⟩ hj,hj.lt h.jw.jj⟩
theorem Run.mono {N sz first count G G' t t':Nat}{s:LS}{n':Con}(h:Run N sz first count G t s n')(hG:G≤G')(ht:t≤t'):Run N sz first count G' t' s n':=by
 obtain⟨h1,h2,h3,h4⟩:=h;exact⟨h1.mono ht,h2.mono ht,h3,h4.imp (fun ⟨rs,n0,hU⟩=>⟨rs,n0,hU.mono hG⟩) fun hD=>hD.mono hG⟩
open Go
set_option maxRecDepth 100000
def JM (J M:Nat→Prop)(b:Nat):Prop:=J b∨M b
theorem LW.re {w w':World}{D J D' J' G:Nat→Prop}{p lb jb cb:Nat}{s:LS}(h:LW w D J p lb jb cb s)(hu:Upd G w w')(hd:IsDisk w' D' p s.d)(h1 : ¬G lb)(h2 : ¬G jb)(h3 : ¬G cb)(h4 : ¬G 1)(hj:J' lb∧J' jb∧J' cb)(sep : ∀b,J' b→¬D' b∧b<w'.heap.size)(k0 : ¬D' 1∧¬J' 1)(hF : ∀b,b<w.heap.size→G b∨FF D' J' b→FF D J b):LW w' D' J' p lb jb cb s:=by
 obtain⟨sv,j1,j2,j3⟩:=h.jw.obj;obtain⟨nv,c1,c2,c3⟩:=h.cw.obj;obtain⟨cs,b1,b2⟩:=h.box;exact⟨⟨hd,⟨sv,j1.upd hu h2,j2.go hu hF,j3⟩,hj.2.1,sep⟩,⟨hd,⟨nv,c1.upd hu h3,c2.go hu hF,c3⟩,hj.2.2,sep,h.cw.kt.upd hu h4,k0⟩,⟨cs,b1.upd hu h1,aH.go b2 hu hF⟩,hj.1,h.ne⟩
structure LX (w : World) (D J M : Nat → Prop) (p lb jb cb : Nat) (s : LS) : Prop where
 l:LW w D (JM J M) p lb jb cb s
 ll:J lb
 jj:J jb
 jc:J cb
 ne : ∀b,M b→¬J b
theorem LX.mlt {w:World}{D J M:Nat→Prop}{p lb jb cb:Nat}{s:LS}(h:LX w D J M p lb jb cb s){b:Nat}(hb:M b) : ¬FF D J b∧b<w.heap.size:=⟨fun hh=>hh.elim (h.l.jw.sep b (.inr hb)).1 (h.ne b hb),(h.l.jw.sep b (.inr hb)).2⟩
theorem LX.lw {w:World}{D J M:Nat→Prop}{p lb jb cb:Nat}{s:LS}(h:LX w D J M p lb jb cb s):LW w D J p lb jb cb s:=
 h.l.re (Upd.refl (F:=NoB)) h.l.jw.disk (fun h=>h) (fun h=>h) (fun h=>h) (fun h=>h) ⟨h.ll,h.jj,h.jc⟩ (fun b hb=>h.l.jw.sep b (.inl hb)) ⟨h.l.cw.k0.1,fun hh=>h.l.cw.k0.2 (.inl hh)⟩ fun b _ hh=>hh.elim (fun hh=>hh.elim) fun hh=>hh.elim .inl fun hh=>.inr (.inl hh)
theorem LX.side {w w':World}{D J M G:Nat→Prop}{p lb jb cb:Nat}{s:LS}(h:LX w D J M p lb jb cb s)(hu:Upd G w w')(hG : ∀b,G b→M b):LX w' D J M p lb jb cb s:=
 ⟨h.l.re hu (h.l.jw.disk.upd hu fun b hb hg=>(h.l.jw.sep b (.inr (hG b hg))).1 hb) (fun e=>h.ne lb (hG _ e) h.ll) (fun e=>h.ne jb (hG _ e) h.jj) (fun e=>h.ne cb (hG _ e) h.jc) (fun e=>h.l.cw.k0.2 (.inr (hG _ e))) ⟨.inl h.ll,.inl h.jj,.inl h.jc⟩
  (fun b hb=>⟨(h.l.jw.sep b hb).1,Nat.lt_of_lt_of_le (h.l.jw.sep b hb).2 hu.size⟩) h.l.cw.k0 fun b _ hh=>hh.elim (fun hh=>.inr (.inr (hG b hh))) id,h.ll,h.jj,h.jc,h.ne⟩
theorem LX.quiet {w w':World}{D J M:Nat→Prop}{p lb jb cb:Nat}{s:LS}(h:LX w D J M p lb jb cb s)(hu:Upd NoB w w'):LX w' D J M p lb jb cb s:=h.side hu fun _ h=>h.elim
theorem LX.of {w w':World}{D J M:Nat→Prop}{p lb jb cb:Nat}{s:LS}(h:LW w D J p lb jb cb s)(hj:J jb)(hc:J cb)(hu:Upd NoB w w')(hM : ∀b,M b→w.heap.size≤b∧b<w'.heap.size):LX w' D J M p lb jb cb s:=
 ⟨h.re hu (h.jw.disk.upd hu fun _ _ h=>h) (fun h=>h) (fun h=>h) (fun h=>h) (fun h=>h) ⟨.inl h.ll,.inl hj,.inl hc⟩
  (fun b hb=>hb.elim (fun hb=>⟨(h.jw.sep b hb).1,Nat.lt_of_lt_of_le (h.jw.sep b hb).2 hu.size⟩) fun hb=>⟨fun hd=>by have:=h.jw.disk.bd b hd; have:=(hM b hb).1; omega,(hM b hb).2⟩)
  ⟨h.cw.k0.1,fun hh=>hh.elim h.cw.k0.2 fun hh=>by have:=(hM 1 hh).1; have:=h.cw.kt.1; omega⟩ fun b hb hh=>hh.elim (fun hh=>hh.elim) fun hh=>hh.elim .inl fun hh=>hh.elim .inr fun hh=>by have:=(hM b hh).1; omega,
  h.ll,hj,hc,fun b hb hh=>by have:=(hM b hb).1; have:=(h.jw.sep b hh).2; omega⟩
theorem LX.more {w w':World}{D J M M':Nat→Prop}{p lb jb cb:Nat}{s:LS}(h:LX w D J M p lb jb cb s)(hu:Upd NoB w w')(hM : ∀b,M' b→M b∨(w.heap.size≤b∧b<w'.heap.size)):LX w' D J M' p lb jb cb s:=by
 have hq:=h.quiet hu;refine⟨h.l.re hu (h.l.jw.disk.upd hu fun _ _ h=>h) (fun h=>h) (fun h=>h) (fun h=>h) (fun h=>h) ⟨.inl h.ll,.inl h.jj,.inl h.jc⟩ (fun b hb=>?_) ⟨h.l.cw.k0.1,fun hh=>?_⟩ fun b hb hh=>?_,h.ll,h.jj,h.jc,fun b hb hh=>?_⟩
 ·rcases hb with hb | hb
  ·exact hq.l.jw.sep b (.inl hb)
  ·rcases hM b hb with hb | hb
   ·exact hq.l.jw.sep b (.inr hb)
   ·exact⟨fun hd=>by have:=h.l.jw.disk.bd b hd; omega,hb.2⟩
 ·rcases hh with hh | hh
  ·exact h.l.cw.k0.2 (.inl hh)
  ·rcases hM 1 hh with hh | hh
   ·exact h.l.cw.k0.2 (.inr hh)
   ·have:=h.l.cw.kt.1; omega
 ·rcases hh with hh | hh | hh | hh
  ·exact hh.elim
  ·exact .inl hh
  ·exact .inr (.inl hh)
  ·rcases hM b hh with hh | hh
   ·exact .inr (.inr hh)
   ·omega
 ·rcases hM b hb with hb | hb
  ·exact h.ne b hb hh
  ·have:=(h.l.jw.sep b (.inl hh)).2; omega
theorem Ok.both {m:Option (Value×World)}{K L:Value→World→Prop}(h1:Ok m K)(h2:Ok m L):Ok m fun v w=>K v w∧L v w:=by
 rw[fU] at *;obtain⟨v,w,e1,k⟩:=h1;obtain⟨v',w',e2,l⟩:=h2;rw[e1] at e2;cases e2;exact⟨v,w,e1,k,l⟩
theorem LX.step {w w':World}{D D' D2 J M:Nat→Prop}{p lb jb cb:Nat}{s s':LS}(h:LX w D J M p lb jb cb s)(h1:LT w w' D D2 J)(h2:LW w' D' (JM J M) p lb jb cb s')(h3:LT w w' D D' (JM J M)):LX w' D' J M p lb jb cb s'∧LT w w' D D' J:=
 ⟨⟨h2,h.ll,h.jj,h.jc,h.ne⟩,h3.new,h3.old,h1.upd⟩
theorem aCt {w:World}{D J M:Nat→Prop}{p lb jb cb:Nat}{s:LS}(h:LX w D J M p lb jb cb s){N sz i t:Nat}(hb:LB N sz i s)(hi:i≤300000)(hs:SmN t s.n)(ht:t≤28){o:OpS}{cs:List Value}(hc:eO.C w (FF D (JM J M)) o cs)(ho:OpB o) :
 Ok (den Tryz.prog 14 #[.pointer (some ⟨lb,0,none⟩),.agg cs.toArray] w) fun u w'=>u = .int .i64 (lop s (opK o)).2∧∃D',LX w' D' J M p lb jb cb (lop s (opK o)).1∧LT w w' D D' J:=by
 have h1:=wY h.lw hb hi hs ht (cW.go hc (Upd.refl (F:=NoB)) fun b _ hh=>hh.elim (fun hh=>hh.elim) fun hh=>hh.elim .inl fun hh=>.inr (.inl hh)) ho;have h2:=wY h.l hb hi hs ht hc ho;refine(h1.both h2).mono ?_;rintro u w' ⟨⟨e,D1,_,l1⟩,_,D2,g2,l2⟩;exact⟨e,D2,h.step l1 g2 l2⟩
theorem aCu {w:World}(hK:KT w){D M:Nat→Prop}{p:Nat}{d:DS}(h:IsDisk w D p d)(hD0 : ¬D 1)(hM : ∀b,M b→¬D b∧b<w.heap.size)(hM0 : ¬M 1){N sz first count G:Nat}(g:Geo N sz first count)(hw:WfD N sz 0 d)(hoff:d.off=false)(hG:G≤4611686018427387904){n:Con}{rs:List Rec}{n0:Con}(hf:Fnd N sz first count G (DurL d) n rs n0) :
 Ok (den Tryz.prog 11 #[.pointer (some ⟨p,0,none⟩),.int .i64 (first:Int),.int .i64 (count:Int)] w) fun v w'=>∃lb jb cb J s,v = .tuple #[.pointer (some ⟨lb,0,none⟩),.int .i64 0]∧(∀b,J b→w.heap.size≤b)∧LX w' D J M p lb jb cb s∧Upd NoB w w'∧s.d=d∧s.n=n∧Up N sz first count G s rs n0:=by
 have h':IsDisk w (fun b=>D b∨M b) p d:=h.mono (fun _ h=>.inl h) fun b hb=>hb.elim (h.bd b) fun hb=>(hM b hb).2;refine(kG hK h' (fun hh=>hh.elim hD0 hM0) g hw hoff hG hf).mono ?_;rintro v w' ⟨lb,jb,cb,J,s,rfl,hJ,hL,u,hsd,hsn,hU⟩;refine⟨lb,jb,cb,J,s,rfl,hJ,⟨hL.re (Upd.refl (F:=NoB)) ?_ (fun h=>h) (fun h=>h) (fun h=>h) (fun h=>h) ⟨.inl hL.ll,.inl hL.jw.jj,.inl hL.cw.jj⟩ (fun b hb=>?_) ⟨hD0,fun hh=>hh.elim hL.cw.k0.2 hM0⟩ fun b hb hh=>?_,hL.ll,hL.jw.jj,hL.cw.jj,fun b hb hh=>?_⟩,u,hsd,hsn,hU⟩
 ·rw[hsd]; exact h.upd u fun _ _ h=>h
 ·rcases hb with hb | hb
  ·exact⟨fun hd=>(hL.jw.sep b hb).1 (.inl hd),(hL.jw.sep b hb).2⟩
  ·exact⟨(hM b hb).1,Nat.lt_of_lt_of_le (hM b hb).2 u.size⟩
 ·rcases hh with hh | hh | hh | hh
  ·exact hh.elim
  ·exact .inl (.inl hh)
  ·exact .inr hh
  ·exact .inl (.inr hh)
 ·have:=hJ b hh; have:=(hM b hb).2; omega
end Go.Proofs.YtpgigkceoolgeaaGreatDoor.Fd
