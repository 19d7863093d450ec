import Derived.Test.YtpgigkceoolgeaaGreatDoorS030
set_option linter.all false
namespace Go.Proofs.YtpgigkceoolgeaaGreatDoor.Fd
open Go
set_option maxRecDepth 100000
structure ConS (n : Con) : Prop where
 w:ConW n
 s : ∀x,x∈n.st→CmdS x
 o:SrtC n.st
 ts : ∀x,x∈n.bas.taken→CmdS x
 to:SrtC n.bas.taken
 sl:n.st.length≤400000
 bl:n.bas.steps.length≤400000
 cl:(confB n.bas).length≤1000000000
theorem kA {l m:List Cmd}(h : ∀x,x∈l→CmdS x){x:Cmd}(hx:x∈minC l m):x∈l:=(cF h).1 ((List.mem_filter.1 hx).1)
theorem cV {l m:List Cmd}:(minC l m).length≤l.length:=Nat.le_trans (List.length_filter_le _ _) gT
theorem kB {l m:List Cmd}(h : ∀x,x∈l→CmdS x):SrtC (minC l m):=gR ((cU h).pair.filter _)
noncomputable def lextend (s:LS)(l:List Cmd):LS×Int:=
 if s.dn then (s,8) else
 if minC l s.n.st = [] then (s,0) else lchange s (joinN s.n (minC l s.n.st)) (encRc (.ext (minC l s.n.st)))
set_option maxHeartbeats 4000000 in
theorem aB9 {w:World}{D J:Nat→Prop}{p lb jb cb:Nat}{s:LS}(h:LW w D J p lb jb cb s){N sz i:Nat}(hb:LB N sz i s)(hi:i≤300000)(hn:ConS s.n){y:Value}{l:List Cmd}(hy:SlD eC w (FF D J) y l)(hx : ∀x,x∈l→CmdS x)(hxl:l.length≤400000)
 (hk:(encCn (joinN s.n (minC l s.n.st))).length≤1000000) (hrl:(encL (minC l s.n.st)).length≤800000) :
 Ok (den Tryz.prog 34 #[.pointer (some ⟨lb,0,none⟩),y] w) fun u w'=>u = .int .i64 (lextend s l).2∧∃D',LW w' D' J p lb jb cb (lextend s l).1∧LT w w' D D' J:=by
 obtain⟨ya,yc,rfl,_⟩:=hy.form;obtain⟨cs0,hb0,hn0⟩:=h.box;obtain⟨xa,xc,sa,sc,ta,tc,rfl,k1,k2,k3⟩:=aO hn0;simp only[List.cons_append,List.nil_append] at hb0;unfold lextend;refine aB (args:=[.pointer (some ⟨lb,0,none⟩),.slice ya l.length yc]) rs34 Tryz.func34 rfl mixed (by kernel_rfl) PL rfl ?_;cases hdn:s.dn;case true=>
  rw[hdn] at hb0;simp(maxSteps:=3000000)(disch:=omega)only[push_cast,seval,hb0.cell];exact⟨D,h,LT.refl⟩
 rw[hdn] at hb0;rw[if_neg (by simp)];simp(maxSteps:=3000000)(disch:=omega)only[push_cast,seval,hb0.cell];refine Ok.use (Z3 hy k1 hx hn.s (by omega) (by have:=hn.sl; omega)) ?_;rintro u w1 ⟨q1,u1⟩;obtain⟨ma,mc,rfl,_⟩:=(q1.slD aA).form;obtain⟨M,hM⟩ : ∃M,M=minC l s.n.st:=⟨_,rfl⟩;have hMs : ∀x,x∈M→CmdS x:=fun x hm=>hx x (kA hx (by rw[←hM]; exact hm));have hMl:M.length≤l.length:=by rw[hM]; exact cV
 have hMo:SrtC M:=by rw[hM]; exact kB hx
 rw[←hM] at q1 hk hrl ⊢;generalize hKs:KS _ _ _ _ _=Ks;simp(maxSteps:=3000000)(disch:=omega)only[push_cast,seval];have b2:=(Blk.new (w:=w1) (cs:=[.slice none 0 0]) (E:=32)).set 0 (.slice ma M.length mc);have u2':Upd NoB w1 ((w1.alloc (.cells #[Value.slice none 0 0] 32 (0,0))).setCell ⟨w1.heap.size,0,none⟩ (.slice ma M.length mc)):=Upd.alloc.setNew (Nat.le_refl _);rw[List.set_cons_zero] at b2;generalize (w1.alloc (.cells #[Value.slice none 0 0] 32 (0,0))).setCell ⟨w1.heap.size,0,none⟩ (.slice ma M.length mc)=w2 at *;have u2:=u1.trans u2' fun _ _ h=>h;have q2:SlD eC w2 (Old w) (.slice ma M.length mc) M:=(q1.slD aA).go aA u2' fun _ _ h=>h.elim (fun h=>h.elim) id;have s1:=u1.size;subst hKs;rw[aC];by_cases h0:M = []
 ·have h0':((M.length:Int)=0)=True:=eq_true (by rw[h0]; rfl);rw[if_pos h0];simp(maxSteps:=3000000)(disch:=omega)only[push_cast,seval,b2.cell,h0'];exact⟨D,h.quiet u2,LT.quiet u2⟩
 have h0':((M.length:Int)=0)=False:=eq_false fun e=>h0 (List.eq_nil_of_length_eq_zero (by omega));rw[if_neg h0];have h2:=h.quiet u2;have hb2:=hb0.upd u2 fun h=>h;have hdr:Upd NoB w2 w2.drew:=Upd.drew;have cc : ∀{w':World},Upd NoB w2 w'→∀j,w'.cell? ⟨lb,j,none⟩ = [Value.pointer (some ⟨jb,0,none⟩),.pointer (some ⟨cb,0,none⟩),.slice xa s.n.st.length xc,.slice sa s.n.bas.steps.length sc,.slice ta s.n.bas.taken.length tc,.int .i64 s.n.life,.bool false][j]? :=fun u j=>(hb2.upd u fun h=>h).cell j;have bb : ∀{w':World},Upd NoB w2 w'→∀j,w'.cell? ⟨w1.heap.size,j,none⟩ = [Value.slice ma M.length mc][j]? :=fun u j=>(b2.upd u fun h=>h).cell j;have hnn:eN.C w2.drew (FF D J) s.n _:=(LT.quiet (D:=D) (J:=J) (u2.trans hdr fun _ _ h=>h)).eN hn0;simp(maxSteps:=3000000)(disch:=omega)only[push_cast,seval,↓aE,↓aF,h0',b2.cell,cc hdr,bb hdr];have hsum:s.n.st.length+M.length≤1000000:=by have:=hn.sl; omega
 refine Ok.use (mZ hnn (q2.go aA hdr fun _ _ h=>h.elim (fun h=>h.elim) id) hn.s hMs hsum) ?_;rintro u w3 ⟨cs3,rfl,n3,u3'⟩;have u3:Upd NoB w2 w3:=hdr.trans u3' fun _ _ h=>h;have v3:=u2.trans u3 fun _ _ h=>h;have h3:=h2.quiet u3;have b3:=b2.upd u3 fun h=>h;have q3:SlD eC w3 (Old w) (.slice ma M.length mc) M:=q2.go aA u3 fun _ _ h=>h.elim (fun h=>h.elim) id;simp(maxSteps:=3000000)(disch:=omega)only[push_cast,seval,↓aE,↓aF,h0',b2.cell,cc hdr,bb hdr,cc u3,bb u3];have hck:eN.C w3 (FF D J) (joinN s.n M) cs3:=aH.go n3 (Upd.refl (F:=NoB)) fun b _ hh=>hh.elim (fun hh=>hh.elim) fun hh=>⟨hh,by show b<w2.drew.heap.size; exact h2.bd hh⟩;have hso:SrtC (joinN s.n M).st:=cU fun x hx'=>(List.mem_append.1 hx').elim (hn.s x) (hMs x);have hrl':(encRc (.ext M)).length≤900000:=by
  have:=aL (n:=1) (by decide);simp only[encRc,List.length_append];omega
 refine Ok.use (nW h3 hb hi hck hk hso hn.to (r:=.ext M) ⟨hMs,hMo,by omega⟩ hrl' (f:=68) (k:=w1.heap.size) (by kernel_rfl) fun w1' S pb hS1 hS2 hu=>aB4 hS1 (b3.upd hu fun h=>h) (fun hh=>by have:=hS2 _ hh; have:=b3.lt; omega) (q3.go aA hu fun b hb' hh=>hh.elim (fun hh=>hh.elim) fun hh=>by have:=hS2 _ hh; omega) (by omega)) ?_;rintro u w4 ⟨rfl,D4,h4,l4⟩;simp(maxSteps:=3000000)(disch:=omega)only[push_cast,seval];exact⟨D4,h4,(LT.quiet v3).trans l4⟩
structure BasS (b : Bas) : Prop where
 w:BasW b
 ts : ∀x,x∈b.taken→CmdS x
 to:SrtC b.taken
 tl:b.taken.length≤400000
 bl:b.steps.length≤400000
 cl:(confB b).length≤1000000000
def lrebase (s:LS)(b:Bas):LS×Int:=
 if s.dn then (s,8) else
 if (confB b).length≤(confB s.n.bas).length then (s,11) else lchange s (rebN s.n b) (encRc (.reb b))
set_option maxHeartbeats 4000000 in
theorem aBa {w:World}{D J:Nat→Prop}{p lb jb cb:Nat}{s:LS}(h:LW w D J p lb jb cb s){N sz i:Nat}(hb:LB N sz i s)(hi:i≤300000)(hn:ConS s.n){bs:List Value}{b:Bas}(hy:eB.C w (FF D J) b bs)(hx:BasS b)
 (hk:(encCn (rebN s.n b)).length≤1000000) (hrl:(encBs b).length≤800000) :
 Ok (den Tryz.prog 35 #[.pointer (some ⟨lb,0,none⟩),.agg bs.toArray] w) fun u w'=>u = .int .i64 (lrebase s b).2∧∃D',LW w' D' J p lb jb cb (lrebase s b).1∧LT w w' D D' J:=by
 obtain⟨pa,pc,qa,qc,rfl,m1,m2,m3⟩:=a8 hy;obtain⟨cs0,hb0,hn0⟩:=h.box;obtain⟨xa,xc,sa,sc,ta,tc,rfl,k1,k2,k3⟩:=aO hn0;simp only[List.cons_append,List.nil_append] at hb0;unfold lrebase;refine aB (args:=[.pointer (some ⟨lb,0,none⟩),.agg #[.slice pa b.steps.length pc,.slice qa b.taken.length qc]]) rs35 Tryz.func35 rfl mixed (by kernel_rfl) PM rfl ?_;rw[aD];generalize hKs:KS _ _ _ _ _=Ks;simp(disch:=omega)only[push_cast,seval];have u1:Upd NoB w (w.alloc (.cells [.slice pa b.steps.length pc,.slice qa b.taken.length qc].toArray 35 (0,0))):=Upd.alloc;have b1:=Blk.new (w:=w) (cs:=[.slice pa b.steps.length pc,.slice qa b.taken.length qc]) (E:=35);generalize w.alloc (.cells [.slice pa b.steps.length pc,.slice qa b.taken.length qc].toArray 35 (0,0))=w1 at *;have h1:=h.quiet u1;have hb1:=hb0.upd u1 fun h=>h;subst hKs;rw[aC];cases hdn:s.dn;case true=>
  rw[hdn] at hb1;simp(maxSteps:=3000000)(disch:=omega)only[push_cast,seval,hb1.cell];exact⟨D,h1,LT.quiet u1⟩
 rw[hdn] at hb1;rw[if_neg (by simp)];have cc : ∀{w':World},Upd NoB w1 w'→∀j,w'.cell? ⟨lb,j,none⟩ = [Value.pointer (some ⟨jb,0,none⟩),.pointer (some ⟨cb,0,none⟩),.slice xa s.n.st.length xc,.slice sa s.n.bas.steps.length sc,.slice ta s.n.bas.taken.length tc,.int .i64 s.n.life,.bool false][j]? :=fun u j=>(hb1.upd u fun h=>h).cell j;have bb : ∀{w':World},Upd NoB w1 w'→∀j,w'.cell? ⟨w.heap.size,j,none⟩ = [Value.slice pa b.steps.length pc,.slice qa b.taken.length qc][j]? :=fun u j=>(b1.upd u fun h=>h).cell j;have hdr:Upd NoB w1 w1.drew:=Upd.drew;have u0:Upd NoB w1 w1:=Upd.refl;simp(maxSteps:=3000000)(disch:=omega)only[push_cast,seval,↓aE,↓aF,cc u0,bb u0,cc hdr,bb hdr];refine Ok.use (jO (aK.go hy (u1.trans hdr fun _ _ h=>h) fun _ _ h=>h.elim (fun h=>h.elim) id) (by have:=hx.bl; omega)) ?_;rintro u w2 ⟨r2,u2'⟩;obtain⟨ra,rc,rfl,_⟩:=r2.form;have u2:Upd NoB w1 w2:=hdr.trans u2' fun _ _ h=>h;simp(maxSteps:=3000000)(disch:=omega)only[push_cast,seval,↓aE,↓aF,cc u0,bb u0,cc hdr,bb hdr,cc u2,bb u2];refine Ok.use (jO (aK.go k2 (u1.trans u2 fun _ _ h=>h) fun _ _ h=>h.elim (fun h=>h.elim) id) (by have:=hn.bl; omega)) ?_;rintro u w3 ⟨r3,u3'⟩;obtain⟨ra',rc',rfl,_⟩:=r3.form;have u3:Upd NoB w1 w3:=u2.trans u3' fun _ _ h=>h;by_cases hlt:(confB b).length≤(confB s.n.bas).length
 ·have hlt':((confB b).length:Int)≤((confB s.n.bas).length:Int):=by omega
  rw[if_pos hlt];simp(maxSteps:=3000000)(disch:=omega)only[push_cast,seval,↓aE,↓aF,cc u0,bb u0,cc hdr,bb hdr,cc u2,bb u2,cc u3,bb u3,hlt'];exact⟨D,h1.quiet u3,LT.quiet (u1.trans u3 fun _ _ h=>h)⟩
 have hlt' : ¬((confB b).length:Int)≤((confB s.n.bas).length:Int):=by omega
 rw[if_neg hlt];simp(maxSteps:=3000000)(disch:=omega)only[push_cast,seval,↓aE,↓aF,cc u0,bb u0,cc hdr,bb hdr,cc u2,bb u2,cc u3,bb u3,cc u3.drew',bb u3.drew',hlt'];have v4:=u1.trans u3.drew' fun _ _ h=>h;refine Ok.use (uK ((LT.quiet (D:=D) (J:=J) v4).eN hn0) ((LT.quiet (D:=D) (J:=J) v4).eB hy) hn.s hx.ts (by have:=hn.sl; have:=hx.tl; omega) (by have:=hn.bl; omega) (by have:=hx.bl; omega) hn.cl hx.cl) ?_;rintro u w5 ⟨cs5,rfl,n5,u5'⟩;have u5:Upd NoB w1 w5:=u3.drew'.trans u5' fun _ _ h=>h;have v5:=u1.trans u5 fun _ _ h=>h;have b5:=b1.upd u5 fun h=>h;have h5:=h1.quiet u5;have hy5:=(LT.quiet (D:=D) (J:=J) v5).eB hy;simp(maxSteps:=3000000)(disch:=omega)only[push_cast,seval,↓aE,↓aF,cc u0,bb u0,cc hdr,bb hdr,cc u2,bb u2,cc u3,bb u3,cc u3.drew',bb u3.drew',cc u5,bb u5];have hck:eN.C w5 (FF D J) (rebN s.n b) cs5:=aH.go n5 (Upd.refl (F:=NoB)) fun c _ hh=>hh.elim (fun hh=>hh.elim) fun hh=>⟨hh,(h1.quiet u3.drew').bd hh⟩;have hso:SrtC (rebN s.n b).st:=cU fun x hx'=>(List.mem_append.1 hx').elim (hn.s x) (hx.ts x);have hto:SrtC (rebN s.n b).bas.taken:=by
  show SrtC (if (confB s.n.bas).length<(confB b).length then b else s.n.bas).taken
  split
  ·exact hx.to
  ·exact hn.to
 have hrl':(encRc (.reb b)).length≤900000:=by
  have:=aL (n:=2) (by decide);simp only[encRc,List.length_append];omega
 have hbl:=b1.lt;have hs5:=u5.size;refine Ok.use (nW h5 hb hi hck hk hso hto (r:=.reb b) ⟨hx.w,hx.ts,hx.to,by have:=hx.tl; omega,by have:=hx.bl; omega,hx.cl⟩ hrl' (f:=72) (k:=w.heap.size) (by kernel_rfl) fun w1' S pb hS1 hS2 hu=>aB5 hS1 (b5.upd hu fun h=>h) (fun hh=>by have:=hS2 _ hh; omega) (aK.go hy5 hu fun c hc' hh=>hh.elim (fun hh=>hh.elim) fun hh=>by have:=hS2 _ hh; omega) (by omega)) ?_;rintro u w6 ⟨rfl,D6,h6,l6⟩;simp(maxSteps:=3000000)(disch:=omega)only[push_cast,seval];exact⟨D6,h6,(LT.quiet v5).trans l6⟩
def llive (s:LS):LS×Int:=
 if s.dn then (s,8) else
 if 4611686018427387904≤s.n.life then (s,6) else lchange s {s.n with life:=s.n.life+1} (encRc (.liv (s.n.life.toNat+1)))
set_option maxHeartbeats 4000000 in
theorem aBb {w:World}{D J:Nat→Prop}{p lb jb cb:Nat}{s:LS}(h:LW w D J p lb jb cb s){N sz i:Nat}(hb:LB N sz i s)(hi:i≤300000)(hn:ConS s.n)
 (hk:(encCn {s.n with life:=s.n.life+1}).length≤1000000) :
 Ok (den Tryz.prog 33 #[.pointer (some ⟨lb,0,none⟩)] w) fun u w'=>u = .int .i64 (llive s).2∧∃D',LW w' D' J p lb jb cb (llive s).1∧LT w w' D D' J:=by
 obtain⟨cs0,hb0,hn0⟩:=h.box;obtain⟨xa,xc,sa,sc,ta,tc,rfl,k1,k2,k3⟩:=aO hn0;simp only[List.cons_append,List.nil_append] at hb0;unfold llive;refine aB (args:=[.pointer (some ⟨lb,0,none⟩)]) rs33 Tryz.func33 rfl mixed (by kernel_rfl) PK rfl ?_;cases hdn:s.dn;case true=>
  rw[hdn] at hb0;simp(maxSteps:=3000000)(disch:=omega)only[push_cast,seval,hb0.cell];exact⟨D,h,LT.refl⟩
 rw[hdn] at hb0;rw[if_neg (by simp)];by_cases hlt:(4611686018427387904:Int)≤s.n.life
 ·rw[if_pos hlt];simp(maxSteps:=3000000)(disch:=omega)only[push_cast,seval,hb0.cell,hlt];exact⟨D,h,LT.refl⟩
 rw[if_neg hlt];have hl0:=k3.2.2.1;obtain⟨m,hm⟩ : ∃m:Nat,s.n.life=(m:Int):=⟨s.n.life.toNat,by omega⟩;have hm1:m+1≤4611686018427387904:=by omega
 rw[hm] at hlt hb0 hk ⊢;rw[show((m:Int)).toNat=m from rfl];have z1:=Blk.new (w:=w) (cs:=[.slice none 0 0,.slice none 0 0,.slice none 0 0,.int .i64 0]) (E:=90);simp(maxSteps:=3000000)(disch:=omega)only[push_cast,seval,hb0.cell,hlt];generalize hKs:KS _ _ _ _ _=Ks;simp(maxSteps:=3000000)(disch:=omega)only[push_cast,seval,dA,aP (P:=Tryz.prog) (t:=90) (cs':=[.slice xa s.n.st.length xc,.slice sa s.n.bas.steps.length sc,.slice ta s.n.bas.taken.length tc,.int .i64 (m:Int)]) z1 (by kernel_rfl) rfl (fun u hu=>by simp at hu; rcases hu with rfl | rfl | rfl | rfl <;> rfl)];have b2:=z1.setRow (cs':=[.slice xa s.n.st.length xc,.slice sa s.n.bas.steps.length sc,.slice ta s.n.bas.taken.length tc,.int .i64 (m:Int)]);have u2:Upd NoB w ((w.alloc (.cells #[.slice none 0 0,.slice none 0 0,.slice none 0 0,.int .i64 0] 90 (0,0))).setRow w.heap.size #[.slice xa s.n.st.length xc,.slice sa s.n.bas.steps.length sc,.slice ta s.n.bas.taken.length tc,.int .i64 (m:Int)]):=Upd.alloc.trans (Upd.setRow (F:=fun b=>b=w.heap.size) rfl) fun b hb e=>by omega
 generalize (w.alloc (.cells #[.slice none 0 0,.slice none 0 0,.slice none 0 0,.int .i64 0] 90 (0,0))).setRow w.heap.size #[.slice xa s.n.st.length xc,.slice sa s.n.bas.steps.length sc,.slice ta s.n.bas.taken.length tc,.int .i64 (m:Int)]=w2 at *;subst hKs;rw[aC];rw[aD];generalize hKs:KS _ _ _ _ _=Ks;simp(disch:=omega)only[push_cast,seval,b2.cell,b2.free];have b3:=b2.set 3 (.int .i64 ((m:Int)+1));have u3:Upd NoB w (w2.setCell ⟨w.heap.size,3,none⟩ (.int .i64 ((m:Int)+1))):=u2.setNew (Nat.le_refl _);simp only[List.set_cons_succ,List.set_cons_zero] at b3;generalize w2.setCell ⟨w.heap.size,3,none⟩ (.int .i64 ((m:Int)+1))=w3 at *;have h3:=h.quiet u3;have hbl:=b3.lt;have hc3:eN.C w3 (FF D J) {s.n with life:=(m:Int)+1} [.slice xa s.n.st.length xc,.slice sa s.n.bas.steps.length sc,.slice ta s.n.bas.taken.length tc,.int .i64 ((m:Int)+1)]:=
  ⟨_,_,_,rfl,(LT.quiet (D:=D) (J:=J) u3).slD k1,(LT.quiet (D:=D) (J:=J) u3).eB k2,⟨k3.1,k3.2.1,by show(0:Int)≤(m:Int)+1; omega,by show(m:Int)+1≤4611686018427387904; omega⟩⟩
 have hrl':(encRc (.liv (m+1))).length≤900000:=by
  have:=aL (n:=3) (by decide);have:=aL (n:=m+1) (by omega);simp only[encRc,List.length_append];omega
 subst hKs;rw[aC];simp(maxSteps:=3000000)(disch:=omega)only[push_cast,seval,aJ (P:=Tryz.prog) (t:=90) b3 (by kernel_rfl) (by kernel_rfl)];refine Ok.use (nW h3 hb hi hc3 hk hn.o hn.to (r:=.liv (m+1)) hm1 hrl' (f:=64) (k:=w.heap.size) (by kernel_rfl) fun w1' S pb hS1 hS2 hu=>aB6 hS1 (n:=m+1) (b3.upd hu fun h=>h) (fun hh=>by have:=hS2 _ hh; omega) hm1) ?_;rintro u w4 ⟨rfl,D4,h4,l4⟩;simp(maxSteps:=3000000)(disch:=omega)only[push_cast,seval];exact⟨D4,h4,(LT.quiet u3).trans l4⟩
def lcompact (s:LS):LS×Int:=if s.dn then (s,8) else lsave s s.n
set_option maxHeartbeats 4000000 in
theorem aBc {w:World}{D J:Nat→Prop}{p lb jb cb:Nat}{s:LS}(h:LW w D J p lb jb cb s){N sz i:Nat}(hb:LB N sz i s)(hi:i≤300000)(hk:(encCn s.n).length≤1000000) :
 Ok (den Tryz.prog 36 #[.pointer (some ⟨lb,0,none⟩)] w) fun u w'=>u = .int .i64 (lcompact s).2∧∃D',LW w' D' J p lb jb cb (lcompact s).1∧LT w w' D D' J:=by
 obtain⟨cs0,hb0,hn0⟩:=h.box;obtain⟨xa,xc,sa,sc,ta,tc,rfl,k1,k2,k3⟩:=aO hn0;simp only[List.cons_append,List.nil_append] at hb0;unfold lcompact;refine aB (args:=[.pointer (some ⟨lb,0,none⟩)]) rs36 Tryz.func36 rfl mixed (by kernel_rfl) PN rfl ?_;cases hdn:s.dn;case true=>
  rw[hdn] at hb0;simp(maxSteps:=3000000)(disch:=omega)only[push_cast,seval,hb0.cell];exact⟨D,h,LT.refl⟩
 rw[hdn] at hb0;rw[if_neg (by simp)];simp(maxSteps:=3000000)(disch:=omega)only[push_cast,seval,hb0.cell];refine Ok.use (vV h hb hi hn0 hk) ?_;rintro u w1 ⟨rfl,D1,h1,l1⟩;simp(maxSteps:=3000000)(disch:=omega)only[push_cast,seval];exact⟨D1,h1,l1⟩
theorem iA {w:World}{D J:Nat→Prop}{p lb jb cb:Nat}{s:LS}(h:LW w D J p lb jb cb s):Ok (den Tryz.prog 18 #[.pointer (some ⟨lb,0,none⟩)] w) fun u w'=>u = .bool s.dn∧w=w':=by
 obtain⟨cs0,hb0,hn0⟩:=h.box;obtain⟨xa,xc,sa,sc,ta,tc,rfl,k1,k2,k3⟩:=aO hn0;simp only[List.cons_append,List.nil_append] at hb0;refine aB (args:=[.pointer (some ⟨lb,0,none⟩)]) rs18 Tryz.func18 rfl mixed (by kernel_rfl) O6 rfl ?_;simp(maxSteps:=3000000)(disch:=omega)only[push_cast,seval,hb0.cell]
theorem kC {w:World}{D J:Nat→Prop}{p lb jb cb:Nat}{s:LS}(h:LW w D J p lb jb cb s):Ok (den Tryz.prog 29 #[.pointer (some ⟨lb,0,none⟩)] w) fun u w'=>u = .int .i64 s.n.life∧w=w':=by
 obtain⟨cs0,hb0,hn0⟩:=h.box;obtain⟨xa,xc,sa,sc,ta,tc,rfl,k1,k2,k3⟩:=aO hn0;simp only[List.cons_append,List.nil_append] at hb0;refine aB (args:=[.pointer (some ⟨lb,0,none⟩)]) rs29 Tryz.func29 rfl mixed (by kernel_rfl) PH rfl ?_;simp(maxSteps:=3000000)(disch:=omega)only[push_cast,seval,hb0.cell]
theorem aBd {n:Con}(h:(encCn n).length≤999000):(encCn ⟨n.st,⟨[],[]⟩,0⟩).length≤1000000:=by
 rw[cK] at h ⊢;have h1:(encBs ⟨[],[]⟩).length≤100:=by
  rw[cE];have:=aL (n:=0) (by decide);simp only[encL,List.flatMap_nil,List.length_nil,List.append_nil];omega
 have h2:(encU (0:Int).toNat).length≤10:=aL (by decide);show(encU (0:Int).toNat).length+(encBs ⟨[],[]⟩).length+(encL n.st).length≤1000000;omega
theorem aBe {n:Con}(h:(encCn n).length≤999000):(encCn ⟨[],n.bas,0⟩).length≤1000000:=by
 rw[cK] at h ⊢;have h1:(encL []).length≤10:=by
  have:=aL (n:=0) (by decide);simp only[encL,List.flatMap_nil,List.length_nil,List.append_nil];omega
 have h2:(encU (0:Int).toNat).length≤10:=aL (by decide);show(encU (0:Int).toNat).length+(encBs n.bas).length+(encL []).length≤1000000;omega
def fgtS (P:Program)(t:TypeId)(x:Value)(i:Nat)(w:World):Option (Value×World):=lift ((Instr.field t x i).run P w)
theorem aBf {P:Program}{D:Den}{ty:TypeId}{e:Operand→Value}{w:World}{t:TypeId}{x:Operand}{i:Nat}:opX P D (.field t x i) ty e w=fgtS P t (e x) i w:=by
 simp only[opX,opS,execOp,fgtS,lift];generalize Instr.field t (e x) i=s;simp;cases s.run P w <;> simp
theorem aBg {a b d:Option Addr}{n c n' c' n'' c'':Nat}{l:Int}{w:World}:fgtS Tryz.prog 90 (.agg #[.slice a n c,.slice b n' c',.slice d n'' c'',.int .i64 l]) 0 w=some (.slice a n c,w):=by kernel_rfl
theorem aBh {a b d:Option Addr}{n c n' c' n'' c'':Nat}{l:Int}{w:World}:fgtS Tryz.prog 90 (.agg #[.slice a n c,.slice b n' c',.slice d n'' c'',.int .i64 l]) 1 w=some (.agg #[.slice b n' c',.slice d n'' c''],w):=by kernel_rfl
attribute [push_cast] aBf aBg aBh
theorem aBi (a:Option Addr)(n c:Nat)(w:World):bldS Tryz.prog 90 #[(0,.slice a n c)] w=some (.agg #[.slice a n c,.slice none 0 0,.slice none 0 0,.int .i64 0],w):=by kernel_rfl
theorem aBj (a b:Option Addr)(n c n' c':Nat)(w:World):bldS Tryz.prog 90 #[(1,.agg #[.slice a n c,.slice b n' c'])] w=some (.agg #[.slice none 0 0,.slice a n c,.slice b n' c',.int .i64 0],w):=by kernel_rfl
theorem dR:BasW ⟨[],[]⟩:=⟨fun s h=>by simp at h,fun x h=>by simp at h⟩
theorem fG:SrtC []:=fun i x y h=>by simp at h
set_option maxHeartbeats 4000000 in
theorem vX {w:World}{D J:Nat→Prop}{p lb jb cb:Nat}{s:LS}(h:LW w D J p lb jb cb s)(hn:ConS s.n)(hk:(encCn s.n).length≤999000):Ok (den Tryz.prog 26 #[.pointer (some ⟨lb,0,none⟩)] w) fun u w'=>SlD eC w' (fun b=>b<w.heap.size) u s.n.st∧Upd NoB w w':=by
 obtain⟨cs0,hb0,hn0⟩:=h.box;obtain⟨xa,xc,sa,sc,ta,tc,rfl,k1,k2,k3⟩:=aO hn0;simp only[List.cons_append,List.nil_append] at hb0;refine aB (args:=[.pointer (some ⟨lb,0,none⟩)]) rs26 Tryz.func26 rfl mixed (by kernel_rfl) PE rfl ?_;simp(maxSteps:=3000000)(disch:=omega)only[push_cast,seval,hb0.cell,aBi];have hc:eN.C w (FF D J) ⟨s.n.st,⟨[],[]⟩,0⟩ [.slice xa s.n.st.length xc,.slice none 0 0,.slice none 0 0,.int .i64 0]:=
  ⟨_,_,_,rfl,k1,⟨_,_,rfl,SlD.nil,SlD.nil,dR⟩,⟨k3.1,dR,Int.le_refl 0,by show(0:Int)≤_; omega⟩⟩
 refine Ok.use (mF hc hn.o fG (aBd hk)) ?_;rintro u w1 ⟨cs1,rfl,n1,u1⟩;obtain⟨xa1,xc1,sa1,sc1,ta1,tc1,rfl,k1',_,_⟩:=aO n1;simp(maxSteps:=3000000)(disch:=omega)only[push_cast,seval];exact⟨k1',u1⟩
set_option maxHeartbeats 4000000 in
theorem vY {w:World}{D J:Nat→Prop}{p lb jb cb:Nat}{s:LS}(h:LW w D J p lb jb cb s)(hn:ConS s.n)(hk:(encCn s.n).length≤999000):Ok (den Tryz.prog 28 #[.pointer (some ⟨lb,0,none⟩)] w) fun u w'=>∃cs,u = .agg cs.toArray∧eB.C w' (fun b=>b<w.heap.size) s.n.bas cs∧Upd NoB w w':=by
 obtain⟨cs0,hb0,hn0⟩:=h.box;obtain⟨xa,xc,sa,sc,ta,tc,rfl,k1,k2,k3⟩:=aO hn0;simp only[List.cons_append,List.nil_append] at hb0;refine bZ (args:=[.pointer (some ⟨lb,0,none⟩)]) 2 35 Tryz.func28 rfl mixed (by kernel_rfl) PG rfl ?_;rw[aD];generalize hKs:KS _ _ _ _ _=Ks;simp(disch:=omega)only[push_cast,seval];have z1:=Blk.new (w:=w) (cs:=[.slice none 0 0,.slice none 0 0]) (E:=35);have u1:Upd NoB w (w.alloc (.cells #[Value.slice none 0 0,.slice none 0 0] 35 (0,0))):=Upd.alloc;generalize w.alloc (.cells #[Value.slice none 0 0,.slice none 0 0] 35 (0,0))=w1 at *;have s1:=z1.lt;have hb1:=hb0.upd u1 fun h=>h;have hc:eN.C w1 (FF D J) ⟨[],s.n.bas,0⟩ [.slice none 0 0,.slice sa s.n.bas.steps.length sc,.slice ta s.n.bas.taken.length tc,.int .i64 0]:=
  ⟨_,_,_,rfl,SlD.nil,(LT.quiet (D:=D) (J:=J) u1).eB k2,⟨fun x h=>by simp at h,k3.2.1,Int.le_refl 0,by show(0:Int)≤_; omega⟩⟩
 subst hKs;rw[aC];simp(maxSteps:=3000000)(disch:=omega)only[push_cast,seval,hb1.cell,aBj];refine Ok.use (mF hc fG hn.to (aBe hk)) ?_;rintro u w2 ⟨cs2,rfl,n2,u2⟩;obtain⟨xa2,xc2,sa2,sc2,ta2,tc2,rfl,_,k2',_⟩:=aO n2;have z2:=z1.upd u2 fun h=>h;have z8:=z2.setRow (cs':=[.slice sa2 s.n.bas.steps.length sc2,.slice ta2 s.n.bas.taken.length tc2]);simp(maxSteps:=3000000)(disch:=omega)only[push_cast,seval,aP (P:=Tryz.prog) (t:=35) (cs':=[.slice sa2 s.n.bas.steps.length sc2,.slice ta2 s.n.bas.taken.length tc2]) z2 (by kernel_rfl) rfl (fun u hu=>by simp at hu; rcases hu with rfl | rfl <;> rfl),aJ (P:=Tryz.prog) (t:=35) z8 (by kernel_rfl) (by kernel_rfl)];have u8:Upd (fun b=>b=w.heap.size) w2 (w2.setRow w.heap.size #[.slice sa2 s.n.bas.steps.length sc2,.slice ta2 s.n.bas.taken.length tc2]):=Upd.setRow rfl;exact⟨[.slice sa2 s.n.bas.steps.length sc2,.slice ta2 s.n.bas.taken.length tc2],rfl,aK.go k2' u8 fun b _ hh=>by rcases hh with hh | hh <;> omega,(u1.trans u2 fun _ _ h=>h).trans u8 fun b hb e=>by omega⟩
open Go
set_option maxRecDepth 100000
theorem aBk (w:World):bldS Tryz.prog 92 #[] w=some (.agg #[.pointer none,.pointer none,.slice none 0 0,.slice none 0 0,.slice none 0 0,.int .i64 0,.bool false],w):=by kernel_rfl
def con0:Con:=⟨[],⟨[],[]⟩,0⟩
def replay (n:Con)(rs:List Rec):Con:=rs.foldl applyR n
structure ConA (n : Con) : Prop where
 s : ∀x,x∈n.st→CmdS x
 sl:n.st.length≤500000
 bl:n.bas.steps.length≤1000000
 cl:(confB n.bas).length≤1000000000
theorem SlB.avoid {w:World}{F:Nat→Prop}{v:Value}{l:List Int}(h:SlB w F v l){k:Nat}{cs:List Value}{E:TypeId}(hb:Blk w k cs E)(hc : ∀u,u∈cs→∀x,u≠.int .u8 x):SlB w (fun b=>F b∨b=k) v l:=by
 obtain⟨a,c,hv,hl⟩:=h;refine⟨a,c,hv,fun h0=>?_⟩;obtain⟨b,o,h1,h2,h3⟩:=hl h0;refine⟨b,o,h1,h2,fun hh=>hh.elim h3 fun e=>?_⟩;subst e;have h4:=gV h2 (j:=0) (List.length_pos_iff.2 h0);rw[hb.cell] at h4;exact hc _ (List.mem_of_getElem? h4) _ rfl
set_option maxHeartbeats 4000000 in
theorem aBl {w:World}(hK:KT w){D:Nat→Prop}{p:Nat}{d:DS}(h:IsDisk w D p d)(hD0 : ¬D 1){N sz i:Nat}(hs:Sz N sz i d)(hi:i≤900000)(hN:N≤60000)(hz:64≤sz)(hz2:sz≤4096){first count:Nat}(hc8:8≤count)(hfc:first+count≤N)(har:count*sz≤410000)
 (hsec : ∀y,y<N→(d.content y).length=sz∧Rng (d.content y)) (hrd:RngD d) (hoff:d.off=false) {j:JS} {rs:List Rec} {n0:Con}
 (hj:jopen d (first+count/2) (count-count/2)=(some j,0)) (hjs:j.stream.length≤1000000) (hsp:spl j.stream=some (rs.map encRc)) (hcn:((openC d first (count/2/2)).gen=0∧n0=con0)∨(0<(openC d first (count/2/2)).gen∧(openC d first (count/2/2)).newest=encCn n0∧ConS n0))
 (hcl:(openC d first (count/2/2)).newest.length≤1000000) (hcg:(openC d first (count/2/2)).gen≤4611686018427387904)
 (hr : ∀r,r∈rs→RecW r∧(encRc r).length≤1000000) (ha : ∀k,k<rs.length→ConA (replay n0 (rs.take k))) (hrn:rs.length≤1000000) :
 Ok (den Tryz.prog 11 #[.pointer (some ⟨p,0,none⟩),.int .i64 (first:Int),.int .i64 (count:Int)] w) fun v w'=>∃lb jb cb J,v = .tuple #[.pointer (some ⟨lb,0,none⟩),.int .i64 0]∧(∀b,J b→w.heap.size≤b)∧LW w' D J p lb jb cb ⟨d,j,openC d first (count/2/2),replay n0 rs,false⟩∧Upd NoB w w':=by
 have hdl:=hs.dur;have hsz:=hs.size;obtain⟨half,hhf⟩ : ∃half,half=count/2:=⟨_,rfl⟩;obtain⟨k2,hk2⟩ : ∃k2,k2=count-count/2:=⟨_,rfl⟩;obtain⟨f2,hf2⟩ : ∃f2,f2=first+count/2:=⟨_,rfl⟩
 rw[←hk2,←hf2] at hj;rw[←hhf] at hcn hcl hcg ⊢;have e2:IntKind.i64.wrap ((count:Int).tdiv 2)=(half:Int):=by
  rw[show(2:Int)=((2:Nat):Int) from rfl,←Int.ofNat_tdiv,IntKind.wrap_i64]; omega
 have ef:(first:Int)+(half:Int)=(f2:Int):=by omega
 have ek:(count:Int)-(half:Int)=(k2:Int):=by omega
 have h1 : ¬(first:Int)<0:=by omega
 have h2 : ¬(count:Int)<8:=by omega
 have h3 : ¬(N:Int)<(first:Int):=by omega
 have h4 : ¬(N:Int)-(first:Int)<(count:Int):=by omega
 have h5 : ¬(sz:Int)<64:=by omega
 refine aB (args:=[.pointer (some ⟨p,0,none⟩),.int .i64 (first:Int),.int .i64 (count:Int)]) rs11 Tryz.func11 rfl mixed (by kernel_rfl) O0 rfl ?_
 simp(maxSteps:=3000000)(disch:=omega)only[push_cast,seval,h1,h2];refine Ok.use (dW h) ?_;rintro v _ ⟨rfl,rfl⟩;rw[hdl];simp(maxSteps:=3000000)(disch:=omega)only[push_cast,seval,h3];refine Ok.use (dW h) ?_;rintro v _ ⟨rfl,rfl⟩;rw[hdl];simp(maxSteps:=3000000)(disch:=omega)only[push_cast,seval,h4];refine Ok.use (bP h) ?_;rintro v _ ⟨rfl,rfl⟩;rw[hsz];simp(maxSteps:=3000000)(disch:=omega)only[push_cast,seval,h5];refine Ok.use (lD h) ?_;rintro v _ ⟨rfl,rfl⟩;rw[hoff];generalize hKs:KS _ _ _ _ _=Ks;simp(maxSteps:=3000000)(disch:=omega)only[push_cast,seval,e2];subst hKs;rw[aC];simp(maxSteps:=3000000)(disch:=omega)only[push_cast,seval,e2,aBk,ef,ek];have b1:=Blk.new (w:=w) (cs:=[.pointer none,.pointer none,.slice none 0 0,.slice none 0 0,.slice none 0 0,.int .i64 0,.bool false]) (E:=92);have u1:Upd NoB w (w.alloc (.cells [.pointer none,.pointer none,.slice none 0 0,.slice none 0 0,.slice none 0 0,.int .i64 0,.bool false].toArray 92 (0,0))):=Upd.alloc;generalize w.alloc (.cells [.pointer none,.pointer none,.slice none 0 0,.slice none 0 0,.slice none 0 0,.int .i64 0,.bool false].toArray 92 (0,0))=w1 at *;refine Ok.use (aBH (hK.upd u1 fun h=>h) (h.upd u1 fun _ _ h=>h) hD0 hs hi (by omega) hz hz2 (first:=first) (count:=half) (by omega) (by omega) (by omega) (by omega) hsec) ?_
 rintro u w2 ⟨hu,u2⟩;rw[hoff,if_neg (by simp)] at hu;obtain⟨cb,hcb,rfl,hw2⟩:=hu;have b2:=b1.upd u2 fun h=>h;have s1:=u1.size;have s2:=u2.size;have l1:=b1.lt;generalize hKs:KS _ _ _ _ _=Ks;simp(maxSteps:=3000000)(disch:=omega)only[push_cast,seval,b2.cell,b2.free];have b3:=b2.set 1 (.pointer (some ⟨cb,0,none⟩));simp only[List.set_cons_succ,List.set_cons_zero] at b3;have u23:Upd (fun b=>b=w.heap.size) w2 (w2.setCell ⟨w.heap.size,1,none⟩ (.pointer (some ⟨cb,0,none⟩))):=Upd.set (F:=fun b=>b=w.heap.size) rfl;generalize w2.setCell ⟨w.heap.size,1,none⟩ (.pointer (some ⟨cb,0,none⟩))=w3 at *;have v3:Upd NoB w w3:=(u1.trans u2 fun _ _ h=>h).trans u23 fun b hb e=>by omega
 have s3:=u23.size;subst hKs;rw[aC];simp(maxSteps:=3000000)(disch:=omega)only[push_cast,seval,ef,ek];have hd3:IsDisk w3 D p d:=h.upd v3 fun _ _ h=>h;have hbd:=h.bd;refine Ok.use (VX hd3 hs (by omega) (by omega) hz2 hrd (f:=f2) (c:=k2) (by omega) (by omega) (by omega) (by
  have:k2*sz≤count*sz:=Nat.mul_le_mul_right sz (by omega);have h8:2*k2≤count+1:=by omega
  have h9:2*(k2*sz)≤(count+1)*sz:=by rw[←Nat.mul_assoc]; exact Nat.mul_le_mul_right sz h8
  rw[Nat.add_mul] at h9;omega)) ?_
 rintro u w4 ⟨hu,u4⟩;rw[hj] at hu;obtain⟨jb,rfl,hjb,hjb2,hjo⟩:=hu;have b4:=b3.upd u4 fun h=>h;generalize hKs:KS _ _ _ _ _=Ks;simp(maxSteps:=3000000)(disch:=omega)only[push_cast,seval,b4.cell,b4.free];have b5:=b4.set 0 (.pointer (some ⟨jb,0,none⟩));simp only[List.set_cons_succ,List.set_cons_zero] at b5;have u45:Upd (fun b=>b=w.heap.size) w4 (w4.setCell ⟨w.heap.size,0,none⟩ (.pointer (some ⟨jb,0,none⟩))):=Upd.set (F:=fun b=>b=w.heap.size) rfl;generalize w4.setCell ⟨w.heap.size,0,none⟩ (.pointer (some ⟨jb,0,none⟩))=w5 at *;have s4:=u4.size;have v4:=v3.trans u4 fun _ _ h=>h;have v5:Upd NoB w w5:=v4.trans u45 fun b hb e=>by omega
 have hcb2:cb<w2.heap.size:=(hw2.sep cb rfl).2;obtain⟨J,hJ⟩ : ∃J:Nat→Prop,J=fun b=>b=jb∨b=cb∨b=w.heap.size:=⟨_,rfl⟩;have hJn : ∀b,J b→w.heap.size≤b:=by rw[hJ]; intro b hb; omega
 have hL:LW w5 D J p w.heap.size jb cb ⟨d,j,openC d first (half/2),con0,false⟩:=by
  obtain⟨jv,j1,j2,j3⟩:=hjo;obtain⟨nv,c1,c2,c3⟩:=hw2.obj;have c2':=c2.1.avoid b2 fun u hu x e=>by subst e; simp at hu
  have u35:Upd (fun b=>b=w.heap.size) w3 w5:=(u4.mono (G:=fun b=>b=w.heap.size) fun _ _ h=>h.elim).trans u45 fun _ _ h=>h;have u25:Upd (fun b=>b=w.heap.size) w2 w5:=u23.trans u35 fun _ _ h=>h;have hsep : ∀b,J b→¬D b∧b<w5.heap.size:=by
   have s5:=u45.size;rw[hJ];intro b hb;exact⟨fun hd=>by have:=hbd b hd; omega,by omega⟩
  have hd5:IsDisk w5 D p d:=h.upd v5 fun _ _ h=>h;have j2':SlC w5 (FF D J) jv j.stream:=by
   refine⟨j2.1.go u45 fun b hb hh=>?_,j2.2⟩;rcases hh with hh | hh | hh
   ·exact .inl (by omega)
   ·exact .inl (by have:=hbd b hh; omega)
   ·rw[hJ] at hh;rcases hh with hh | hh | hh
    ·exact .inr hh
    ·exact .inl (by omega)
    ·exact .inl (by omega)
  have c2'':SlC w5 (FF D J) nv (openC d first (half/2)).newest:=by
   refine⟨c2'.go u25 fun b hb hh=>?_,c2.2⟩;rcases hh with hh | hh | hh
   ·exact .inr hh
   ·exact .inl (.inl hh)
   ·rw[hJ] at hh;rcases hh with hh | hh | hh
    ·omega
    ·exact .inl (.inr hh)
    ·exact .inr hh
  exact⟨⟨hd5,⟨jv,j1.upd u45 (by omega),j2',j3⟩,by rw[hJ]; exact .inl rfl,hsep⟩,
   ⟨hd5,⟨nv,c1.upd u25 (by omega),c2'',c3⟩,by rw[hJ]; exact .inr (.inl rfl),hsep,hK.upd v5 fun h=>h,hD0,by rw[hJ]; have:=hK.1; omega⟩,
   ⟨[.slice none 0 0,.slice none 0 0,.slice none 0 0,.int .i64 0],b5,⟨_,_,_,rfl,SlD.nil,⟨_,_,rfl,SlD.nil,SlD.nil,dR⟩,⟨fun x h=>by simp[con0] at h,dR,Int.le_refl 0,by show(0:Int)≤_; omega⟩⟩⟩,by rw[hJ]; exact .inr (.inr rfl),by omega⟩
 subst hKs;rw[aC];have b5c:=b5.cell;simp(maxSteps:=3000000)(disch:=omega)only[push_cast,seval,b5c];refine Ok.use (aAu hL.cw (by show(openC d first (half/2)).newest.length≤900000000; omega) hcg) ?_
 rintro u w6 ⟨lv,rfl,lf⟩;have h6:=hL.quiet lf.upd;have v6:=v5.trans lf.upd fun _ _ h=>h;have b6:=b5.upd lf.upd fun h=>h;obtain⟨lva,lvc,rfl,_⟩:=lf.own.form;dsimp only at lf ⊢;generalize hc:openC d first (half/2)=c at *
 generalize hKs:KS _ _ _ _ (retK _ _)=Ks;have hend : ∀(ρ:Env) (w7:World),ρ 9 = .pointer (some ⟨w.heap.size,0,none⟩)→ρ 11 = .bool true→LW w7 D J p w.heap.size jb cb ⟨d,j,c,n0,false⟩→Upd NoB w w7→Ks (.normal,ρ,w7):=by
  intro ρ w7 p9 p11 h7 v7;subst hKs;rw[aC];obtain⟨cs7,hb7,_⟩:=h7.box;simp(maxSteps:=3000000)(disch:=omega)only[push_cast,seval,p9,p11,hb7.cell];refine Ok.use (VS h7.jw hjs) ?_;rintro u w8 ⟨hm,u8⟩;dsimp only at hm;rw[hsp] at hm;dsimp only at hm;have h8:=h7.quiet u8;have v8:=v7.trans u8 fun _ _ h=>h;obtain⟨ra,rc,rfl,hrec⟩:=hm;simp(maxSteps:=3000000)(disch:=omega)only[push_cast,seval,p9,p11];have hlm:(rs.map encRc).length=rs.length:=List.length_map _;rw[hlm];refine aG (I:=fun k st w'=>Bx (∃t:Nat,k+t=rs.length∧st = [.bool true,.int .i64 (t:Int)]∧LW w' D J p w.heap.size jb cb ⟨d,j,c,replay n0 (rs.take t),false⟩∧Upd NoB w w'∧Upd (fun b=>b=w.heap.size) w8 w') ⟨⟩) ?_ rs.length ⟨0,rfl,rfl,h8,v8,Upd.refl⟩;rintro k st w9 ⟨t,hk,rfl,h9,v9,u89⟩;obtain⟨cs9,hb9,hn9⟩:=h9.box;obtain⟨xa,xc,sa,sc,ta,tc,rfl,_⟩:=aO hn9;simp only[List.cons_append,List.nil_append] at hb9;by_cases hk0:k=0
  ·obtain rfl:t=rs.length:=by omega
   rw[List.take_length] at h9;simp(maxSteps:=3000000)(disch:=omega)only[push_cast,seval,p9,p11];exact⟨_,_,_,J,rfl,hJn,h9,v9⟩
  have ht:t<rs.length:=by omega
  have ht':(t:Int)<(rs.length:Int):=by omega
  have hx:=List.getElem?_eq_getElem ht;generalize hre:rs[t]=r at hx;have hrm:r∈rs:=by rw[←hre]; exact List.getElem_mem ht
  obtain⟨g,o,rfl,hg1,hg2,hg3⟩:=hrec (fun e=>by have:=congrArg List.length e; rw[hlm] at this; simp at this; rw[this] at ht; simp at ht);obtain⟨u,hu1,hu2⟩:=hg3 t (encRc r) (by rw[List.getElem?_map,hx]; rfl);have hw7:w.heap.size<w7.heap.size:=h7.lt;have hcl9:w9.cell? ⟨g,o+t,none⟩=some u:=by rw[World.cell?_of_block (u89.block g hg1 fun e=>hg2 (by omega))]; exact hu1
  have hu9:SlB w9 (fun b=>b<w7.heap.size) u (encRc r):=hu2.upd u89 fun b e=>by omega
  obtain⟨ua,uc,rfl⟩:=hu9.form;have hA:=ha t ht;simp(maxSteps:=3000000)(disch:=omega)only[push_cast,seval,p9,p11,ht',hcl9,hb9.cell];refine Ok.use (aAA hn9 hu9 (hr r hrm).1 (hr r hrm).2 hA.s hA.sl hA.bl hA.cl) ?_;rintro u w10 ⟨cs10,rfl,n10,u10⟩;have h10:=h9.quiet u10;obtain⟨w11,hst,h11,_,u11⟩:=h10.store (n:=applyR (replay n0 (rs.take t)) r) (cs:=cs10) (aH.go n10 (Upd.refl (F:=NoB)) fun b _ hh=>hh.elim (fun hh=>hh.elim) fun hh=>⟨hh,h9.bd hh⟩);simp(maxSteps:=3000000)(disch:=omega)only[push_cast,seval,p9,p11,hst];have e:replay n0 (rs.take (t+1))=applyR (replay n0 (rs.take t)) r:=by
   unfold replay;rw[List.take_add_one,hx,Option.toList_some,List.foldl_append];rfl
  exact⟨k-1,by omega,t+1,by omega,rfl,by rw[e]; exact h11,(v9.trans u10 fun _ _ h=>h).trans u11 fun b hb e=>by omega,(u89.trans u10 fun _ _ h=>h.elim).trans u11 fun _ _ h=>h⟩
 rcases hcn with ⟨hg,hn⟩ | ⟨hg,hnw,hns⟩
 ·have e:cload c=([],0):=by unfold cload; rw[if_pos hg]
  rw[e] at lf;rw[e];simp(maxSteps:=3000000)(disch:=omega)only[push_cast,seval];exact hend _ _ rfl rfl (by rw[hn]; exact h6) v6
 ·have e:cload c=(c.newest,c.gen):=by unfold cload; rw[if_neg (by omega)]
  rw[e] at lf;rw[e];have hg':(0:Int)<(c.gen:Int):=by omega
  simp(maxSteps:=3000000)(disch:=omega)only[push_cast,seval,hg'];have hnl:(encCn n0).length≤1000000:=by rw[←hnw]; exact hcl
  have hly:SlB w6 NoB (.slice lva c.newest.length lvc) (encCn n0):=by
   rw[←hnw];exact lf.own.slb fun _ _ h=>h
  refine Ok.use (tJ hly hns.w hns.o hns.to hnl) ?_;rintro u w7 ⟨cs7,rfl,n7,u7⟩;have h7:=h6.quiet u7;obtain⟨w8,hst,h8,_,u8⟩:=h7.store (n:=n0) (cs:=cs7) (aH.go n7 (Upd.refl (F:=NoB)) fun b _ hh=>hh.elim (fun hh=>hh.elim) fun hh=>h6.bd hh);simp(maxSteps:=3000000)(disch:=omega)only[push_cast,seval,hst];exact hend _ _ rfl rfl h8 ((v6.trans u7 fun _ _ h=>h).trans u8 fun b hb e=>by omega)
end Go.Proofs.YtpgigkceoolgeaaGreatDoor.Fd
