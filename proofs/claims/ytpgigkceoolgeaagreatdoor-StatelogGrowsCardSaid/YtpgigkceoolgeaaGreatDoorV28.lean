import Derived.Test.YtpgigkceoolgeaaGreatDoorV27
set_option linter.all false
namespace Go.Proofs.YtpgigkceoolgeaaGreatDoor.Fd
open Go
set_option maxRecDepth 100000
abbrev DOp:=Option (Nat×List Int)
def DS.op (d:DS):DOp→DS×Int
 | none=>d.sync
 | some x=>d.write x.1 x.2
def runOps (d:DS):List DOp→DS×Int
 | []=>(d,0)
 | o :: r=>if (d.op o).2=0 then runOps (d.op o).1 r else d.op o
theorem eI {d:DS}{o:DOp}{r:List DOp}(h:(d.op o).2=0):runOps d (o :: r)=runOps (d.op o).1 r:=by rw [runOps,if_pos h]
theorem eJ {d:DS}{o:DOp}{r:List DOp}(h:(d.op o).2≠0):runOps d (o :: r)=d.op o:=by rw [runOps,if_neg h]
theorem tW {a b:List DOp} : ∀{d:DS},runOps d (a ++ b)=if (runOps d a).2=0 then runOps (runOps d a).1 b else runOps d a:=by
 induction a with
 | nil=>intro d; rfl
 | cons o r ih=>
  intro d;rw[List.cons_append];by_cases h:(d.op o).2=0
  ·rw[eI h,eI h,ih]
  ·rw[eJ h,eJ h,if_neg h]
theorem Sz.op {n s i:Nat}{d:DS}(h:Sz n s i d)(o:DOp):Sz n s (i+1) (d.op o).1:=by
 cases o with
 | none=>exact h.sync.mono (by omega)
 | some x=>exact h.write _ _
theorem Sz.ops {n s:Nat} : ∀{l:List DOp} {i:Nat} {d:DS},Sz n s i d→Sz n s (i+l.length) (runOps d l).1
 | [],i,d,h=>h
 | o :: r,i,d,h=>by
  unfold runOps;split
  ·exact(Sz.ops (l:=r) (h.op o)).mono (by simp; omega)
  ·exact(h.op o).mono (by simp)
def chunk (sz:Nat)(b:List Int)(i:Nat):List Int:=pad sz ((b.drop (sz*i)).take sz)
def nch (sz len:Nat):Nat:=(len+sz-1)/sz
def chL (sz:Nat)(b:List Int)(at_:Nat):List DOp:=(List.range (nch sz b.length)).map fun i=>some (at_+i,chunk sz b i)
def putOps (sz at_:Nat)(b:List Int):List DOp:=chL sz b at_ ++ [none]
theorem mM {sz i:Nat}{b:List Int}:(chunk sz b i).length=sz:=fU (by rw [List.length_take]; omega)
theorem dK {sz at_:Nat}{b:List Int}:(chL sz b at_).length=nch sz b.length:=by simp [chL]
theorem tX {sz at_ t:Nat}{b:List Int}(h:t<nch sz b.length):(chL sz b at_).drop t=some (at_+t,chunk sz b t) :: (chL sz b at_).drop (t+1):=by
 rw[List.drop_eq_getElem_cons (by rw[dK]; exact h)];simp[chL]
theorem gL {sz len t:Nat}(hz:0<sz):t<nch sz len↔sz*t<len:=by
 unfold nch;rw[Nat.lt_div_iff_mul_lt hz,Nat.mul_comm];omega
set_option maxHeartbeats 2000000 in
theorem mN {w:World}{D J:Nat→Prop}{p cb:Nat}{s:DS×CS}(h:CW w D J p cb s){n sz i:Nat}(hs:Sz n sz i s.1)(hi:i≤900000)(hz:0<sz)(hz2:sz≤4096){x:Nat}(hx:x≤200000)
 {y:Value} {b:List Int} (hy:SlC w (FF D J) y b) (hb:b.length≤409600000) (hb2:nch sz b.length≤100000) :
 Ok (den Tryz.prog 158 #[.pointer (some ⟨cb,0,none⟩),.int .i64 (x:Int),y] w) fun u w'=>u=errV (runOps s.1 (putOps sz x b)).2∧∃D',CW w' D' J p cb ((runOps s.1 (putOps sz x b)).1,s.2)∧JT w w' D D' cb:=by
 obtain⟨ya,yc,rfl,hyc⟩:=id hy.2;refine aB (args:=[.pointer (some ⟨cb,0,none⟩),.int .i64 (x:Int),.slice ya b.length yc]) rs158 Tryz.func158 rfl mixed (by kernel_rfl) P0 rfl ?_;simp(maxSteps:=3000000)(disch:=omega)only[push_cast,seval];refine aE (I:=fun k st w'=>Bx (∃t v d D',k+t=nch sz b.length∧st = [.int .i64 ((x+t:Nat):Int),v]∧SlC w' (FF D' J) v (b.drop (sz*t))∧CW w' D' J p cb (d,s.2)∧JT w w' D D' cb∧Sz n sz (i+t) d∧runOps s.1 (putOps sz x b)=runOps d ((chL sz b x).drop t ++ [none])) ⟨⟩) ?_ (nch sz b.length)
  ⟨0,.slice ya b.length yc,s.1,D,by omega,by simp,by simpa using hy,h,JT.refl,hs,by rw[List.drop_zero]; rfl⟩
 rintro k st w1 ⟨t,v,d,D1,hk,rfl,h1,hw1,ht1,hs1,hrun⟩;obtain⟨va,vc,rfl,hvc⟩:=id h1.2;obtain⟨sa,sc,hb1,_⟩:=hw1.at_;have hld:(b.drop (sz*t)).length=b.length-sz*t:=List.length_drop;have hsz:=hs1.size;have hd1:IsDisk w1 D1 p d:=hw1.disk;by_cases hk0:k=0
 ·obtain rfl:t=nch sz b.length:=by omega
  have hge : ¬sz*nch sz b.length<b.length:=fun hh=>absurd ((gL hz).2 hh) (by omega);have hlt : ¬(0:Int)<(b.drop (sz*nch sz b.length)).length:=by omega
  generalize b.drop (sz*nch sz b.length)=B at *;simp(maxSteps:=3000000)(disch:=omega)only[push_cast,seval,hlt,hb1.cell];refine Ok.use (pE hd1 (by have:=hs1.few; omega) hs1.cnt) ?_;rintro u w2 ⟨rfl,hd2,hu2⟩;have ht2:JT w1 w2 D1 (gr D1 w1 w2) cb:=⟨fun b hb=>hb,fun b hb=>.inl hb,hu2.mono fun b _ hb=>.inl hb⟩;have hw2:=hw1.disked hd2 ht2 hu2;have e:runOps d ((chL sz b x).drop (nch sz b.length) ++ [none])=d.sync:=by
   rw[List.drop_of_length_le (by rw[dK]; exact Nat.le_refl _),List.nil_append];by_cases hh:(d.op none).2=0
   ·rw[eI hh];show(d.sync.1,(0:Int))=d.sync;exact Prod.ext rfl hh.symm
   ·rw[eJ hh]; rfl
  rw[hrun,e];simp(maxSteps:=3000000)(disch:=omega)only[push_cast,seval];exact⟨rfl,_,hw2,ht1.trans ht2⟩
 have htn:t<nch sz b.length:=by omega
 have hlt0:=(gL hz).1 htn;have hlt:(0:Int)<(b.drop (sz*t)).length:=by omega
 rw[tX htn,List.cons_append] at hrun;have hck:chunk sz b t=pad sz ((b.drop (sz*t)).take sz):=rfl;have hd2:b.drop (sz*(t+1))=(b.drop (sz*t)).drop sz:=by rw[List.drop_drop,Nat.mul_succ]
 have hxt:x+t≤300000:=by omega
 obtain⟨X,hX⟩ : ∃X,X=x+t:=⟨_,rfl⟩;rw[←hX] at hrun hxt ⊢;generalize b.drop (sz*t)=B at *;have hB0:B[0]? =some (B[0]'(by omega)):=List.getElem?_eq_getElem _;obtain⟨g,o,c,e0,hx0⟩:=h1.at_ hB0;clear hB0 hx0;injection e0 with q1 q2 q3;subst q1 q3;clear q2;obtain⟨m,hm⟩ : ∃m,m=min B.length sz:=⟨_,rfl⟩;have htk:B.take sz=B.take m:=by
  rcases Nat.le_total B.length sz with hh | hh
  ·rw[show m=B.length by omega,List.take_of_length_le hh,List.take_of_length_le (Nat.le_refl _)]
  ·rw[show m=sz by omega]
 have hdp:B.drop sz=B.drop m:=by
  rcases Nat.le_total B.length sz with hh | hh
  ·rw[show m=B.length by omega,List.drop_of_length_le hh,List.drop_of_length_le (Nat.le_refl _)]
  ·rw[show m=sz by omega]
 rw[htk] at hck;rw[hdp] at hd2;have hml:(B.take m).length=m:=by rw[List.length_take]; omega
 have hdr:=mF h1.1 (l:=m) (by omega) hvc;have hB1:=h1.1;obtain⟨_,_,e0,hli⟩:=h1.1;injection e0 with q1 q2 q3;obtain⟨gg,oo,e1,hlies,hgF⟩:=hli (by intro e; rw[e] at hlt; simp at hlt);rw[←q1] at e1;simp only[Option.some.injEq,Addr.mk.injEq,and_true] at e1;obtain⟨rfl,rfl⟩:=e1;clear q1 q2 q3 hli;have hglt:=hlies.lt (by omega);have hnew:Blk (w1.alloc (.cells (List.replicate sz (Value.int .u8 0)).toArray 5 (0,0))) w1.heap.size (List.replicate sz (Value.int .u8 0)) 5:=Blk.new;have hal:Upd (fun _=>False) w1 (w1.alloc (.cells (List.replicate sz (Value.int .u8 0)).toArray 5 (0,0))):=Upd.alloc;have hcp:=iC (P:=Tryz.prog) (t2:=55) (ty:=3) bX bE hnew (o:=0) (dl:=sz) (dc:=sz) (b:=g) (so:=o) (sl:=B.length) (sc:=vc) (cs:=by8 (B.take m)) (by rw[aL,hml,hm]) (fun j hj=>by
  rw[aL,hml] at hj;rw[(hlies.upd hal hglt (fun h=>h)) j (by rw[aL]; omega),by8,by8,List.getElem?_map,List.getElem?_map,List.getElem?_take_of_lt hj]) (by rw[aL,hml,List.length_replicate]; omega) cU
 have e:(List.replicate sz (Value.int IntKind.u8 0)).take 0 ++ by8 (B.take m) ++ (List.replicate sz (Value.int IntKind.u8 0)).drop (0+(by8 (B.take m)).length)=by8 (chunk sz b t):=by
  rw[hck,List.take_zero,List.nil_append,List.drop_replicate,aL,Nat.zero_add,pad,bY];simp[by8]
 have hset:Blk ((w1.alloc (.cells (List.replicate sz (Value.int .u8 0)).toArray 5 (0,0))).setRow w1.heap.size (by8 (chunk sz b t)).toArray) w1.heap.size (by8 (chunk sz b t)) 5:=hnew.setRow;have huw:Upd (fun _=>False) w1 ((w1.alloc (.cells (List.replicate sz (Value.int .u8 0)).toArray 5 (0,0))).setRow w1.heap.size (by8 (chunk sz b t)).toArray):=hal.trans (Upd.setRow (F:=fun b=>b=w1.heap.size) rfl) (fun b h1 h2=>by omega);have hcl:=mM (sz:=sz) (i:=t) (b:=b);rw[e,aL,hml] at hcp;generalize chunk sz b t=ck at *;clear hck htk e;have hmB:(m:Int)≤(B.length:Int):=by omega
 have hsl : ∀w':World,slcS Tryz.prog 55 (.slice (some ⟨g,o,none⟩) B.length vc) (some (.int .i64 (m:Int))) none w'=some (.slice (some ⟨g,if vc=m then o else o+m,none⟩) (B.length-m) (vc-m),w'):=fun w'=>by
  have:=o0 (P:=Tryz.prog) (t:=55) (w:=w') (b:=g) (o:=o) (n:=B.length) (c:=vc) (k:=.i64) (l:=(m:Int)) (by omega) hmB;rw[bX] at this;simp only[orK,bE,Int.toNat_natCast,Nat.mul_one] at this;exact this
 simp(maxSteps:=3000000)(disch:=omega)only[push_cast,seval,hlt,hb1.cell];refine Ok.use (bM hd1) ?_;rintro u w2 ⟨rfl,rfl⟩;rw[hsz];generalize (w1.alloc (.cells (List.replicate sz (Value.int .u8 0)).toArray 5 (0,0))).setRow w1.heap.size (by8 ck).toArray=w2 at *;have hw2:=hw1.quiet huw;obtain⟨sa2,sc2,hb2,_⟩:=hw2.at_;simp(maxSteps:=3000000)(disch:=omega)only[push_cast,seval,hcp,hsl,hb2.cell];have hD : ¬D1 w1.heap.size:=fun hd=>by have:=hd1.bd _ hd; omega
 have hsk:SlB w2 D1 (.slice (some ⟨w1.heap.size,0,none⟩) sz sz) ck:=by
  have:=cM hset (c:=sz) hD;rw[hcl] at this;exact this
 refine Ok.use (o8 hw2.disk (by rw[show(d,s.2).1=d from rfl,hsz]; exact hz) (by have:=hs1.few; show d.cache.length<_; omega) hs1.cnt (X:Int) hsk) ?_;rintro u w3 ⟨rfl,hd3,hu3⟩;have ht3:JT w2 w3 D1 (gr D1 w2 w3) cb:=⟨fun b hb=>hb,fun b hb=>.inl hb,hu3.mono fun b _ hb=>.inl hb⟩;have hw3:=hw2.disked hd3 ht3 hu3;have hs3:=hs1.write (X:Int) ck;have hcode:=qG (d:=d) (x:=(X:Int)) (l:=ck);obtain⟨sa3,sc3,hb3,_⟩:=hw3.at_;have ht:=(ht1.trans (JT.quiet huw)).trans ht3;have hsl3:=(JT.quiet huw).slc hw1.jj hdr;have hsl4:=ht3.slc hw1.jj hsl3;have hop:d.op (some (X,ck))=d.write (X:Int) ck:=rfl;have hR:(d,s.2).1.write (X:Int) ck=d.write (X:Int) ck:=rfl;rw[hR] at hw3 ⊢;clear hR;by_cases hc0:(d.write (X:Int) ck).2=0
 ·rw[eI (by rw[hop]; exact hc0),hop] at hrun;generalize d.write (X:Int) ck=r at *;obtain⟨d',code⟩:=r;dsimp only at hc0 hw3 hb3 hs3 hrun ⊢;subst hc0;simp(maxSteps:=3000000)(disch:=omega)only[push_cast,seval,hb3.cell];refine⟨k-1,by omega,t+1,_,d',_,by omega,by rw[show(x:Int)+((t+1:Nat):Int)=(X:Int)+1 by omega],?_,hw3,ht,?_,hrun⟩
  ·rw[hd2]; exact hsl4
  ·rw[←Nat.add_assoc]; exact hs3
 ·rw[eJ (by rw[hop]; exact hc0),hop] at hrun;rw[hrun];generalize d.write (X:Int) ck=r at *;obtain⟨d',code⟩:=r;dsimp only at hc0 hw3 hb3 hs3 ⊢;simp(maxSteps:=3000000)(disch:=omega)only[push_cast,seval,hb3.cell];exact⟨rfl,_,hw3,ht⟩
open Go
set_option maxRecDepth 100000
def saveOps (sz at_:Nat)(b:List Int)(g:Nat):List DOp:=putOps sz at_ (List.replicate sz 0) ++ putOps sz (at_+1) b ++ putOps sz at_ (hdrP sz b g)
def CS.target (c:CS):Nat:=if 0<c.gen∧c.slot=0 then 1 else 0
def csave (s:DS×CS)(b:List Int):(DS×CS)×Int:=
 if s.2.down then (s,8)
 else if (s.2.n-1)*s.1.size<b.length∨s.2.gen=4611686018427387904 then (s,6)
 else if (runOps s.1 (saveOps s.1.size (s.2.first+s.2.target*s.2.n) b (s.2.gen+1))).2=0 then
  (((runOps s.1 (saveOps s.1.size (s.2.first+s.2.target*s.2.n) b (s.2.gen+1))).1,{s.2 with slot:=s.2.target,newest:=b,gen:=s.2.gen+1}),0)
 else (((runOps s.1 (saveOps s.1.size (s.2.first+s.2.target*s.2.n) b (s.2.gen+1))).1,{s.2 with down:=true}),8)
theorem CW.goDown {w:World}{D J:Nat→Prop}{p cb:Nat}{s:DS×CS}(h:CW w D J p cb s):CW (w.setCell ⟨cb,6,none⟩ (.bool true)) D J p cb (s.1,{s.2 with down:=true})∧JT w (w.setCell ⟨cb,6,none⟩ (.bool true)) D D cb:=by
 obtain⟨sv,h1,h2,h3⟩:=h.obj;have hu:Upd (fun x=>x=cb) w (w.setCell ⟨cb,6,none⟩ (.bool true)):=Upd.set rfl;exact h.set hu ⟨sv,h1.set 6 _,h2.upd hu (fun x e=>.inr (by rw[e]; exact h.jj)),h3⟩
theorem CW.saved {w:World}{D J:Nat→Prop}{p cb:Nat}{s:DS×CS}(h:CW w D J p cb s){nv:Value}{b:List Int}(hb:SlC w (FF D J) nv b)(hr:Rng b)(tg:Nat){x y:Int}(hx:x=(tg:Int))(hy:y=((s.2.gen+1:Nat):Int)) :
 CW (((w.setCell ⟨cb,3,none⟩ (.int .i64 x)).setCell ⟨cb,4,none⟩ nv).setCell ⟨cb,5,none⟩ (.int .i64 y)) D J p cb (s.1,{s.2 with slot:=tg,newest:=b,gen:=s.2.gen+1})∧JT w (((w.setCell ⟨cb,3,none⟩ (.int .i64 x)).setCell ⟨cb,4,none⟩ nv).setCell ⟨cb,5,none⟩ (.int .i64 y)) D D cb:=by
 subst hx hy;obtain⟨sv,h1,h2,h3⟩:=h.obj;have q1:Upd (fun x=>x=cb) w (w.setCell ⟨cb,3,none⟩ (.int .i64 (tg:Int))):=Upd.set rfl;have q2:=q1.setIn (a:=⟨cb,4,none⟩) (v:=nv) rfl;have q3:=q2.setIn (a:=⟨cb,5,none⟩) (v:=.int .i64 ((s.2.gen+1:Nat):Int)) rfl;exact h.set q3 ⟨nv,((h1.set 3 _).set 4 _).set 5 _,hb.upd q3 (fun x e=>.inr (by rw[e]; exact h.jj)),hr⟩
theorem gM {d:DS}{a b:List DOp}(h:(runOps d a).2=0):runOps d (a ++ b)=runOps (runOps d a).1 b:=by rw [tW,if_pos h]
theorem gN {d:DS}{a b:List DOp}(h:(runOps d a).2≠0):runOps d (a ++ b)=runOps d a:=by rw [tW,if_neg h]
theorem YR (x:Int)(a:Option Addr)(n c:Nat)(w:World):bldS Tryz.prog 203 #[(0,.int .i64 x),(1,.slice a n c)] w=some (.agg #[.int .i64 x,.slice a n c],w):=by kernel_rfl
theorem YS (x y z:Int)(a b d:Option Addr)(an bn dn ac bc dc:Nat)(w:World):bslS Tryz.prog 204 3 #[(0,.agg #[.int .i64 x,.slice a an ac]),(1,.agg #[.int .i64 y,.slice b bn bc]),(2,.agg #[.int .i64 z,.slice d dn dc])] w =
 some (.slice (some ⟨w.heap.size,0,none⟩) 3 3,w.alloc (.cells [.int .i64 x,.slice a an ac,.int .i64 y,.slice b bn bc,.int .i64 z,.slice d dn dc].toArray 203 (0,0))):=by kernel_rfl
attribute [push_cast] YR YS
set_option maxHeartbeats 2000000 in
theorem YT {w:World}{D J:Nat→Prop}{p cb:Nat}{s:DS×CS}(h:CW w D J p cb s){N sz i:Nat}(hs:Sz N sz i s.1)(hi:i≤400000)(hz:44≤sz)(hz2:sz≤4096)(h1:s.2.first≤60000)(h2:s.2.n≤60000)(h3:1≤s.2.n)(hg:s.2.gen≤4611686018427387904)
 {y:Value} {b:List Int} (hy:SlC w (FF D J) y b) (hr:Rng b) :
 Ok (den Tryz.prog 124 #[.pointer (some ⟨cb,0,none⟩),y] w) fun u w'=>u=errV (csave s b).2∧∃D',CW w' D' J p cb (csave s b).1∧JT w w' D D' cb:=by
 obtain⟨ya,yc,rfl,hyc⟩:=id hy.2;obtain⟨d,c⟩:=s;obtain⟨first,n,slot,newest,gen,down⟩:=c
 obtain⟨sa,sc,hb1,_⟩:=h.at_;have hsz:=hs.size;dsimp only at hs hsz h1 h2 h3 hg hb1;refine zU (args:=[.pointer (some ⟨cb,0,none⟩),.slice ya b.length yc]) rs124 Tryz.func124 rfl mixed (by kernel_rfl) O6 O7 rfl ?_;cases down
 ·simp(maxSteps:=3000000)(disch:=omega)only[push_cast,seval,hb1.cell];refine Ok.use (mK h h3 (by show n≤_; omega) (by show d.size≤4096; omega)) ?_;rintro v w1 ⟨rfl,hu1⟩;have hw1:=h.quiet hu1;have hb2:=hb1.upd hu1 fun h=>h;have hroomb:(n-1)*d.size≤60000*4096:=Nat.mul_le_mul (by omega) (by omega);dsimp only;obtain⟨R,hR⟩ : ∃R,R=(n-1)*d.size:=⟨_,rfl⟩;rw[←hR] at hroomb ⊢;have ht1:JT w w1 D D cb:=JT.quiet hu1;unfold csave;dsimp only;rw[←hR,hsz];simp only[Bool.false_eq_true,if_false];by_cases hroom:R<b.length
  ·have hri:(R:Int)<(b.length:Int):=by omega
   rw[if_pos (Or.inl hroom)];simp(maxSteps:=3000000)(disch:=omega)only[push_cast,seval,hb2.cell,hri];exact⟨rfl,D,hw1,ht1⟩
  have hri : ¬(R:Int)<(b.length:Int):=by omega
  have hb:b.length≤800000000:=by omega
  by_cases hgl:gen=4611686018427387904
  ·have hgi:(gen:Int)=4611686018427387904:=by omega
   rw[if_pos (Or.inr hgl)];simp(maxSteps:=3000000)(disch:=omega)only[push_cast,seval,hb2.cell,hri,hgi];exact⟨rfl,D,hw1,ht1⟩
  have hgi : ¬(gen:Int)=4611686018427387904:=by omega
  rw[if_neg (by omega)];simp(maxSteps:=3000000)(disch:=omega)only[push_cast,seval,hb2.cell,hri,hgi];have hst : ∀x,x≤1→Ok (den Tryz.prog 93 #[.pointer (some ⟨cb,0,none⟩),.int .i64 ((x:Nat):Int)] w1) fun v w'=>v = .int .i64 ((first+x*n:Nat):Int)∧Upd (fun _=>False) w1 w':=fun x hx=>mJ hw1 hx (by show first≤_; omega) (by show n≤_; omega)
  have three:gen=0∨(0<gen∧slot≠0)∨(0<gen∧slot=0):=by omega
  rcases three with hg0 | ⟨hgp0,hs0⟩ | ⟨hgp0,hs0⟩;have htg:CS.target ⟨first,n,slot,newest,gen,false⟩=0:=by unfold CS.target; dsimp only; rw[if_neg (by omega)]
  rw[htg];have hgp : ¬(0:Int)<(gen:Int):=by omega
  simp(maxSteps:=3000000)(disch:=omega)only[push_cast,seval,hb2.cell,hgp];refine Ok.use (hst 0 (by omega)) ?_;rintro v w2 ⟨rfl,hu2⟩;have hA:first+0*n≤120000:=by omega
  generalize first+0*n=A at *
  rotate_left
  have htg:CS.target ⟨first,n,slot,newest,gen,false⟩=0:=by unfold CS.target; dsimp only; rw[if_neg (by omega)]
  rw[htg];have hgp:(0:Int)<(gen:Int):=by omega
  have hsi : ¬(slot:Int)=0:=by omega
  simp(maxSteps:=3000000)(disch:=omega)only[push_cast,seval,hb2.cell,hgp,hsi];refine Ok.use (hst 0 (by omega)) ?_;rintro v w2 ⟨rfl,hu2⟩;have hA:first+0*n≤120000:=by omega
  generalize first+0*n=A at *
  rotate_left
  have htg:CS.target ⟨first,n,slot,newest,gen,false⟩=1:=by unfold CS.target; dsimp only; rw[if_pos ⟨hgp0,hs0⟩]
  rw[htg];have hgp:(0:Int)<(gen:Int):=by omega
  have hsi:(slot:Int)=0:=by omega
  simp(maxSteps:=3000000)(disch:=omega)only[push_cast,seval,hb2.cell,hgp,hsi];refine Ok.use (hst 1 (by omega)) ?_;rintro v w2 ⟨rfl,hu2⟩;have hA:first+1*n≤120000:=by omega
  generalize first+1*n=A at *
  rotate_left
  all_goals
   have hw2:=hw1.quiet hu2
   have hu02:=hu1.trans hu2 fun _ _ h=>h
   have hb3:=hb2.upd hu2 fun h=>h
   have hy2:=hy.upd hu02 fun _ h=>h.elim
   simp(maxSteps:=3000000)(disch:=omega)only[push_cast,seval,hb3.cell]
   have hu2d:Upd (fun _=>False) w w2.drew:=hu02.drew'
   have hwd:=h.quiet hu2d
   have hyd:=hy.upd hu2d fun _ h=>h.elim
   have hbd:=hb3.drew
   generalize w2.drew=w2d at *
   refine⟨fun _=>?_,fun _=>?_⟩
   refine Ok.use (bM hwd.disk) ?_
   rintro v _ ⟨rfl,rfl⟩
   dsimp only
   rw[hsz]
   have hnz:Blk (w2d.alloc (.cells (List.replicate sz (Value.int .u8 0)).toArray 5 (0,0))) w2d.heap.size (List.replicate sz (Value.int .u8 0)) 5:=Blk.new
   have hal:Upd (fun _=>False) w2d (w2d.alloc (.cells (List.replicate sz (Value.int .u8 0)).toArray 5 (0,0))):=Upd.alloc
   simp(maxSteps:=3000000)(disch:=omega)only[push_cast,seval,hb3.cell,hbd.cell]
   have hw3:=hwd.quiet hal
   have hy3:=hyd.upd hal fun _ h=>h.elim
   have hb4:=hbd.upd hal fun h=>h
   have hs3:=hal.size
   have hgi3:IntKind.i64.wrap ((gen:Int)+1)=((gen+1:Nat):Int):=by rw[IntKind.wrap_i64]; omega
   have hnzl:=hnz.lt
   generalize (w2d.alloc (.cells (List.replicate sz (Value.int .u8 0)).toArray 5 (0,0)))=w3 at *
   have hhd:=mL hw3 hy3 (by omega) (g:=gen+1) (by omega) (by show 44≤d.size; omega) (by show d.size≤_; omega)
   simp(maxSteps:=3000000)(disch:=omega)only[push_cast,seval,hb3.cell,hbd.cell,hb4.cell,hgi3]
   have hgc:((gen+1:Nat):Int)=(gen:Int)+1:=by omega
   rw[hgc] at hhd
   refine Ok.use hhd ?_
   rintro v w4 ⟨nb,rfl,hnb,hge,hu4⟩
   have hhl:(hdrP sz b (gen+1)).length=sz:=cT hz
   dsimp only at hnb ⊢
   unfold CV
   rw[hsz] at hnb ⊢
   rw[hhl]
   have hb5:=hb4.upd hu4 fun h=>h
   have hzz:=hnz.upd hu4 fun h=>h
   have hu0A:Upd (fun _=>False) w w4:=(hu2d.trans hal fun _ _ h=>h).trans hu4 fun _ _ h=>h
   have hzge:w.heap.size≤w2d.heap.size:=hu2d.size
   have hnge:w.heap.size≤nb:=by omega
   obtain⟨A1,hA1⟩ : ∃A1,A1=A+1:=⟨_,rfl⟩
   have eA1:(A:Int)+1=(A1:Int):=by omega
   simp(maxSteps:=3000000)(disch:=omega)only[push_cast,seval,hb3.cell,hbd.cell,hb4.cell,hb5.cell,hgi3,eA1]
   generalize w2d.heap.size=zb at *
   clear hhd hw3 hy3 hb4 hnzl hal hu4 hwd hyd hbd hu2d hy2 hb3 hw2 hnz
   rotate_left
   refine Ok.use (bM hwd.disk) ?_
   rintro v _ ⟨rfl,rfl⟩
   dsimp only
   rw[hsz]
   have hgi3:IntKind.i64.wrap ((gen:Int)+1)=((gen+1:Nat):Int):=by rw[IntKind.wrap_i64]; omega
   have hhd:=mL hwd hyd (by omega) (g:=gen+1) (by omega) (by show 44≤d.size; omega) (by show d.size≤_; omega)
   simp(maxSteps:=3000000)(disch:=omega)only[push_cast,seval,hb3.cell,hbd.cell,hgi3]
   have hgc:((gen+1:Nat):Int)=(gen:Int)+1:=by omega
   rw[hgc] at hhd
   refine Ok.use hhd ?_
   rintro v w3 ⟨nb,rfl,hnb0,hge,hu4⟩
   have hhl:(hdrP sz b (gen+1)).length=sz:=cT hz
   dsimp only at hnb0 ⊢
   unfold CV
   rw[hsz] at hnb0 ⊢
   rw[hhl]
   have hb4:=hbd.upd hu4 fun h=>h
   have hzz:Blk (w3.alloc (.cells (List.replicate sz (Value.int .u8 0)).toArray 5 (0,0))) w3.heap.size (List.replicate sz (Value.int .u8 0)) 5:=Blk.new
   have hal:Upd (fun _=>False) w3 (w3.alloc (.cells (List.replicate sz (Value.int .u8 0)).toArray 5 (0,0))):=Upd.alloc
   have hnb:=hnb0.upd hal fun h=>h
   have hb5:=hb4.upd hal fun h=>h
   have hu0A:Upd (fun _=>False) w (w3.alloc (.cells (List.replicate sz (Value.int .u8 0)).toArray 5 (0,0))):=(hu2d.trans hu4 fun _ _ h=>h).trans hal fun _ _ h=>h
   have hzge:w.heap.size≤w3.heap.size:=(hu2d.trans hu4 fun _ _ h=>h).size
   have hnge:w.heap.size≤nb:=by have:=hu2d.size; omega
   obtain⟨A1,hA1⟩ : ∃A1,A1=A+1:=⟨_,rfl⟩
   have eA1:(A:Int)+1=(A1:Int):=by omega
   have hnl0:=hnb0.lt
   have hsA:(w3.alloc (.cells (List.replicate sz (Value.int .u8 0)).toArray 5 (0,0))).heap.size=w3.heap.size+1:=aF
   simp(maxSteps:=3000000)(disch:=omega)only[push_cast,seval,hb3.cell,hbd.cell,hb4.cell,hgi3,eA1]
   generalize w3.heap.size=zb at *
   generalize w3.alloc (.cells (List.replicate sz (Value.int .u8 0)).toArray 5 (0,0))=w4 at *
   rw[←hsA]
   clear hsA hhd hwd hyd hb4 hal hu4 hbd hu2d hy2 hb3 hw2 hnb0
   rotate_left
   all_goals
    generalize hwA:w4=wA at *
    have hs0A:=hu0A.size
    have hstep:Blk (wA.alloc (.cells [.int .i64 (A:Int),.slice (some ⟨zb,0,none⟩) sz sz,.int .i64 (A1:Int),.slice ya b.length yc,.int .i64 (A:Int),.slice (some ⟨nb,0,none⟩) sz sz].toArray 203 (0,0))) wA.heap.size [.int .i64 (A:Int),.slice (some ⟨zb,0,none⟩) sz sz,.int .i64 (A1:Int),.slice ya b.length yc,.int .i64 (A:Int),.slice (some ⟨nb,0,none⟩) sz sz] 203:=Blk.new
    have hu1:Upd (fun _=>False) wA (wA.alloc (.cells [.int .i64 (A:Int),.slice (some ⟨zb,0,none⟩) sz sz,.int .i64 (A1:Int),.slice ya b.length yc,.int .i64 (A:Int),.slice (some ⟨nb,0,none⟩) sz sz].toArray 203 (0,0))):=Upd.alloc
    have hu05:=hu0A.trans hu1 fun _ _ h=>h
    have hw5:=h.quiet hu05
    have hy5:=hy.upd hu05 fun _ h=>h.elim
    have hz5:=hzz.upd hu1 fun h=>h
    have hn5:=hnb.upd hu1 fun h=>h
    obtain⟨sb,hsb⟩ : ∃sb,sb=wA.heap.size:=⟨_,rfl⟩
    rw[←hsb] at hstep ⊢
    generalize (wA.alloc (.cells [.int .i64 (A:Int),.slice (some ⟨zb,0,none⟩) sz sz,.int .i64 (A1:Int),.slice ya b.length yc,.int .i64 (A:Int),.slice (some ⟨nb,0,none⟩) sz sz].toArray 203 (0,0)))=w5 at *
    have hFF : ∀q,w.heap.size≤q→¬FF D J q:=fun q hq hh=>hh.elim (fun hd=>by have:=h.disk.bd q hd; omega) fun hj=>by have:=(h.sep q hj).2; omega
    have hzl:SlC w5 (FF D J) (.slice (some ⟨zb,0,none⟩) (List.replicate sz (0:Int)).length sz) (List.replicate sz 0):=⟨mI (by rw[pG]; exact hz5) (hFF zb hzge),_,_,rfl,by rw[List.length_replicate]; exact Nat.le_refl _⟩
    have hnl:SlC w5 (FF D J) (.slice (some ⟨nb,0,none⟩) (hdrP sz b (gen+1)).length sz) (hdrP sz b (gen+1)):=⟨mI hn5 (hFF nb hnge),_,_,rfl,by rw[hhl]; exact Nat.le_refl _⟩
    rw[List.length_replicate] at hzl
    rw[hhl] at hnl
    have hss : ¬FF D J sb:=hFF sb (by omega)
    clear hz5 hn5 hzz hnb hu1 hb5
    have hch : ∀x:List Int,x.length=sz→nch sz x.length=1:=fun x hx=>by
     rw[hx]; unfold nch; rw[Nat.div_eq_of_lt_le] <;> omega
    have hchb:nch sz b.length≤60000:=by
     unfold nch;have h1:b.length≤(n-1)*sz:=by rw[hR,hsz] at hroom; omega
     have h2:(b.length+sz-1)/sz≤((n-1)*sz+sz-1)/sz:=Nat.div_le_div_right (by omega);have h3:((n-1)*sz+sz-1)/sz<n-1+1:=by
      rw[Nat.div_lt_iff_lt_mul (by omega),Nat.add_mul]; omega
     omega
    obtain⟨M,hM⟩ : ∃M,M=70000:=⟨_,rfl⟩
    refine aE (I:=fun k st w'=>Bx (∃t d' D',k+t=3∧st = [.int .i64 (t:Int)]∧CW w' D' J p cb (d',⟨first,n,slot,newest,gen,false⟩)∧JT w5 w' D D' cb∧Sz N sz (i+t*M) d'∧runOps d (saveOps sz A b (gen+1))=runOps d' (([putOps sz A (List.replicate sz 0),putOps sz A1 b,putOps sz A (hdrP sz b (gen+1))].drop t).flatten)) ⟨⟩) ?_ 3
     ⟨0,d,D,by omega,rfl,hw5,JT.refl,by simpa using hs,by simp[saveOps,hA1]⟩
    rintro k st w6 ⟨t,d',D',hk,rfl,hw6,ht6,hs6,hrun⟩
    have hst6:=hstep.upd ht6.upd fun hh=>hss (hh.elim .inl fun e=>.inr (by rw[e]; exact h.jj))
    have hz6:=ht6.slc h.jj hzl
    have hn6:=ht6.slc h.jj hnl
    have hy6:=ht6.slc h.jj hy5
    obtain⟨sa6,sc6,hb6,_⟩:=hw6.at_
    have ht4:t=3∨t=0∨t=1∨t=2:=by omega
    rcases ht4 with rfl | rfl | rfl | rfl
    ·obtain rfl:k=0:=by omega
     simp(maxSteps:=3000000)(disch:=omega)only[push_cast,seval]
     refine(Fr.empty).app (hy6.1.upd (Upd.alloc (F:=fun _=>False)) fun _ h=>h.elim) (by rw[List.length_nil]; omega) ?_
     intro v7 w7 h7 _
     rw[List.nil_append] at h7
     obtain⟨va7,vc7,rfl,_⟩:=h7.own.form
     have hb7:=hb6.upd h7.upd fun h=>h
     dsimp only at hb7
     have hgi:IntKind.i64.wrap ((gen:Int)+1)=((gen+1:Nat):Int):=by rw[IntKind.wrap_i64]; omega
     replace hrun:runOps d (saveOps sz A b (gen+1))=(d',0):=hrun
     rw[hrun]
     simp(maxSteps:=3000000)(disch:=omega)only[push_cast,seval,hb7.cell,hb7.free]
     have hw7:=hw6.quiet h7.upd
     have hnv:SlC w7 (FF D' J) (.slice va7 b.length vc7) b:=h7.own.slc fun q hq hF=>by
      have:=h7.new q hq;rcases hF with hF | hF
      ·have:=hw6.disk.bd q hF; omega
      ·have:=(hw6.sep q hF).2; omega
     have sv:=fun (T:Nat)=>hw7.saved hnv hr T (x:=T) (y:=(gen:Int)+1) rfl (by show(gen:Int)+1=((gen+1:Nat):Int); omega)
     first | exact⟨rfl,D',(sv 0).1,(JT.quiet hu05).trans ((ht6.trans (JT.quiet h7.upd)).trans (sv 0).2)⟩ | exact⟨rfl,D',(sv 1).1,(JT.quiet hu05).trans ((ht6.trans (JT.quiet h7.upd)).trans (sv 1).2)⟩
    ·obtain rfl:k=3:=by omega
     simp(maxSteps:=3000000)(disch:=omega)only[push_cast,seval,hst6.cell]
     have hu67:Upd (fun _=>False) w6 (((w6.alloc (.cells [.int .i64 0,.slice none 0 0].toArray 203 (0,0))).setCell ⟨w6.heap.size,0,none⟩ (.int .i64 (A:Int))).setCell ⟨w6.heap.size,1,none⟩ (.slice (some ⟨zb,0,none⟩) sz sz)):=
      Upd.alloc.trans ((Upd.set (F:=fun x=>x=w6.heap.size) rfl).setIn rfl) fun x hx e=>by omega
     generalize (((w6.alloc (.cells [.int .i64 0,.slice none 0 0].toArray 203 (0,0))).setCell ⟨w6.heap.size,0,none⟩ (.int .i64 (A:Int))).setCell ⟨w6.heap.size,1,none⟩ (.slice (some ⟨zb,0,none⟩) sz sz))=w7 at *
     have hw7:=hw6.quiet hu67
     have hyy:=(JT.quiet (D:=D') (jb:=cb) hu67).slc h.jj (by rw[List.length_replicate]; exact hz6:SlC w6 (FF D' J) (.slice (some ⟨zb,0,none⟩) (List.replicate sz (0:Int)).length sz) (List.replicate sz 0))
     have ht7:=ht6.trans (JT.quiet (D:=D') (jb:=cb) hu67)
     have hput:=mN hw7 hs6 (by omega) (by omega) hz2 (x:=A) (by omega) hyy (by rw[List.length_replicate]; omega) (by rw[hch _ (by simp)]; omega)
     rw[List.length_replicate] at hput
     refine Ok.use hput ?_
     rintro v w8 ⟨rfl,D8,hw8,ht8⟩
     have hs8:=Sz.ops (l:=putOps sz A (List.replicate sz 0)) hs6
     have hlen8:(putOps sz A (List.replicate sz 0)).length≤60001:=by rw[putOps,List.length_append,dK,List.length_singleton]; rw[hch _ (by simp)]; omega
     have ht78:=ht7.trans ht8
     replace hrun:runOps d (saveOps sz A b (gen+1))=runOps d' (putOps sz A (List.replicate sz 0) ++ (([putOps sz A (List.replicate sz 0),putOps sz A1 b,putOps sz A (hdrP sz b (gen+1))].drop 1).flatten)):=hrun
     by_cases hc0:(runOps d' (putOps sz A (List.replicate sz 0))).2=0
     ·rw[gM hc0] at hrun
      generalize runOps d' (putOps sz A (List.replicate sz 0))=r at *
      obtain⟨d8,code⟩:=r
      dsimp only at hc0 hw8 hs8 hrun ⊢
      subst hc0
      unfold errV
      simp(maxSteps:=3000000)(disch:=omega)only[push_cast,seval]
      exact⟨2,by omega,1,d8,D8,by omega,rfl,hw8,ht78,hs8.mono (by omega),hrun⟩
     ·rw[gN hc0] at hrun
      rw[hrun]
      generalize runOps d' (putOps sz A (List.replicate sz 0))=r at *
      obtain⟨d8,code⟩:=r
      dsimp only at hc0 hw8 hs8 ⊢
      rw[if_neg hc0]
      obtain⟨hw9,ht9⟩:=hw8.goDown
      obtain⟨sa8,sc8,hb8,_⟩:=hw8.at_
      dsimp only at hb8
      unfold errV
      simp(maxSteps:=3000000)(disch:=omega)only[push_cast,seval,hb8.cell,hb8.free]
      exact⟨D8,hw9,(JT.quiet hu05).trans (ht78.trans ht9)⟩
    ·obtain rfl:k=2:=by omega
     simp(maxSteps:=3000000)(disch:=omega)only[push_cast,seval,hst6.cell]
     have hu67:Upd (fun _=>False) w6 (((w6.alloc (.cells [.int .i64 0,.slice none 0 0].toArray 203 (0,0))).setCell ⟨w6.heap.size,0,none⟩ (.int .i64 (A1:Int))).setCell ⟨w6.heap.size,1,none⟩ (.slice ya b.length yc)):=
      Upd.alloc.trans ((Upd.set (F:=fun x=>x=w6.heap.size) rfl).setIn rfl) fun x hx e=>by omega
     generalize (((w6.alloc (.cells [.int .i64 0,.slice none 0 0].toArray 203 (0,0))).setCell ⟨w6.heap.size,0,none⟩ (.int .i64 (A1:Int))).setCell ⟨w6.heap.size,1,none⟩ (.slice ya b.length yc))=w7 at *
     have hw7:=hw6.quiet hu67
     have hyy:=(JT.quiet (D:=D') (jb:=cb) hu67).slc h.jj hy6
     have ht7:=ht6.trans (JT.quiet (D:=D') (jb:=cb) hu67)
     have hput:=mN hw7 hs6 (by omega) (by omega) hz2 (x:=A1) (by omega) hyy (by omega) (by omega)
     refine Ok.use hput ?_
     rintro v w8 ⟨rfl,D8,hw8,ht8⟩
     have hs8:=Sz.ops (l:=putOps sz A1 (b)) hs6
     have hlen8:(putOps sz A1 (b)).length≤60001:=by rw[putOps,List.length_append,dK,List.length_singleton]; omega
     have ht78:=ht7.trans ht8
     replace hrun:runOps d (saveOps sz A b (gen+1))=runOps d' (putOps sz A1 b ++ (([putOps sz A (List.replicate sz 0),putOps sz A1 b,putOps sz A (hdrP sz b (gen+1))].drop 2).flatten)):=hrun
     by_cases hc0:(runOps d' (putOps sz A1 (b))).2=0
     ·rw[gM hc0] at hrun
      generalize runOps d' (putOps sz A1 (b))=r at *
      obtain⟨d8,code⟩:=r
      dsimp only at hc0 hw8 hs8 hrun ⊢
      subst hc0
      unfold errV
      simp(maxSteps:=3000000)(disch:=omega)only[push_cast,seval]
      exact⟨1,by omega,2,d8,D8,by omega,rfl,hw8,ht78,hs8.mono (by omega),hrun⟩
     ·rw[gN hc0] at hrun
      rw[hrun]
      generalize runOps d' (putOps sz A1 (b))=r at *
      obtain⟨d8,code⟩:=r
      dsimp only at hc0 hw8 hs8 ⊢
      rw[if_neg hc0]
      obtain⟨hw9,ht9⟩:=hw8.goDown
      obtain⟨sa8,sc8,hb8,_⟩:=hw8.at_
      dsimp only at hb8
      unfold errV
      simp(maxSteps:=3000000)(disch:=omega)only[push_cast,seval,hb8.cell,hb8.free]
      exact⟨D8,hw9,(JT.quiet hu05).trans (ht78.trans ht9)⟩
    ·obtain rfl:k=1:=by omega
     simp(maxSteps:=3000000)(disch:=omega)only[push_cast,seval,hst6.cell]
     have hu67:Upd (fun _=>False) w6 (((w6.alloc (.cells [.int .i64 0,.slice none 0 0].toArray 203 (0,0))).setCell ⟨w6.heap.size,0,none⟩ (.int .i64 (A:Int))).setCell ⟨w6.heap.size,1,none⟩ (.slice (some ⟨nb,0,none⟩) sz sz)):=
      Upd.alloc.trans ((Upd.set (F:=fun x=>x=w6.heap.size) rfl).setIn rfl) fun x hx e=>by omega
     generalize (((w6.alloc (.cells [.int .i64 0,.slice none 0 0].toArray 203 (0,0))).setCell ⟨w6.heap.size,0,none⟩ (.int .i64 (A:Int))).setCell ⟨w6.heap.size,1,none⟩ (.slice (some ⟨nb,0,none⟩) sz sz))=w7 at *
     have hw7:=hw6.quiet hu67
     have hyy:=(JT.quiet (D:=D') (jb:=cb) hu67).slc h.jj (by rw[hhl]; exact hn6:SlC w6 (FF D' J) (.slice (some ⟨nb,0,none⟩) (hdrP sz b (gen+1)).length sz) (hdrP sz b (gen+1)))
     have ht7:=ht6.trans (JT.quiet (D:=D') (jb:=cb) hu67)
     have hput:=mN hw7 hs6 (by omega) (by omega) hz2 (x:=A) (by omega) hyy (by rw[hhl]; omega) (by rw[hch _ hhl]; omega)
     rw[hhl] at hput
     refine Ok.use hput ?_
     rintro v w8 ⟨rfl,D8,hw8,ht8⟩
     have hs8:=Sz.ops (l:=putOps sz A (hdrP sz b (gen+1))) hs6
     have hlen8:(putOps sz A (hdrP sz b (gen+1))).length≤60001:=by rw[putOps,List.length_append,dK,List.length_singleton]; rw[hch _ hhl]; omega
     have ht78:=ht7.trans ht8
     replace hrun:runOps d (saveOps sz A b (gen+1))=runOps d' (putOps sz A (hdrP sz b (gen+1)) ++ (([putOps sz A (List.replicate sz 0),putOps sz A1 b,putOps sz A (hdrP sz b (gen+1))].drop 3).flatten)):=hrun
     by_cases hc0:(runOps d' (putOps sz A (hdrP sz b (gen+1)))).2=0
     ·rw[gM hc0] at hrun
      generalize runOps d' (putOps sz A (hdrP sz b (gen+1)))=r at *
      obtain⟨d8,code⟩:=r
      dsimp only at hc0 hw8 hs8 hrun ⊢
      subst hc0
      unfold errV
      simp(maxSteps:=3000000)(disch:=omega)only[push_cast,seval]
      exact⟨0,by omega,3,d8,D8,by omega,rfl,hw8,ht78,hs8.mono (by omega),hrun⟩
     ·rw[gN hc0] at hrun
      rw[hrun]
      generalize runOps d' (putOps sz A (hdrP sz b (gen+1)))=r at *
      obtain⟨d8,code⟩:=r
      dsimp only at hc0 hw8 hs8 ⊢
      rw[if_neg hc0]
      obtain⟨hw9,ht9⟩:=hw8.goDown
      obtain⟨sa8,sc8,hb8,_⟩:=hw8.at_
      dsimp only at hb8
      unfold errV
      simp(maxSteps:=3000000)(disch:=omega)only[push_cast,seval,hb8.cell,hb8.free]
      exact⟨D8,hw9,(JT.quiet hu05).trans (ht78.trans ht9)⟩
 ·simp(maxSteps:=3000000)(disch:=omega)only[push_cast,seval,hb1.cell];exact⟨rfl,D,h,JT.refl⟩
end Go.Proofs.YtpgigkceoolgeaaGreatDoor.Fd
