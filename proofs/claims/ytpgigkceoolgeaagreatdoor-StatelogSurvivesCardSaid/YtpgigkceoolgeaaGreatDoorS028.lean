import Derived.Test.YtpgigkceoolgeaaGreatDoorS027
set_option linter.all false
namespace Go.Proofs.YtpgigkceoolgeaaGreatDoor.Fd
open Go
set_option maxRecDepth 100000
def saveOps (sz at_:Nat)(b:List Int)(g:Nat):List DOp:=putOps sz at_ (List.replicate sz 0) ++ putOps sz (at_+1) b ++ putOps sz at_ (hdrP sz b g)
def CS.target (c:CS):Nat:=if 0<c.gen∧c.slot=0 then 1 else 0
def csave (s:DS×CS)(b:List Int):(DS×CS)×Int:=
 if s.2.down then (s,8)
 else if (s.2.n-1)*s.1.size<b.length∨s.2.gen=4611686018427387904 then (s,6)
 else if (runOps s.1 (saveOps s.1.size (s.2.first+s.2.target*s.2.n) b (s.2.gen+1))).2=0 then
  (((runOps s.1 (saveOps s.1.size (s.2.first+s.2.target*s.2.n) b (s.2.gen+1))).1,{s.2 with slot:=s.2.target,newest:=b,gen:=s.2.gen+1}),0)
 else (((runOps s.1 (saveOps s.1.size (s.2.first+s.2.target*s.2.n) b (s.2.gen+1))).1,{s.2 with down:=true}),8)
theorem CW.goDown {w:World}{D J:Nat→Prop}{p cb:Nat}{s:DS×CS}(h:CW w D J p cb s):CW (w.setCell ⟨cb,6,none⟩ (.bool true)) D J p cb (s.1,{s.2 with down:=true})∧JT w (w.setCell ⟨cb,6,none⟩ (.bool true)) D D cb:=by
 obtain⟨sv,h1,h2,h3⟩:=h.obj;have hu:Upd (fun x=>x=cb) w (w.setCell ⟨cb,6,none⟩ (.bool true)):=Upd.set rfl;exact h.set hu ⟨sv,h1.set 6 _,h2.upd hu (fun x e=>.inr (by rw[e]; exact h.jj)),h3⟩
theorem CW.saved {w:World}{D J:Nat→Prop}{p cb:Nat}{s:DS×CS}(h:CW w D J p cb s){nv:Value}{b:List Int}(hb:SlC w (FF D J) nv b)(hr:Rng b)(tg:Nat){x y:Int}(hx:x=(tg:Int))(hy:y=((s.2.gen+1:Nat):Int)) :
 CW (((w.setCell ⟨cb,3,none⟩ (.int .i64 x)).setCell ⟨cb,4,none⟩ nv).setCell ⟨cb,5,none⟩ (.int .i64 y)) D J p cb (s.1,{s.2 with slot:=tg,newest:=b,gen:=s.2.gen+1})∧JT w (((w.setCell ⟨cb,3,none⟩ (.int .i64 x)).setCell ⟨cb,4,none⟩ nv).setCell ⟨cb,5,none⟩ (.int .i64 y)) D D cb:=by
 subst hx hy;obtain⟨sv,h1,h2,h3⟩:=h.obj;have q1:Upd (fun x=>x=cb) w (w.setCell ⟨cb,3,none⟩ (.int .i64 (tg:Int))):=Upd.set rfl;have q2:=q1.setIn (a:=⟨cb,4,none⟩) (v:=nv) rfl;have q3:=q2.setIn (a:=⟨cb,5,none⟩) (v:=.int .i64 ((s.2.gen+1:Nat):Int)) rfl;exact h.set q3 ⟨nv,((h1.set 3 _).set 4 _).set 5 _,hb.upd q3 (fun x e=>.inr (by rw[e]; exact h.jj)),hr⟩
theorem gY {d:DS}{a b:List DOp}(h:(runOps d a).2=0):runOps d (a ++ b)=runOps (runOps d a).1 b:=by rw [vE,if_pos h]
theorem gZ {d:DS}{a b:List DOp}(h:(runOps d a).2≠0):runOps d (a ++ b)=runOps d a:=by rw [vE,if_neg h]
theorem aAr (x:Int)(a:Option Addr)(n c:Nat)(w:World):bldS Tryz.prog 203 #[(0,.int .i64 x),(1,.slice a n c)] w=some (.agg #[.int .i64 x,.slice a n c],w):=by kernel_rfl
theorem aAs (x y z:Int)(a b d:Option Addr)(an bn dn ac bc dc:Nat)(w:World):bslS Tryz.prog 204 3 #[(0,.agg #[.int .i64 x,.slice a an ac]),(1,.agg #[.int .i64 y,.slice b bn bc]),(2,.agg #[.int .i64 z,.slice d dn dc])] w =
 some (.slice (some ⟨w.heap.size,0,none⟩) 3 3,w.alloc (.cells [.int .i64 x,.slice a an ac,.int .i64 y,.slice b bn bc,.int .i64 z,.slice d dn dc].toArray 203 (0,0))):=by kernel_rfl
attribute [push_cast] aAr aAs
set_option maxHeartbeats 2000000 in
theorem aAt {w:World}{D J:Nat→Prop}{p cb:Nat}{s:DS×CS}(h:CW w D J p cb s){N sz i:Nat}(hs:Sz N sz i s.1)(hi:i≤400000)(hz:44≤sz)(hz2:sz≤4096)(h1:s.2.first≤60000)(h2:s.2.n≤60000)(h3:1≤s.2.n)(hg:s.2.gen≤4611686018427387904)
 {y:Value} {b:List Int} (hy:SlC w (FF D J) y b) (hr:Rng b) :
 Ok (den Tryz.prog 124 #[.pointer (some ⟨cb,0,none⟩),y] w) fun u w'=>u=errV (csave s b).2∧∃D',CW w' D' J p cb (csave s b).1∧JT w w' D D' cb:=by
 obtain⟨ya,yc,rfl,hyc⟩:=id hy.2;obtain⟨d,c⟩:=s;obtain⟨first,n,slot,newest,gen,down⟩:=c
 obtain⟨sa,sc,hb1,_⟩:=h.at_;have hsz:=hs.size;dsimp only at hs hsz h1 h2 h3 hg hb1;refine BF (args:=[.pointer (some ⟨cb,0,none⟩),.slice ya b.length yc]) rs124 Tryz.func124 rfl mixed (by kernel_rfl) R3 R4 rfl ?_;cases down
 ·simp(maxSteps:=3000000)(disch:=omega)only[push_cast,seval,hb1.cell];refine Ok.use (nG h h3 (by show n≤_; omega) (by show d.size≤4096; omega)) ?_;rintro v w1 ⟨rfl,hu1⟩;have hw1:=h.quiet hu1;have hb2:=hb1.upd hu1 fun h=>h;have hroomb:(n-1)*d.size≤60000*4096:=Nat.mul_le_mul (by omega) (by omega);dsimp only;obtain⟨R,hR⟩ : ∃R,R=(n-1)*d.size:=⟨_,rfl⟩;rw[←hR] at hroomb ⊢;have ht1:JT w w1 D D cb:=JT.quiet hu1;unfold csave;dsimp only;rw[←hR,hsz];simp only[Bool.false_eq_true,if_false];by_cases hroom:R<b.length
  ·have hri:(R:Int)<(b.length:Int):=by omega
   rw[if_pos (Or.inl hroom)];simp(maxSteps:=3000000)(disch:=omega)only[push_cast,seval,hb2.cell,hri];exact⟨rfl,D,hw1,ht1⟩
  have hri : ¬(R:Int)<(b.length:Int):=by omega
  have hb:b.length≤800000000:=by omega
  by_cases hgl:gen=4611686018427387904
  ·have hgi:(gen:Int)=4611686018427387904:=by omega
   rw[if_pos (Or.inr hgl)];simp(maxSteps:=3000000)(disch:=omega)only[push_cast,seval,hb2.cell,hri,hgi];exact⟨rfl,D,hw1,ht1⟩
  have hgi : ¬(gen:Int)=4611686018427387904:=by omega
  rw[if_neg (by omega)];simp(maxSteps:=3000000)(disch:=omega)only[push_cast,seval,hb2.cell,hri,hgi];have hst : ∀x,x≤1→Ok (den Tryz.prog 93 #[.pointer (some ⟨cb,0,none⟩),.int .i64 ((x:Nat):Int)] w1) fun v w'=>v = .int .i64 ((first+x*n:Nat):Int)∧Upd (fun _=>False) w1 w':=fun x hx=>nE hw1 hx (by show first≤_; omega) (by show n≤_; omega)
  have three:gen=0∨(0<gen∧slot≠0)∨(0<gen∧slot=0):=by omega
  rcases three with hg0 | ⟨hgp0,hs0⟩ | ⟨hgp0,hs0⟩;have htg:CS.target ⟨first,n,slot,newest,gen,false⟩=0:=by unfold CS.target; dsimp only; rw[if_neg (by omega)]
  rw[htg];have hgp : ¬(0:Int)<(gen:Int):=by omega
  simp(maxSteps:=3000000)(disch:=omega)only[push_cast,seval,hb2.cell,hgp];refine Ok.use (hst 0 (by omega)) ?_;rintro v w2 ⟨rfl,hu2⟩;have hA:first+0*n≤120000:=by omega
  generalize first+0*n=A at *
  rotate_left
  have htg:CS.target ⟨first,n,slot,newest,gen,false⟩=0:=by unfold CS.target; dsimp only; rw[if_neg (by omega)]
  rw[htg];have hgp:(0:Int)<(gen:Int):=by omega
  have hsi : ¬(slot:Int)=0:=by omega
  simp(maxSteps:=3000000)(disch:=omega)only[push_cast,seval,hb2.cell,hgp,hsi];refine Ok.use (hst 0 (by omega)) ?_;rintro v w2 ⟨rfl,hu2⟩;have hA:first+0*n≤120000:=by omega
  generalize first+0*n=A at *
  rotate_left
  have htg:CS.target ⟨first,n,slot,newest,gen,false⟩=1:=by unfold CS.target; dsimp only; rw[if_pos ⟨hgp0,hs0⟩]
  rw[htg];have hgp:(0:Int)<(gen:Int):=by omega
  have hsi:(slot:Int)=0:=by omega
  simp(maxSteps:=3000000)(disch:=omega)only[push_cast,seval,hb2.cell,hgp,hsi];refine Ok.use (hst 1 (by omega)) ?_;rintro v w2 ⟨rfl,hu2⟩;have hA:first+1*n≤120000:=by omega
  generalize first+1*n=A at *
  rotate_left
  all_goals
   have hw2:=hw1.quiet hu2
   have hu02:=hu1.trans hu2 fun _ _ h=>h
   have hb3:=hb2.upd hu2 fun h=>h
   have hy2:=hy.upd hu02 fun _ h=>h.elim
   simp(maxSteps:=3000000)(disch:=omega)only[push_cast,seval,hb3.cell]
   have hu2d:Upd (fun _=>False) w w2.drew:=hu02.drew'
   have hwd:=h.quiet hu2d
   have hyd:=hy.upd hu2d fun _ h=>h.elim
   have hbd:=hb3.drew
   generalize w2.drew=w2d at *
   refine⟨fun _=>?_,fun _=>?_⟩
   refine Ok.use (bP hwd.disk) ?_
   rintro v _ ⟨rfl,rfl⟩
   dsimp only
   rw[hsz]
   have hnz:Blk (w2d.alloc (.cells (List.replicate sz (Value.int .u8 0)).toArray 5 (0,0))) w2d.heap.size (List.replicate sz (Value.int .u8 0)) 5:=Blk.new
   have hal:Upd (fun _=>False) w2d (w2d.alloc (.cells (List.replicate sz (Value.int .u8 0)).toArray 5 (0,0))):=Upd.alloc
   simp(maxSteps:=3000000)(disch:=omega)only[push_cast,seval,hb3.cell,hbd.cell]
   have hw3:=hwd.quiet hal
   have hy3:=hyd.upd hal fun _ h=>h.elim
   have hb4:=hbd.upd hal fun h=>h
   have hs3:=hal.size
   have hgi3:IntKind.i64.wrap ((gen:Int)+1)=((gen+1:Nat):Int):=by rw[IntKind.wrap_i64]; omega
   have hnzl:=hnz.lt
   generalize (w2d.alloc (.cells (List.replicate sz (Value.int .u8 0)).toArray 5 (0,0)))=w3 at *
   have hhd:=nH hw3 hy3 (by omega) (g:=gen+1) (by omega) (by show 44≤d.size; omega) (by show d.size≤_; omega)
   simp(maxSteps:=3000000)(disch:=omega)only[push_cast,seval,hb3.cell,hbd.cell,hb4.cell,hgi3]
   have hgc:((gen+1:Nat):Int)=(gen:Int)+1:=by omega
   rw[hgc] at hhd
   refine Ok.use hhd ?_
   rintro v w4 ⟨nb,rfl,hnb,hge,hu4⟩
   have hhl:(hdrP sz b (gen+1)).length=sz:=dC hz
   dsimp only at hnb ⊢
   unfold CV
   rw[hsz] at hnb ⊢
   rw[hhl]
   have hb5:=hb4.upd hu4 fun h=>h
   have hzz:=hnz.upd hu4 fun h=>h
   have hu0A:Upd (fun _=>False) w w4:=(hu2d.trans hal fun _ _ h=>h).trans hu4 fun _ _ h=>h
   have hzge:w.heap.size≤w2d.heap.size:=hu2d.size
   have hnge:w.heap.size≤nb:=by omega
   obtain⟨A1,hA1⟩ : ∃A1,A1=A+1:=⟨_,rfl⟩
   have eA1:(A:Int)+1=(A1:Int):=by omega
   simp(maxSteps:=3000000)(disch:=omega)only[push_cast,seval,hb3.cell,hbd.cell,hb4.cell,hb5.cell,hgi3,eA1]
   generalize w2d.heap.size=zb at *
   clear hhd hw3 hy3 hb4 hnzl hal hu4 hwd hyd hbd hu2d hy2 hb3 hw2 hnz
   rotate_left
   refine Ok.use (bP hwd.disk) ?_
   rintro v _ ⟨rfl,rfl⟩
   dsimp only
   rw[hsz]
   have hgi3:IntKind.i64.wrap ((gen:Int)+1)=((gen+1:Nat):Int):=by rw[IntKind.wrap_i64]; omega
   have hhd:=nH hwd hyd (by omega) (g:=gen+1) (by omega) (by show 44≤d.size; omega) (by show d.size≤_; omega)
   simp(maxSteps:=3000000)(disch:=omega)only[push_cast,seval,hb3.cell,hbd.cell,hgi3]
   have hgc:((gen+1:Nat):Int)=(gen:Int)+1:=by omega
   rw[hgc] at hhd
   refine Ok.use hhd ?_
   rintro v w3 ⟨nb,rfl,hnb0,hge,hu4⟩
   have hhl:(hdrP sz b (gen+1)).length=sz:=dC hz
   dsimp only at hnb0 ⊢
   unfold CV
   rw[hsz] at hnb0 ⊢
   rw[hhl]
   have hb4:=hbd.upd hu4 fun h=>h
   have hzz:Blk (w3.alloc (.cells (List.replicate sz (Value.int .u8 0)).toArray 5 (0,0))) w3.heap.size (List.replicate sz (Value.int .u8 0)) 5:=Blk.new
   have hal:Upd (fun _=>False) w3 (w3.alloc (.cells (List.replicate sz (Value.int .u8 0)).toArray 5 (0,0))):=Upd.alloc
   have hnb:=hnb0.upd hal fun h=>h
   have hb5:=hb4.upd hal fun h=>h
   have hu0A:Upd (fun _=>False) w (w3.alloc (.cells (List.replicate sz (Value.int .u8 0)).toArray 5 (0,0))):=(hu2d.trans hu4 fun _ _ h=>h).trans hal fun _ _ h=>h
   have hzge:w.heap.size≤w3.heap.size:=(hu2d.trans hu4 fun _ _ h=>h).size
   have hnge:w.heap.size≤nb:=by have:=hu2d.size; omega
   obtain⟨A1,hA1⟩ : ∃A1,A1=A+1:=⟨_,rfl⟩
   have eA1:(A:Int)+1=(A1:Int):=by omega
   have hnl0:=hnb0.lt
   have hsA:(w3.alloc (.cells (List.replicate sz (Value.int .u8 0)).toArray 5 (0,0))).heap.size=w3.heap.size+1:=aI
   simp(maxSteps:=3000000)(disch:=omega)only[push_cast,seval,hb3.cell,hbd.cell,hb4.cell,hgi3,eA1]
   generalize w3.heap.size=zb at *
   generalize w3.alloc (.cells (List.replicate sz (Value.int .u8 0)).toArray 5 (0,0))=w4 at *
   rw[←hsA]
   clear hsA hhd hwd hyd hb4 hal hu4 hbd hu2d hy2 hb3 hw2 hnb0
   rotate_left
   all_goals
    generalize hwA:w4=wA at *
    have hs0A:=hu0A.size
    have hstep:Blk (wA.alloc (.cells [.int .i64 (A:Int),.slice (some ⟨zb,0,none⟩) sz sz,.int .i64 (A1:Int),.slice ya b.length yc,.int .i64 (A:Int),.slice (some ⟨nb,0,none⟩) sz sz].toArray 203 (0,0))) wA.heap.size [.int .i64 (A:Int),.slice (some ⟨zb,0,none⟩) sz sz,.int .i64 (A1:Int),.slice ya b.length yc,.int .i64 (A:Int),.slice (some ⟨nb,0,none⟩) sz sz] 203:=Blk.new
    have hu1:Upd (fun _=>False) wA (wA.alloc (.cells [.int .i64 (A:Int),.slice (some ⟨zb,0,none⟩) sz sz,.int .i64 (A1:Int),.slice ya b.length yc,.int .i64 (A:Int),.slice (some ⟨nb,0,none⟩) sz sz].toArray 203 (0,0))):=Upd.alloc
    have hu05:=hu0A.trans hu1 fun _ _ h=>h
    have hw5:=h.quiet hu05
    have hy5:=hy.upd hu05 fun _ h=>h.elim
    have hz5:=hzz.upd hu1 fun h=>h
    have hn5:=hnb.upd hu1 fun h=>h
    obtain⟨sb,hsb⟩ : ∃sb,sb=wA.heap.size:=⟨_,rfl⟩
    rw[←hsb] at hstep ⊢
    generalize (wA.alloc (.cells [.int .i64 (A:Int),.slice (some ⟨zb,0,none⟩) sz sz,.int .i64 (A1:Int),.slice ya b.length yc,.int .i64 (A:Int),.slice (some ⟨nb,0,none⟩) sz sz].toArray 203 (0,0)))=w5 at *
    have hFF : ∀q,w.heap.size≤q→¬FF D J q:=fun q hq hh=>hh.elim (fun hd=>by have:=h.disk.bd q hd; omega) fun hj=>by have:=(h.sep q hj).2; omega
    have hzl:SlC w5 (FF D J) (.slice (some ⟨zb,0,none⟩) (List.replicate sz (0:Int)).length sz) (List.replicate sz 0):=⟨nD (by rw[qO]; exact hz5) (hFF zb hzge),_,_,rfl,by rw[List.length_replicate]; exact Nat.le_refl _⟩
    have hnl:SlC w5 (FF D J) (.slice (some ⟨nb,0,none⟩) (hdrP sz b (gen+1)).length sz) (hdrP sz b (gen+1)):=⟨nD hn5 (hFF nb hnge),_,_,rfl,by rw[hhl]; exact Nat.le_refl _⟩
    rw[List.length_replicate] at hzl
    rw[hhl] at hnl
    have hss : ¬FF D J sb:=hFF sb (by omega)
    clear hz5 hn5 hzz hnb hu1 hb5
    have hch : ∀x:List Int,x.length=sz→nch sz x.length=1:=fun x hx=>by
     rw[hx]; unfold nch; rw[Nat.div_eq_of_lt_le] <;> omega
    have hchb:nch sz b.length≤60000:=by
     unfold nch;have h1:b.length≤(n-1)*sz:=by rw[hR,hsz] at hroom; omega
     have h2:(b.length+sz-1)/sz≤((n-1)*sz+sz-1)/sz:=Nat.div_le_div_right (by omega);have h3:((n-1)*sz+sz-1)/sz<n-1+1:=by
      rw[Nat.div_lt_iff_lt_mul (by omega),Nat.add_mul]; omega
     omega
    obtain⟨M,hM⟩ : ∃M,M=70000:=⟨_,rfl⟩
    refine aG (I:=fun k st w'=>Bx (∃t d' D',k+t=3∧st = [.int .i64 (t:Int)]∧CW w' D' J p cb (d',⟨first,n,slot,newest,gen,false⟩)∧JT w5 w' D D' cb∧Sz N sz (i+t*M) d'∧runOps d (saveOps sz A b (gen+1))=runOps d' (([putOps sz A (List.replicate sz 0),putOps sz A1 b,putOps sz A (hdrP sz b (gen+1))].drop t).flatten)) ⟨⟩) ?_ 3
     ⟨0,d,D,by omega,rfl,hw5,JT.refl,by simpa using hs,by simp[saveOps,hA1]⟩
    rintro k st w6 ⟨t,d',D',hk,rfl,hw6,ht6,hs6,hrun⟩
    have hst6:=hstep.upd ht6.upd fun hh=>hss (hh.elim .inl fun e=>.inr (by rw[e]; exact h.jj))
    have hz6:=ht6.slc h.jj hzl
    have hn6:=ht6.slc h.jj hnl
    have hy6:=ht6.slc h.jj hy5
    obtain⟨sa6,sc6,hb6,_⟩:=hw6.at_
    have ht4:t=3∨t=0∨t=1∨t=2:=by omega
    rcases ht4 with rfl | rfl | rfl | rfl
    ·obtain rfl:k=0:=by omega
     simp(maxSteps:=3000000)(disch:=omega)only[push_cast,seval]
     refine(Fr.empty).app (hy6.1.upd (Upd.alloc (F:=fun _=>False)) fun _ h=>h.elim) (by rw[List.length_nil]; omega) ?_
     intro v7 w7 h7 _
     rw[List.nil_append] at h7
     obtain⟨va7,vc7,rfl,_⟩:=h7.own.form
     have hb7:=hb6.upd h7.upd fun h=>h
     dsimp only at hb7
     have hgi:IntKind.i64.wrap ((gen:Int)+1)=((gen+1:Nat):Int):=by rw[IntKind.wrap_i64]; omega
     replace hrun:runOps d (saveOps sz A b (gen+1))=(d',0):=hrun
     rw[hrun]
     simp(maxSteps:=3000000)(disch:=omega)only[push_cast,seval,hb7.cell,hb7.free]
     have hw7:=hw6.quiet h7.upd
     have hnv:SlC w7 (FF D' J) (.slice va7 b.length vc7) b:=h7.own.slc fun q hq hF=>by
      have:=h7.new q hq;rcases hF with hF | hF
      ·have:=hw6.disk.bd q hF; omega
      ·have:=(hw6.sep q hF).2; omega
     have sv:=fun (T:Nat)=>hw7.saved hnv hr T (x:=T) (y:=(gen:Int)+1) rfl (by show(gen:Int)+1=((gen+1:Nat):Int); omega)
     first | exact⟨rfl,D',(sv 0).1,(JT.quiet hu05).trans ((ht6.trans (JT.quiet h7.upd)).trans (sv 0).2)⟩ | exact⟨rfl,D',(sv 1).1,(JT.quiet hu05).trans ((ht6.trans (JT.quiet h7.upd)).trans (sv 1).2)⟩
    ·obtain rfl:k=3:=by omega
     simp(maxSteps:=3000000)(disch:=omega)only[push_cast,seval,hst6.cell]
     have hu67:Upd (fun _=>False) w6 (((w6.alloc (.cells [.int .i64 0,.slice none 0 0].toArray 203 (0,0))).setCell ⟨w6.heap.size,0,none⟩ (.int .i64 (A:Int))).setCell ⟨w6.heap.size,1,none⟩ (.slice (some ⟨zb,0,none⟩) sz sz)):=
      Upd.alloc.trans ((Upd.set (F:=fun x=>x=w6.heap.size) rfl).setIn rfl) fun x hx e=>by omega
     generalize (((w6.alloc (.cells [.int .i64 0,.slice none 0 0].toArray 203 (0,0))).setCell ⟨w6.heap.size,0,none⟩ (.int .i64 (A:Int))).setCell ⟨w6.heap.size,1,none⟩ (.slice (some ⟨zb,0,none⟩) sz sz))=w7 at *
     have hw7:=hw6.quiet hu67
     have hyy:=(JT.quiet (D:=D') (jb:=cb) hu67).slc h.jj (by rw[List.length_replicate]; exact hz6:SlC w6 (FF D' J) (.slice (some ⟨zb,0,none⟩) (List.replicate sz (0:Int)).length sz) (List.replicate sz 0))
     have ht7:=ht6.trans (JT.quiet (D:=D') (jb:=cb) hu67)
     have hput:=nJ hw7 hs6 (by omega) (by omega) hz2 (x:=A) (by omega) hyy (by rw[List.length_replicate]; omega) (by rw[hch _ (by simp)]; omega)
     rw[List.length_replicate] at hput
     refine Ok.use hput ?_
     rintro v w8 ⟨rfl,D8,hw8,ht8⟩
     have hs8:=Sz.ops (l:=putOps sz A (List.replicate sz 0)) hs6
     have hlen8:(putOps sz A (List.replicate sz 0)).length≤60001:=by rw[putOps,List.length_append,dQ,List.length_singleton]; rw[hch _ (by simp)]; omega
     have ht78:=ht7.trans ht8
     replace hrun:runOps d (saveOps sz A b (gen+1))=runOps d' (putOps sz A (List.replicate sz 0) ++ (([putOps sz A (List.replicate sz 0),putOps sz A1 b,putOps sz A (hdrP sz b (gen+1))].drop 1).flatten)):=hrun
     by_cases hc0:(runOps d' (putOps sz A (List.replicate sz 0))).2=0
     ·rw[gY hc0] at hrun
      generalize runOps d' (putOps sz A (List.replicate sz 0))=r at *
      obtain⟨d8,code⟩:=r
      dsimp only at hc0 hw8 hs8 hrun ⊢
      subst hc0
      unfold errV
      simp(maxSteps:=3000000)(disch:=omega)only[push_cast,seval]
      exact⟨2,by omega,1,d8,D8,by omega,rfl,hw8,ht78,hs8.mono (by omega),hrun⟩
     ·rw[gZ hc0] at hrun
      rw[hrun]
      generalize runOps d' (putOps sz A (List.replicate sz 0))=r at *
      obtain⟨d8,code⟩:=r
      dsimp only at hc0 hw8 hs8 ⊢
      rw[if_neg hc0]
      obtain⟨hw9,ht9⟩:=hw8.goDown
      obtain⟨sa8,sc8,hb8,_⟩:=hw8.at_
      dsimp only at hb8
      unfold errV
      simp(maxSteps:=3000000)(disch:=omega)only[push_cast,seval,hb8.cell,hb8.free]
      exact⟨D8,hw9,(JT.quiet hu05).trans (ht78.trans ht9)⟩
    ·obtain rfl:k=2:=by omega
     simp(maxSteps:=3000000)(disch:=omega)only[push_cast,seval,hst6.cell]
     have hu67:Upd (fun _=>False) w6 (((w6.alloc (.cells [.int .i64 0,.slice none 0 0].toArray 203 (0,0))).setCell ⟨w6.heap.size,0,none⟩ (.int .i64 (A1:Int))).setCell ⟨w6.heap.size,1,none⟩ (.slice ya b.length yc)):=
      Upd.alloc.trans ((Upd.set (F:=fun x=>x=w6.heap.size) rfl).setIn rfl) fun x hx e=>by omega
     generalize (((w6.alloc (.cells [.int .i64 0,.slice none 0 0].toArray 203 (0,0))).setCell ⟨w6.heap.size,0,none⟩ (.int .i64 (A1:Int))).setCell ⟨w6.heap.size,1,none⟩ (.slice ya b.length yc))=w7 at *
     have hw7:=hw6.quiet hu67
     have hyy:=(JT.quiet (D:=D') (jb:=cb) hu67).slc h.jj hy6
     have ht7:=ht6.trans (JT.quiet (D:=D') (jb:=cb) hu67)
     have hput:=nJ hw7 hs6 (by omega) (by omega) hz2 (x:=A1) (by omega) hyy (by omega) (by omega)
     refine Ok.use hput ?_
     rintro v w8 ⟨rfl,D8,hw8,ht8⟩
     have hs8:=Sz.ops (l:=putOps sz A1 (b)) hs6
     have hlen8:(putOps sz A1 (b)).length≤60001:=by rw[putOps,List.length_append,dQ,List.length_singleton]; omega
     have ht78:=ht7.trans ht8
     replace hrun:runOps d (saveOps sz A b (gen+1))=runOps d' (putOps sz A1 b ++ (([putOps sz A (List.replicate sz 0),putOps sz A1 b,putOps sz A (hdrP sz b (gen+1))].drop 2).flatten)):=hrun
     by_cases hc0:(runOps d' (putOps sz A1 (b))).2=0
     ·rw[gY hc0] at hrun
      generalize runOps d' (putOps sz A1 (b))=r at *
      obtain⟨d8,code⟩:=r
      dsimp only at hc0 hw8 hs8 hrun ⊢
      subst hc0
      unfold errV
      simp(maxSteps:=3000000)(disch:=omega)only[push_cast,seval]
      exact⟨1,by omega,2,d8,D8,by omega,rfl,hw8,ht78,hs8.mono (by omega),hrun⟩
     ·rw[gZ hc0] at hrun
      rw[hrun]
      generalize runOps d' (putOps sz A1 (b))=r at *
      obtain⟨d8,code⟩:=r
      dsimp only at hc0 hw8 hs8 ⊢
      rw[if_neg hc0]
      obtain⟨hw9,ht9⟩:=hw8.goDown
      obtain⟨sa8,sc8,hb8,_⟩:=hw8.at_
      dsimp only at hb8
      unfold errV
      simp(maxSteps:=3000000)(disch:=omega)only[push_cast,seval,hb8.cell,hb8.free]
      exact⟨D8,hw9,(JT.quiet hu05).trans (ht78.trans ht9)⟩
    ·obtain rfl:k=1:=by omega
     simp(maxSteps:=3000000)(disch:=omega)only[push_cast,seval,hst6.cell]
     have hu67:Upd (fun _=>False) w6 (((w6.alloc (.cells [.int .i64 0,.slice none 0 0].toArray 203 (0,0))).setCell ⟨w6.heap.size,0,none⟩ (.int .i64 (A:Int))).setCell ⟨w6.heap.size,1,none⟩ (.slice (some ⟨nb,0,none⟩) sz sz)):=
      Upd.alloc.trans ((Upd.set (F:=fun x=>x=w6.heap.size) rfl).setIn rfl) fun x hx e=>by omega
     generalize (((w6.alloc (.cells [.int .i64 0,.slice none 0 0].toArray 203 (0,0))).setCell ⟨w6.heap.size,0,none⟩ (.int .i64 (A:Int))).setCell ⟨w6.heap.size,1,none⟩ (.slice (some ⟨nb,0,none⟩) sz sz))=w7 at *
     have hw7:=hw6.quiet hu67
     have hyy:=(JT.quiet (D:=D') (jb:=cb) hu67).slc h.jj (by rw[hhl]; exact hn6:SlC w6 (FF D' J) (.slice (some ⟨nb,0,none⟩) (hdrP sz b (gen+1)).length sz) (hdrP sz b (gen+1)))
     have ht7:=ht6.trans (JT.quiet (D:=D') (jb:=cb) hu67)
     have hput:=nJ hw7 hs6 (by omega) (by omega) hz2 (x:=A) (by omega) hyy (by rw[hhl]; omega) (by rw[hch _ hhl]; omega)
     rw[hhl] at hput
     refine Ok.use hput ?_
     rintro v w8 ⟨rfl,D8,hw8,ht8⟩
     have hs8:=Sz.ops (l:=putOps sz A (hdrP sz b (gen+1))) hs6
     have hlen8:(putOps sz A (hdrP sz b (gen+1))).length≤60001:=by rw[putOps,List.length_append,dQ,List.length_singleton]; rw[hch _ hhl]; omega
     have ht78:=ht7.trans ht8
     replace hrun:runOps d (saveOps sz A b (gen+1))=runOps d' (putOps sz A (hdrP sz b (gen+1)) ++ (([putOps sz A (List.replicate sz 0),putOps sz A1 b,putOps sz A (hdrP sz b (gen+1))].drop 3).flatten)):=hrun
     by_cases hc0:(runOps d' (putOps sz A (hdrP sz b (gen+1)))).2=0
     ·rw[gY hc0] at hrun
      generalize runOps d' (putOps sz A (hdrP sz b (gen+1)))=r at *
      obtain⟨d8,code⟩:=r
      dsimp only at hc0 hw8 hs8 hrun ⊢
      subst hc0
      unfold errV
      simp(maxSteps:=3000000)(disch:=omega)only[push_cast,seval]
      exact⟨0,by omega,3,d8,D8,by omega,rfl,hw8,ht78,hs8.mono (by omega),hrun⟩
     ·rw[gZ hc0] at hrun
      rw[hrun]
      generalize runOps d' (putOps sz A (hdrP sz b (gen+1)))=r at *
      obtain⟨d8,code⟩:=r
      dsimp only at hc0 hw8 hs8 ⊢
      rw[if_neg hc0]
      obtain⟨hw9,ht9⟩:=hw8.goDown
      obtain⟨sa8,sc8,hb8,_⟩:=hw8.at_
      dsimp only at hb8
      unfold errV
      simp(maxSteps:=3000000)(disch:=omega)only[push_cast,seval,hb8.cell,hb8.free]
      exact⟨D8,hw9,(JT.quiet hu05).trans (ht78.trans ht9)⟩
 ·simp(maxSteps:=3000000)(disch:=omega)only[push_cast,seval,hb1.cell];exact⟨rfl,D,h,JT.refl⟩
open Go
set_option maxRecDepth 100000
def cload (c:CS):List Int×Nat:=if c.gen=0 then ([],0) else (c.newest,c.gen)
theorem aAu {w:World}{D J:Nat→Prop}{p cb:Nat}{s:DS×CS}(h:CW w D J p cb s)(hl:s.2.newest.length≤900000000)(hg:s.2.gen≤4611686018427387904) :
 Ok (den Tryz.prog 20 #[.pointer (some ⟨cb,0,none⟩)] w) fun v w'=>∃u,v = .tuple #[u,.int .i64 ((cload s.2).2:Int)]∧Fr w w' u (cload s.2).1:=by
 obtain⟨d,c⟩:=s;obtain⟨first,n,slot,newest,gen,down⟩:=c
 obtain⟨sa,sc,hb1,hn1,_⟩:=h.at_;dsimp only at hb1 hn1 hl hg;refine aB (args:=[.pointer (some ⟨cb,0,none⟩)]) rs20 Tryz.func20 rfl mixed (by kernel_rfl) O8 rfl ?_;unfold cload;by_cases hg0:gen=0
 ·subst hg0;simp(maxSteps:=3000000)(disch:=omega)only[push_cast,seval,hb1.cell];exact⟨_,rfl,Fr.nil⟩
 ·have hgi : ¬(gen:Int)=0:=by omega
  dsimp only;rw[if_neg hg0];have hlt:=hb1.lt;have hbd:=hb1.drew;have hua:Upd (fun _=>False) w (w.alloc (.cells #[] 5 (0,0))).drew:=(Upd.alloc (F:=fun _=>False)).drew';have hba:=hb1.upd hua fun h=>h;have hba2:=hba.drew;have h6:=(Fr.empty (w:=w)).quiet (Upd.drew (F:=fun _=>False));simp(maxSteps:=3000000)(disch:=omega)only[push_cast,seval,hb1.cell,hgi,hbd.cell,hba.cell];generalize (w.alloc (.cells #[] 5 (0,0))).drew=w6 at *;refine h6.app (h6.old hn1.1) (by rw[List.length_nil]; omega) ?_;intro v7 w7 h7 _;rw[List.nil_append] at h7;obtain⟨va7,vc7,rfl,_⟩:=h7.own.form;have hb7:=hb1.upd h7.upd fun h=>h;simp(maxSteps:=3000000)(disch:=omega)only[push_cast,seval,hb7.cell,hba.cell,hb1.cell,hbd.cell];exact⟨_,rfl,h7⟩
theorem aAv {w:World}{F G:Nat→Prop}{u v:Value}{l m:List Int}(hu:SlB w F u l)(hv:SlB w G v m)(h1:Rng l)(h2:Rng m) :
 Ok (den Tryz.prog 95 #[u,v] w) fun r w'=>r = .bool (decide (l=m))∧Upd (fun _=>False) w w':=by
 obtain⟨a1,c1,rfl,_⟩:=id hu;obtain⟨a2,c2,rfl,_⟩:=id hv;refine aB (args:=[.slice a1 l.length c1,.slice a2 m.length c2]) rs95 Tryz.func95 rfl mixed (by kernel_rfl) Q9 rfl ?_;have e1:=aN hu;have e2:=aN hv;have e3:=dX h1 h2;simp(maxSteps:=3000000)(disch:=omega)only[push_cast,seval,e1,e2,e3];exact Upd.refl
def numL (l:List Int):Nat:=l.foldl (fun n x=>n*256+x.toNat) 0
theorem aAw {P:Program}{w:World}{t el:TypeId}{s:Nat}{a:Option Addr}{n c:Nat}{k:IntKind}{h:Int}(ht:elt P t=some el)(hs:siz P el=some s)(h0:0≤h)(h1:h≤c):slcS P t (.slice a n c) none (some (.int k h)) w=some (.slice a h.toNat c,w):=by
 have hu:=gB ht;have he:P.elem t=el:=by simp[Program.elem,hu]
 have hu':P.underlying t=some (.slice (P.elem t)):=by rw[he]; exact hu
 unfold slcS lift;rw[run_sliceAt_slice w t _ _ _ _ hu',run_slice_h w t _ _ _ hu' _ _ h0 h1,he,dE hs];cases a with
 | none=>simp[sliced]
 | some a=>
  have ha:a.add 0=a:=rfl;simp[sliced,ha]
theorem aAx {w:World}{F:Nat→Prop}{a:Option Addr}{c:Nat}{d:List Int}(h:SlC w F (.slice a d.length c) d){n:Nat}(hn:n≤d.length):SlC w F (.slice a n c) (d.take n):=by
 have hl:(d.take n).length=n:=by rw[List.length_take]; omega
 obtain⟨a',c',e,hc⟩:=h.2;injection e with e1 e2 e3;subst e1 e3;by_cases h0:d = []
 ·subst h0;have hn0:n=0:=by simpa using hn
  subst hn0;exact⟨⟨a,c,rfl,fun h=>absurd rfl h⟩,a,c,rfl,by simp⟩
 ·obtain⟨_,_,e,hli⟩:=id h.1;injection e with e1 e2 e3;obtain⟨b,o,e4,_⟩:=hli h0;rw[←e1] at e4;subst e4;exact gH h.1 hn hc
theorem aAy {m y:Nat}(hm:m<2 ^ 54)(hy:y<256):IntKind.i64.wrap ((BitVec.ofInt IntKind.i64.bits (IntKind.i64.wrap ((m:Int)*2 ^ min 8 IntKind.i64.bits)) ||| BitVec.ofInt IntKind.i64.bits (y:Int)).toNat:Int)=((m*256+y:Nat):Int):=by
 have e1:IntKind.i64.wrap ((m:Int)*2 ^ min 8 IntKind.i64.bits)=(m:Int)*256:=by
  show IntKind.i64.wrap ((m:Int)*2 ^ 8)=_;rw[IntKind.wrap_i64]; omega
 rw[e1];have e3:(BitVec.ofInt 64 ((m:Int)*256) ||| BitVec.ofInt 64 (y:Int)).toNat=m*256+y:=by
  have e:(m:Int)*256=((m*256:Nat):Int):=by omega
  rw[e,dV,dV,BitVec.toNat_or,BitVec.toNat_ofNat,BitVec.toNat_ofNat,Nat.mod_eq_of_lt (by omega),Nat.mod_eq_of_lt (by omega)];have:=Nat.two_pow_add_eq_or_of_lt (i:=8) (b:=y) (by omega) m;rw[Nat.mul_comm m 256];exact this.symm
 show IntKind.i64.wrap ((BitVec.ofInt 64 ((m:Int)*256) ||| BitVec.ofInt 64 (y:Int)).toNat:Int)=_;rw[e3,IntKind.wrap_i64];omega
theorem aAz {m y:Nat}(hm:m<2 ^ 56)(hy:y<256):IntKind.u64.wrap ((BitVec.ofInt IntKind.u64.bits (IntKind.u64.wrap ((m:Int)*2 ^ min 8 IntKind.u64.bits)) ||| BitVec.ofInt IntKind.u64.bits (IntKind.u64.wrap (y:Int))).toNat:Int)=((m*256+y:Nat):Int):=by
 have e1:IntKind.u64.wrap ((m:Int)*2 ^ min 8 IntKind.u64.bits)=(m:Int)*256:=by
  show IntKind.u64.wrap ((m:Int)*2 ^ 8)=_;rw[IntKind.wrap_u64]; omega
 have e2:IntKind.u64.wrap (y:Int)=(y:Int):=by rw[IntKind.wrap_u64]; omega
 rw[e1,e2];have e3:(BitVec.ofInt 64 ((m:Int)*256) ||| BitVec.ofInt 64 (y:Int)).toNat=m*256+y:=by
  have e:(m:Int)*256=((m*256:Nat):Int):=by omega
  rw[e,dV,dV,BitVec.toNat_or,BitVec.toNat_ofNat,BitVec.toNat_ofNat,Nat.mod_eq_of_lt (by omega),Nat.mod_eq_of_lt (by omega)];have:=Nat.two_pow_add_eq_or_of_lt (i:=8) (b:=y) (by omega) m;rw[Nat.mul_comm m 256];exact this.symm
 show IntKind.u64.wrap ((BitVec.ofInt 64 ((m:Int)*256) ||| BitVec.ofInt 64 (y:Int)).toNat:Int)=_;rw[e3,IntKind.wrap_u64];omega
theorem aBA {l:List Int}{x:Int}:numL (l ++ [x])=numL l*256+x.toNat:=by simp [numL,List.foldl_append]
theorem nK {l:List Int}{t:Nat}{x:Int}(h:l[t]? =some x):numL (l.take (t+1))=numL (l.take t)*256+x.toNat:=by
 obtain⟨h1,h2⟩:=List.getElem?_eq_some_iff.1 h;rw[List.take_succ_eq_append_getElem h1,h2,aBA]
theorem jU {l:List Int}(h:Rng l) : ∀t,t≤l.length→numL (l.take t)<256 ^ t:=by
 intro t;induction t with
 | zero=>intro _; simp[numL]
 | succ t ih=>
  intro ht;have hx:l[t]? =some (l[t]'(by omega)):=List.getElem?_eq_getElem _;rw[nK hx];have h1:=ih (by omega);have h2:=h _ (List.getElem_mem (h:=by omega) (l:=l) (n:=t));rw[Nat.pow_succ];omega
def slotP (ss:List (List Int)):Option (List Int×Nat):=
 let h:=ss.headD []
 let body:=ss.tail.flatten
 let g:=numL (h.take 8)
 let n:=numL ((h.drop 8).take 4)
 if 1≤g∧g≤4611686018427387904∧n≤body.length∧h=hdrP h.length (body.take n) g then some (body.take n,g) else none
def slotS (d:DS)(x n:Nat):List (List Int):=(List.range n).map fun i=>d.content (x+i)
def bodyU (d:DS)(x t:Nat):List Int:=((List.range t).map fun i=>d.content (x+1+i)).flatten
theorem nL {d:DS}{x t:Nat}:bodyU d x (t+1)=bodyU d x t ++ d.content (x+1+t):=by
 simp[bodyU,List.range_succ]
theorem nM {d:DS}{x sz:Nat} : ∀{t:Nat},(∀i,i<t→(d.content (x+1+i)).length=sz)→(bodyU d x t).length=t*sz
 | 0,_=>by simp[bodyU]
 | t+1,h=>by rw[nL,List.length_append,nM (t:=t) fun i hi=>h i (by omega),h t (by omega),Nat.succ_mul]
theorem vG {d:DS}{x t:Nat} : ∀{m:Nat},t≤m→∃r,bodyU d x m=bodyU d x t ++ r
 | 0,h=>⟨[],by rw[show t=0 by omega,List.append_nil]⟩
 | m+1,h=>by
  by_cases e:t=m+1
  ·exact⟨[],by rw[e,List.append_nil]⟩
  ·obtain⟨r,hr⟩:=vG (d:=d) (x:=x) (t:=t) (m:=m) (by omega);exact⟨r ++ d.content (x+1+m),by rw[nL,hr,List.append_assoc]⟩
theorem aBB {d:DS}{x n:Nat}(h:1≤n):slotS d x n=d.content x :: (List.range (n-1)).map fun i=>d.content (x+1+i):=by
 obtain⟨m,rfl⟩ : ∃m,n=m+1:=⟨n-1,by omega⟩;rw[slotS,List.range_succ_eq_map,Nat.add_sub_cancel];simp only[List.map_cons,List.map_map,Nat.add_zero,List.cons.injEq,true_and];apply List.map_congr_left;intro i _;show d.content (x+(i+1))=_;rw[show x+(i+1)=x+1+i by omega]
theorem aBC {d:DS}{x n:Nat}(h:1≤n){H:List Int}(hH:H=d.content x):slotP (slotS d x n) =
 if 1≤numL (H.take 8)∧numL (H.take 8)≤4611686018427387904∧numL ((H.drop 8).take 4)≤(bodyU d x (n-1)).length∧H=hdrP H.length ((bodyU d x (n-1)).take (numL ((H.drop 8).take 4))) (numL (H.take 8)) then some ((bodyU d x (n-1)).take (numL ((H.drop 8).take 4)),numL (H.take 8)) else none:=by
 subst hH;rw[aBB h];rfl
theorem aBD {k:IntKind}{n:Int}{w:World}:cnvS Tryz.prog 106 2 (.int k n) w=some (.int .i64 (IntKind.i64.wrap n),w):=bK (by kernel_rfl) (by kernel_rfl)
attribute [push_cast] aBD
set_option maxHeartbeats 2000000 in
theorem aBE {w:World}{D J:Nat→Prop}{p cb:Nat}{s:DS×CS}(h:CW w D J p cb s){N sz i:Nat}(hs:Sz N sz i s.1)(hi:i≤900000)(hz:44≤sz)(hz2:sz≤4096)(h1:s.2.first≤60000)(h2:s.2.n≤60000)(h3:1≤s.2.n){x:Nat}(hx:x≤1)(hN:s.2.first+x*s.2.n+s.2.n≤N)(hoff:s.1.off=false)
 (hsec : ∀y,y<N→(s.1.content y).length=sz∧Rng (s.1.content y)) :
 Ok (den Tryz.prog 50 #[.pointer (some ⟨cb,0,none⟩),.int .i64 (x:Int)] w) fun v w'=>(∃u g hd,v = .tuple #[u,.int .i64 g,.bool hd,.int .i64 0]∧match slotP (slotS s.1 (s.2.first+x*s.2.n) s.2.n) with
  | none=>hd=false
  | some (b,g')=>hd=true∧g=(g':Int)∧SlC w' (fun b=>b<w.heap.size) u b)∧Upd (fun _=>False) w w':=by
 obtain⟨d,c⟩:=s;obtain⟨first,n,slot,newest,gen,down⟩:=c
 obtain⟨sa,sc,hb1,hn1,_⟩:=h.at_;dsimp only at hs h1 h2 h3 hN hoff hsec hb1;have hsz:=hs.size;have hrd : ∀y,y<N→d.read (y:Int)=(some (d.content y),0):=fun y hy=>by
  unfold DS.read;rw[if_pos ⟨by omega,by rw[hs.dur]; omega⟩,hoff];simp
 refine aB (args:=[.pointer (some ⟨cb,0,none⟩),.int .i64 (x:Int)]) rs50 Tryz.func50 rfl mixed (by kernel_rfl) P1 rfl ?_;have hud:Upd (fun _=>False) w w.drew:=Upd.drew;have hwd:=h.quiet hud;have hbd:=hb1.drew;simp(maxSteps:=3000000)(disch:=omega)only[push_cast,seval,hb1.cell];generalize w.drew=wd at *;refine Ok.use (nE hwd hx (by show first≤_; omega) (by show n≤_; omega)) ?_
 rintro v w1 ⟨rfl,hu1⟩;dsimp only;obtain⟨X,hX⟩ : ∃X,X=first+x*n:=⟨_,rfl⟩
 have hXb:X≤120000:=by
  have:x*n≤1*n:=Nat.mul_le_mul_right n hx;omega
 rw[←hX] at hN ⊢;have hb2:=hbd.upd hu1 fun h=>h;have hw1:=hwd.quiet hu1;have hread:=lE hw1.disk (by show 0<d.size; omega) (by have:=hs.few; show d.cache.length<_; omega) (X:Int);rw[show(d,(⟨first,n,slot,newest,gen,down⟩:CS)).1.read (X:Int)=(some (d.content X),0) from hrd X (by omega)] at hread
 simp(maxSteps:=3000000)(disch:=omega)only[push_cast,seval,hb1.cell,hbd.cell,hb2.cell];refine Ok.use hread ?_;rintro v w2 ⟨u,rfl,⟨hb,rfl,hbge,hbh⟩,hu2⟩;dsimp only at hbh ⊢;have hc0:=hsec X (by omega);unfold CV;rw[hc0.1];have hb3:=hb2.upd hu2 fun h=>h;simp(maxSteps:=3000000)(disch:=omega)only[push_cast,seval,hb1.cell,hbd.cell,hb2.cell,hb3.cell];obtain⟨H,hH⟩ : ∃H,H=d.content X:=⟨_,rfl⟩;rw[←hH] at hbh hc0;have hcell : ∀t,t<sz→∃x:Nat,H[t]? =some (x:Int)∧x<256∧(by8 H)[t]? =some (.int .u8 (x:Int)):=fun t ht=>by
  have e:H[t]? =some (H[t]'(by omega)):=List.getElem?_eq_getElem _;obtain⟨y,hy,hy2⟩:=hc0.2.nat e;exact⟨y,by rw[e,hy],hy2,by rw[by8,List.getElem?_map,e,hy]; rfl⟩
 refine aG (I:=fun k st w'=>Bx (∃t,k+t=8∧st = [.int .u64 ((numL (H.take t):Nat):Int),.int .i64 ((t:Nat):Int)]∧w2=w') ⟨⟩) ?_ 8
  ⟨0,by omega,rfl,rfl⟩
 rintro k st _ ⟨t,hk,rfl,rfl⟩;by_cases hk0:k=0
 ·obtain rfl:t=8:=by omega
  have e8:(if sz=8 then 0 else 8)=8:=if_neg (by omega)
  simp(maxSteps:=3000000)(disch:=omega)only[push_cast,seval,e8];refine aG (I:=fun k st w'=>Bx (∃t,k+t=4∧st = [.int .i64 ((numL ((H.drop 8).take t):Nat):Int),.int .i64 ((t:Nat):Int)]∧w2=w') ⟨⟩) ?_ 4
   ⟨0,by omega,rfl,rfl⟩
  rintro k st _ ⟨t,hk,rfl,rfl⟩;by_cases hk0:k=0
  ·obtain rfl:t=4:=by omega
   rw[aBC h3 hH];have hbl:(bodyU d X (n-1)).length=(n-1)*sz:=nM fun i hi=>(hsec (X+1+i) (by omega)).1;have hlim:=jU (hc0.2.drop 8) 4 (by rw[List.length_drop]; omega);obtain⟨B,hB⟩ : ∃B,B=bodyU d X (n-1):=⟨_,rfl⟩;rw[←hB] at hbl ⊢;have hG0:=jU hc0.2 8 (by omega);generalize numL ((H.drop 8).take 4)=L at *;generalize numL (H.take 8)=G at *;by_cases hg1:G<1
   ·have hgi:(G:Int)<1:=by omega
    rw[if_neg (by omega)];simp(maxSteps:=3000000)(disch:=omega)only[push_cast,seval,e8,hgi];exact⟨⟨_,_,_,rfl,rfl⟩,(hud.trans hu1 fun _ _ h=>h).trans hu2 fun _ _ h=>h⟩
   have hgi : ¬(G:Int)<1:=by omega
   by_cases hg2:4611686018427387904<G
   ·have hgj:(4611686018427387904:Int)<G:=by omega
    rw[if_neg (by omega)];simp(maxSteps:=3000000)(disch:=omega)only[push_cast,seval,e8,hgi,hgj];exact⟨⟨_,_,_,rfl,rfl⟩,(hud.trans hu1 fun _ _ h=>h).trans hu2 fun _ _ h=>h⟩
   have hgj : ¬(4611686018427387904:Int)<G:=by omega
   simp(maxSteps:=3000000)(disch:=omega)only[push_cast,seval,e8,hgi,hgj];have hw2:=hw1.quiet hu2;refine Ok.use (nG hw2 (by show 1≤n; omega) (by show n≤_; omega) (by show d.size≤_; omega)) ?_;rintro v w3 ⟨rfl,hu3⟩;dsimp only;rw[hsz];have hroomb:(n-1)*sz≤60000*4096:=Nat.mul_le_mul (by omega) (by omega);obtain⟨R,hR⟩ : ∃R,R=(n-1)*sz:=⟨_,rfl⟩;rw[←hR] at hroomb hbl ⊢;have hb4:=hb3.upd hu3 fun h=>h;have hu03:Upd (fun _=>False) w w3:=((hud.trans hu1 fun _ _ h=>h).trans hu2 fun _ _ h=>h).trans hu3 fun _ _ h=>h;by_cases hLR:R<L
   ·have hli:(R:Int)<(L:Int):=by omega
    rw[if_neg (by omega)];simp(maxSteps:=3000000)(disch:=omega)only[push_cast,seval,hli];exact⟨⟨_,_,_,rfl,rfl⟩,hu03⟩
   have hli : ¬(R:Int)<(L:Int):=by omega
   simp(maxSteps:=3000000)(disch:=omega)only[push_cast,seval,hli];have hbh3:=hbh.upd hu3 fun h=>h;have hw3:=hw2.quiet hu3;refine aG (I:=fun k st w'=>Bx (∃t v,k+t=n-1∧st = [v,.int .i64 ((t:Nat)+1:Int)]∧Fr w3 w' v (bodyU d X t)) ⟨⟩) ?_ (n-1)
    ⟨0,_,by omega,rfl,Fr.nil⟩
   rintro k st w4 ⟨t,v,hk,rfl,h4⟩;obtain⟨va4,vc4,rfl,hc4⟩:=h4.own.form;have hbt:(bodyU d X t).length=t*sz:=nM fun i hi=>(hsec (X+1+i) (by omega)).1;have hw4:=hw3.quiet h4.upd;have hb5:=hb4.upd h4.upd fun h=>h;have hbh4:=hbh3.upd h4.upd fun h=>h;have hts:t*sz≤R:=by rw[hR]; exact Nat.mul_le_mul_right sz (by omega)
   by_cases hbL:t*sz<L
   ·have htn:t<n-1:=by
     rcases Nat.lt_or_ge t (n-1) with hh | hh
     ·exact hh
     ·have:(n-1)*sz≤t*sz:=Nat.mul_le_mul_right sz hh;omega
    have hbi:((bodyU d X t).length:Int)<(L:Int):=by omega
    have hbt2:(bodyU d X t).length≤60000*4096:=by omega
    have hud4:Upd (fun _=>False) w4 w4.drew:=Upd.drew;have hw4d:=hw4.quiet hud4;have hb5d:=hb5.drew;have h4d:=h4.quiet hud4;simp(maxSteps:=3000000)(disch:=omega)only[push_cast,seval,hbi,hb5.cell];generalize w4.drew=w4d at *;refine Ok.use (nE hw4d hx (by show first≤_; omega) (by show n≤_; omega)) ?_
    rintro v w5 ⟨rfl,hu5⟩;dsimp only;rw[←hX];have hb6:=hb5d.upd hu5 fun h=>h;have hw5:=hw4d.quiet hu5;have h5:=h4d.quiet hu5;have eX:(X:Int)+((t:Int)+1)=((X+1+t:Nat):Int):=by omega
    obtain⟨Y,hY⟩ : ∃Y,Y=X+1+t:=⟨_,rfl⟩;rw[←hY] at eX;have hread:=lE hw5.disk (by show 0<d.size; omega) (by have:=hs.few; show d.cache.length<_; omega) (Y:Int);rw[show(d,(⟨first,n,slot,newest,gen,down⟩:CS)).1.read (Y:Int)=(some (d.content Y),0) from hrd Y (by omega)] at hread
    simp(maxSteps:=3000000)(disch:=omega)only[push_cast,seval,hbi,hb5.cell,hb5d.cell,hb6.cell,eX];refine Ok.use hread ?_;rintro v w6 ⟨u,rfl,⟨nb,rfl,hnbge,hnb⟩,hu6⟩;dsimp only at hnb ⊢;have hcY:=hsec Y (by omega);unfold CV;have hb7:=hb6.upd hu6 fun h=>h;have h6:=h5.quiet hu6;rw[hcY.1];simp(maxSteps:=3000000)(disch:=omega)only[push_cast,seval,hbi,hb5.cell,hb5d.cell,hb6.cell,hb7.cell,eX];have hsrc:SlB w6 (fun _=>False) (.slice (some ⟨nb,0,none⟩) sz sz) (d.content Y):=by
     have:=cX hnb (c:=sz) (F:=fun _=>False) fun h=>h;rw[hcY.1] at this;exact this
    refine h6.app hsrc (by rw[hcY.1]; omega) ?_;intro v7 w7 h7 hu7;simp(maxSteps:=3000000)(disch:=omega)only[push_cast,seval];exact⟨k-1,by omega,t+1,v7,by omega,by simp,by rw[nL,←hY]; exact h7⟩
   have hbi : ¬((bodyU d X t).length:Int)<(L:Int):=by omega
   have hLl:L≤(bodyU d X t).length:=by omega
   have hpre:(bodyU d X t).take L=B.take L:=by
    obtain⟨r,hr⟩:=vG (d:=d) (x:=X) (t:=t) (m:=n-1) (by omega);rw[hB,hr,List.take_append_of_le_length hLl]
   have htk:=aAx h4.slc hLl;have hLb:L≤60000*4096:=by omega
   rw[hpre] at htk;have hTl:(B.take L).length=L:=by rw[List.length_take]; omega
   rw[←hTl] at htk;have hsx:=aAw (P:=Tryz.prog) (t:=55) (w:=w4) (a:=va4) (n:=(bodyU d X t).length) (c:=vc4) (k:=.i64) (h:=(L:Int)) cG bJ (by omega) (by omega);rw[Int.toNat_natCast] at hsx;have hhd:=nH hw4 htk (by rw[hTl]; omega) (g:=G) (by omega) (by show 44≤d.size; omega) (by show d.size≤_; omega);rw[hTl] at hhd;have eG:IntKind.i64.wrap (G:Int)=(G:Int):=by rw[IntKind.wrap_i64]; omega
   rw[hTl] at htk;generalize B.take L=T at *;simp(maxSteps:=3000000)(disch:=omega)only[push_cast,seval,hbi,hsx,eG];refine Ok.use hhd ?_;rintro v w5 ⟨nb,rfl,hnb,hnge,hu5⟩;dsimp only at hnb ⊢;rw[hsz] at hnb ⊢;have hhl:(hdrP sz T G).length=sz:=dC (by omega);unfold CV;rw[hhl];have s1:SlB w5 (fun _=>False) (.slice (some ⟨hb,0,none⟩) H.length sz) H:=cX (hbh4.upd hu5 fun h=>h) fun h=>h;have s2:SlB w5 (fun _=>False) (.slice (some ⟨nb,0,none⟩) (hdrP sz T G).length sz) (hdrP sz T G):=cX hnb fun h=>h;have heq:=aAv s1 s2 hc0.2 vD;rw[hhl,hc0.1] at heq;simp(maxSteps:=3000000)(disch:=omega)only[push_cast,seval,eG];refine Ok.use heq ?_;rintro v w6 ⟨rfl,hu6⟩;have hu46:Upd (fun _=>False) w4 w6:=hu5.trans hu6 fun _ _ h=>h;have hu06:Upd (fun _=>False) w w6:=(hu03.trans h4.upd fun _ _ h=>h).trans hu46 fun _ _ h=>h;have hs03:=hu03.size;have htk6:SlC w6 (fun b=>b<w.heap.size) (.slice va4 L vc4) T:=(htk.upd hu46 fun _ h=>h.elim).mono fun b _ hb=>by omega
   by_cases hh:H=hdrP sz T G
   ·rw[if_pos ⟨by omega,by omega,by omega,by rw[hc0.1]; exact hh⟩];simp(maxSteps:=3000000)(disch:=omega)only[push_cast,seval,eG];refine⟨⟨_,_,_,rfl,?_⟩,hu06⟩;exact⟨rfl,rfl,htk6⟩
   ·rw[if_neg (by rintro⟨_,_,_,h4⟩; rw[hc0.1] at h4; exact hh h4)];simp(maxSteps:=3000000)(disch:=omega)only[push_cast,seval,eG];exact⟨⟨_,_,_,rfl,rfl⟩,hu06⟩
  obtain⟨y,hy,hy2,hyc⟩:=hcell (8+t) (by omega);rw[←List.getElem?_drop] at hy;have hnx:=nK hy;have hlt:=jU (hc0.2.drop 8) t (by rw[List.length_drop]; omega);have hp:(256:Nat) ^ t≤256 ^ 3:=Nat.pow_le_pow_right (by omega) (by omega);have hle:(t:Int)<4:=by omega
  obtain⟨j,hj⟩ : ∃j,j=8+t:=⟨_,rfl⟩;rw[←hj] at hyc;have ej:(8:Int)+(t:Int)=(j:Int):=by omega
  have ej2:8+t=j:=hj.symm;generalize numL ((H.drop 8).take t)=m at *;have eu:=aAy (m:=m) (by omega) hy2;simp(maxSteps:=3000000)(disch:=omega)only[push_cast,seval,hle,hbh.cell,hyc,e8,ej,ej2];exact⟨k-1,by omega,t+1,by omega,by rw[eu,hnx]; simp,rfl⟩
 obtain⟨y,hy,hy2,hyc⟩:=hcell t (by omega);have hnx:=nK hy;have hlt:=jU hc0.2 t (by omega);have hp:(256:Nat) ^ t≤256 ^ 7:=Nat.pow_le_pow_right (by omega) (by omega);have hle:(t:Int)<8:=by omega
 generalize numL (H.take t)=m at *;have eu:=aAz (m:=m) (by omega) hy2;simp(maxSteps:=3000000)(disch:=omega)only[push_cast,seval,hle,hbh.cell,hyc];exact⟨k-1,by omega,t+1,by omega,by rw[eu,hnx]; simp,rfl⟩
end Go.Proofs.YtpgigkceoolgeaaGreatDoor.Fd
