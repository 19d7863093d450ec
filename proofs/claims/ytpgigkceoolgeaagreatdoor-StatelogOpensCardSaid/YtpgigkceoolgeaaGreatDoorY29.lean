import Derived.Test.YtpgigkceoolgeaaGreatDoorY28
set_option linter.all false
namespace Go.Proofs.YtpgigkceoolgeaaGreatDoor.Fd
open Go
set_option maxRecDepth 100000
def saveOps (sz at_:Nat) (b:List Int) (g:Nat):List DOp:=putOps sz at_ (List.replicate sz 0) ++ putOps sz (at_+1) b ++ putOps sz at_ (hdrP sz b g)
def CS.target (c:CS):Nat:=if 0<c.gen∧c.slot=0 then 1 else 0
def csave (s:DS×CS) (b:List Int):(DS×CS)×Int:=
 if s.2.down then (s,8)
 else if (s.2.n-1)*s.1.size<b.length∨s.2.gen=4611686018427387904 then (s,6)
 else if (runOps s.1 (saveOps s.1.size (s.2.first+s.2.target*s.2.n) b (s.2.gen+1))).2=0 then
   (((runOps s.1 (saveOps s.1.size (s.2.first+s.2.target*s.2.n) b (s.2.gen+1))).1,{s.2 with slot:=s.2.target,newest:=b,gen:=s.2.gen+1}),0)
 else (((runOps s.1 (saveOps s.1.size (s.2.first+s.2.target*s.2.n) b (s.2.gen+1))).1,{s.2 with down:=true}),8)
theorem CW.goDown {w:World} {D J:Nat→Prop} {p cb:Nat} {s:DS×CS} (h:CW w D J p cb s):CW (w.setCell ⟨cb,6,none⟩ (.bool true)) D J p cb (s.1,{s.2 with down:=true})∧JT w (w.setCell ⟨cb,6,none⟩ (.bool true)) D D cb:=by
 obtain ⟨sv,h1,h2,h3⟩:=h.obj
 have hu:Upd (fun x=>x=cb) w (w.setCell ⟨cb,6,none⟩ (.bool true)):=Upd.set rfl
 exact h.set hu ⟨sv,h1.set 6 _,h2.upd hu (fun x e=>.inr (by rw [e]; exact h.jj)),h3⟩
theorem CW.saved {w:World} {D J:Nat→Prop} {p cb:Nat} {s:DS×CS} (h:CW w D J p cb s) {nv:Value} {b:List Int} (hb:SlC w (FF D J) nv b) (hr:Rng b) (tg:Nat) {x y:Int} (hx:x=(tg:Int)) (hy:y=((s.2.gen+1:Nat):Int)) :
   CW (((w.setCell ⟨cb,3,none⟩ (.int .i64 x)).setCell ⟨cb,4,none⟩ nv).setCell ⟨cb,5,none⟩ (.int .i64 y)) D J p cb (s.1,{s.2 with slot:=tg,newest:=b,gen:=s.2.gen+1})∧JT w (((w.setCell ⟨cb,3,none⟩ (.int .i64 x)).setCell ⟨cb,4,none⟩ nv).setCell ⟨cb,5,none⟩ (.int .i64 y)) D D cb:=by
 subst hx hy
 obtain ⟨sv,h1,h2,h3⟩:=h.obj
 have q1:Upd (fun x=>x=cb) w (w.setCell ⟨cb,3,none⟩ (.int .i64 (tg:Int))):=Upd.set rfl
 have q2:=q1.setIn (a:=⟨cb,4,none⟩) (v:=nv) rfl
 have q3:=q2.setIn (a:=⟨cb,5,none⟩) (v:=.int .i64 ((s.2.gen+1:Nat):Int)) rfl
 exact h.set q3 ⟨nv,((h1.set 3 _).set 4 _).set 5 _,hb.upd q3 (fun x e=>.inr (by rw [e]; exact h.jj)),hr⟩
theorem runOps_go {d:DS} {a b:List DOp} (h:(runOps d a).2=0):runOps d (a ++ b)=runOps (runOps d a).1 b:=by rw [runOps_append,if_pos h]
theorem runOps_stop {d:DS} {a b:List DOp} (h:(runOps d a).2≠0):runOps d (a ++ b)=runOps d a:=by rw [runOps_append,if_neg h]
theorem bld_step (x:Int) (a:Option Addr) (n c:Nat) (w:World):bldS Tryz.prog 203 #[(0,.int .i64 x),(1,.slice a n c)] w=some (.agg #[.int .i64 x,.slice a n c],w):=by kernel_rfl
theorem bsl_steps (x y z:Int) (a b d:Option Addr) (an bn dn ac bc dc:Nat) (w:World):bslS Tryz.prog 204 3 #[(0,.agg #[.int .i64 x,.slice a an ac]),(1,.agg #[.int .i64 y,.slice b bn bc]),(2,.agg #[.int .i64 z,.slice d dn dc])] w =
   some (.slice (some ⟨w.heap.size,0,none⟩) 3 3,w.alloc (.cells [.int .i64 x,.slice a an ac,.int .i64 y,.slice b bn bc,.int .i64 z,.slice d dn dc].toArray 203 (0,0))):=by kernel_rfl
attribute [push_cast] bld_step bsl_steps
set_option maxHeartbeats 2000000 in
theorem save_ok {w:World} {D J:Nat→Prop} {p cb:Nat} {s:DS×CS} (h:CW w D J p cb s) {N sz i:Nat} (hs:Sz N sz i s.1) (hi:i≤400000) (hz:44≤sz) (hz2:sz≤4096) (h1:s.2.first≤60000) (h2:s.2.n≤60000) (h3:1≤s.2.n) (hg:s.2.gen≤4611686018427387904)
   {y:Value} {b:List Int} (hy:SlC w (FF D J) y b) (hr:Rng b) :
   Ok (den Tryz.prog 124 #[.pointer (some ⟨cb,0,none⟩),y] w) fun u w'=>u=errV (csave s b).2∧∃D',CW w' D' J p cb (csave s b).1∧JT w w' D D' cb:=by
 obtain ⟨ya,yc,rfl,hyc⟩:=id hy.2
 obtain ⟨d,c⟩:=s
 obtain ⟨first,n,slot,newest,gen,down⟩:=c
 obtain ⟨sa,sc,hb1,_⟩:=h.at_
 have hsz:=hs.size
 dsimp only at hs hsz h1 h2 h3 hg hb1
 refine den_okS (args:=[.pointer (some ⟨cb,0,none⟩),.slice ya b.length yc]) rs124 Tryz.func124 rfl mixed in124 ok124 ae124 rfl ?_
 cases down
 · simp (maxSteps:=3000000) (disch:=omega) only [push_cast,seval,hb1.cell]
   refine Ok.use (Room_ok h h3 (by show n≤_; omega) (by show d.size≤4096; omega)) ?_
   rintro v w1 ⟨rfl,hu1⟩
   have hw1:=h.quiet hu1
   have hb2:=hb1.upd hu1 fun h=>h
   have hroomb:(n-1)*d.size≤60000*4096:=Nat.mul_le_mul (by omega) (by omega)
   dsimp only
   obtain ⟨R,hR⟩ : ∃R,R=(n-1)*d.size:=⟨_,rfl⟩
   rw [←hR] at hroomb ⊢
   have ht1:JT w w1 D D cb:=JT.quiet hu1
   unfold csave
   dsimp only
   rw [←hR,hsz]
   simp only [Bool.false_eq_true,if_false]
   by_cases hroom:R<b.length
   · have hri:(R:Int)<(b.length:Int):=by omega
     rw [if_pos (Or.inl hroom)]
     simp (maxSteps:=3000000) (disch:=omega) only [push_cast,seval,hb2.cell,hri]
     exact ⟨rfl,D,hw1,ht1⟩
   have hri : ¬(R:Int)<(b.length:Int):=by omega
   have hb:b.length≤800000000:=by omega
   by_cases hgl:gen=4611686018427387904
   · have hgi:(gen:Int)=4611686018427387904:=by omega
     rw [if_pos (Or.inr hgl)]
     simp (maxSteps:=3000000) (disch:=omega) only [push_cast,seval,hb2.cell,hri,hgi]
     exact ⟨rfl,D,hw1,ht1⟩
   have hgi : ¬(gen:Int)=4611686018427387904:=by omega
   rw [if_neg (by omega)]
   simp (maxSteps:=3000000) (disch:=omega) only [push_cast,seval,hb2.cell,hri,hgi]
   have hst : ∀x,x≤1→Ok (den Tryz.prog 93 #[.pointer (some ⟨cb,0,none⟩),.int .i64 ((x:Nat):Int)] w1) fun v w'=>v = .int .i64 ((first+x*n:Nat):Int)∧Upd (fun _=>False) w1 w':=fun x hx=>start_ok hw1 hx (by show first≤_; omega) (by show n≤_; omega)
   have three:(gen=0∨(0<gen∧slot≠0))∨(0<gen∧slot=0):=by omega
   rcases three with hlo | ⟨hgp0,hs0⟩
   · have htg:CS.target ⟨first,n,slot,newest,gen,false⟩=0:=by unfold CS.target; dsimp only; rw [if_neg (by omega)]
     rw [htg]
     rcases hlo with hg0 | ⟨hgp0,hs0⟩
     · have hgp : ¬(0:Int)<(gen:Int):=by omega
       simp (maxSteps:=3000000) (disch:=omega) only [push_cast,seval,hb2.cell,hgp]
       refine Ok.use (hst 0 (by omega)) ?_
       rintro v w2 ⟨rfl,hu2⟩
       have hA:first+0*n≤120000:=by omega
       generalize first+0*n=A at *
       have hw2:=hw1.quiet hu2
       have hu02:=hu1.trans hu2 fun _ _ h=>h
       have hb3:=hb2.upd hu2 fun h=>h
       have hy2:=hy.upd hu02 fun _ h=>h.elim
       simp (maxSteps:=3000000) (disch:=omega) only [push_cast,seval,hb3.cell]
       have hu2d:Upd (fun _=>False) w w2.drew:=hu02.drew'
       have hwd:=h.quiet hu2d
       have hyd:=hy.upd hu2d fun _ h=>h.elim
       have hbd:=hb3.drew
       generalize w2.drew=w2d at *
       refine ⟨fun _=>?_,fun _=>?_⟩
       · refine Ok.use (Size_ok hwd.disk) ?_
         rintro v _ ⟨rfl,rfl⟩
         dsimp only
         rw [hsz]
         have hnz:Blk (w2d.alloc (.cells (List.replicate sz (Value.int .u8 0)).toArray 5 (0,0))) w2d.heap.size (List.replicate sz (Value.int .u8 0)) 5:=Blk.new
         have hal:Upd (fun _=>False) w2d (w2d.alloc (.cells (List.replicate sz (Value.int .u8 0)).toArray 5 (0,0))):=Upd.alloc
         simp (maxSteps:=3000000) (disch:=omega) only [push_cast,seval,hb3.cell,hbd.cell]
         have hw3:=hwd.quiet hal
         have hy3:=hyd.upd hal fun _ h=>h.elim
         have hb4:=hbd.upd hal fun h=>h
         have hs3:=hal.size
         have hgi3:IntKind.i64.wrap ((gen:Int)+1)=((gen+1:Nat):Int):=by rw [IntKind.wrap_i64]; omega
         have hnzl:=hnz.lt
         generalize (w2d.alloc (.cells (List.replicate sz (Value.int .u8 0)).toArray 5 (0,0)))=w3 at *
         have hhd:=header_ok hw3 hy3 (by omega) (g:=gen+1) (by omega) (by show 44≤d.size; omega) (by show d.size≤_; omega)
         simp (maxSteps:=3000000) (disch:=omega) only [push_cast,seval,hb3.cell,hbd.cell,hb4.cell,hgi3]
         have hgc:((gen+1:Nat):Int)=(gen:Int)+1:=by omega
         rw [hgc] at hhd
         refine Ok.use hhd ?_
         rintro v w4 ⟨nb,rfl,hnb,hge,hu4⟩
         have hhl:(hdrP sz b (gen+1)).length=sz:=hdrP_length hz
         dsimp only at hnb ⊢
         unfold CV
         rw [hsz] at hnb ⊢
         rw [hhl]
         have hb5:=hb4.upd hu4 fun h=>h
         have hzz:=hnz.upd hu4 fun h=>h
         have hu0A:Upd (fun _=>False) w w4:=(hu2d.trans hal fun _ _ h=>h).trans hu4 fun _ _ h=>h
         have hzge:w.heap.size≤w2d.heap.size:=hu2d.size
         have hnge:w.heap.size≤nb:=by omega
         obtain ⟨A1,hA1⟩ : ∃A1,A1=A+1:=⟨_,rfl⟩
         have eA1:(A:Int)+1=(A1:Int):=by omega
         simp (maxSteps:=3000000) (disch:=omega) only [push_cast,seval,hb3.cell,hbd.cell,hb4.cell,hb5.cell,hgi3,eA1]
         generalize w2d.heap.size=zb at *
         clear hhd hw3 hy3 hb4 hnzl hal hu4 hwd hyd hbd hu2d hy2 hb3 hw2 hnz
         generalize hwA:w4=wA at *
         have hs0A:=hu0A.size
         have hstep:Blk (wA.alloc (.cells [.int .i64 (A:Int),.slice (some ⟨zb,0,none⟩) sz sz,.int .i64 (A1:Int),.slice ya b.length yc,.int .i64 (A:Int),.slice (some ⟨nb,0,none⟩) sz sz].toArray 203 (0,0))) wA.heap.size [.int .i64 (A:Int),.slice (some ⟨zb,0,none⟩) sz sz,.int .i64 (A1:Int),.slice ya b.length yc,.int .i64 (A:Int),.slice (some ⟨nb,0,none⟩) sz sz] 203:=Blk.new
         have hu1:Upd (fun _=>False) wA (wA.alloc (.cells [.int .i64 (A:Int),.slice (some ⟨zb,0,none⟩) sz sz,.int .i64 (A1:Int),.slice ya b.length yc,.int .i64 (A:Int),.slice (some ⟨nb,0,none⟩) sz sz].toArray 203 (0,0))):=Upd.alloc
         have hu05:=hu0A.trans hu1 fun _ _ h=>h
         have hw5:=h.quiet hu05
         have hy5:=hy.upd hu05 fun _ h=>h.elim
         have hz5:=hzz.upd hu1 fun h=>h
         have hn5:=hnb.upd hu1 fun h=>h
         obtain ⟨sb,hsb⟩ : ∃sb,sb=wA.heap.size:=⟨_,rfl⟩
         rw [←hsb] at hstep ⊢
         generalize (wA.alloc (.cells [.int .i64 (A:Int),.slice (some ⟨zb,0,none⟩) sz sz,.int .i64 (A1:Int),.slice ya b.length yc,.int .i64 (A:Int),.slice (some ⟨nb,0,none⟩) sz sz].toArray 203 (0,0)))=w5 at *
         have hFF : ∀q,w.heap.size≤q→¬FF D J q:=fun q hq hh=>hh.elim (fun hd=>by have:=h.disk.bd q hd; omega) fun hj=>by have:=(h.sep q hj).2; omega
         have hzl:SlC w5 (FF D J) (.slice (some ⟨zb,0,none⟩) (List.replicate sz (0:Int)).length sz) (List.replicate sz 0):=⟨slb_blk (by rw [by8_zeros]; exact hz5) (hFF zb hzge),_,_,rfl,by rw [List.length_replicate]; exact Nat.le_refl _⟩
         have hnl:SlC w5 (FF D J) (.slice (some ⟨nb,0,none⟩) (hdrP sz b (gen+1)).length sz) (hdrP sz b (gen+1)):=⟨slb_blk hn5 (hFF nb hnge),_,_,rfl,by rw [hhl]; exact Nat.le_refl _⟩
         rw [List.length_replicate] at hzl
         rw [hhl] at hnl
         have hss : ¬FF D J sb:=hFF sb (by omega)
         clear hz5 hn5 hzz hnb hu1 hb5
         have hch : ∀x:List Int,x.length=sz→nch sz x.length=1:=fun x hx=>by
           rw [hx]; unfold nch; rw [Nat.div_eq_of_lt_le] <;> omega
         have hchb:nch sz b.length≤60000:=by
           unfold nch
           have h1:b.length≤(n-1)*sz:=by rw [hR,hsz] at hroom; omega
           have h2:(b.length+sz-1)/sz≤((n-1)*sz+sz-1)/sz:=Nat.div_le_div_right (by omega)
           have h3:((n-1)*sz+sz-1)/sz<n-1+1:=by
             rw [Nat.div_lt_iff_lt_mul (by omega),Nat.add_mul]; omega
           omega
         obtain ⟨M,hM⟩ : ∃M,M=70000:=⟨_,rfl⟩
         refine loop_inv (I:=fun k st w'=>Bx (∃t d' D',k+t=3∧st = [.int .i64 (t:Int)]∧CW w' D' J p cb (d',⟨first,n,slot,newest,gen,false⟩)∧JT w5 w' D D' cb∧Sz N sz (i+t*M) d'∧runOps d (saveOps sz A b (gen+1))=runOps d' (([putOps sz A (List.replicate sz 0),putOps sz A1 b,putOps sz A (hdrP sz b (gen+1))].drop t).flatten)) ⟨⟩) ?_ 3
           ⟨0,d,D,by omega,rfl,hw5,JT.refl,by simpa using hs,by simp [saveOps,hA1]⟩
         rintro k st w6 ⟨t,d',D',hk,rfl,hw6,ht6,hs6,hrun⟩
         have hst6:=hstep.upd ht6.upd fun hh=>hss (hh.elim .inl fun e=>.inr (by rw [e]; exact h.jj))
         have hz6:=ht6.slc h.jj hzl
         have hn6:=ht6.slc h.jj hnl
         have hy6:=ht6.slc h.jj hy5
         obtain ⟨sa6,sc6,hb6,_⟩:=hw6.at_
         have ht4:t=3∨t=0∨t=1∨t=2:=by omega
         rcases ht4 with rfl | rfl | rfl | rfl
         · obtain rfl:k=0:=by omega
           simp (maxSteps:=3000000) (disch:=omega) only [push_cast,seval]
           refine (Fr.empty).app (hy6.1.upd (Upd.alloc (F:=fun _=>False)) fun _ h=>h.elim) (by rw [List.length_nil]; omega) ?_
           intro v7 w7 h7 _
           rw [List.nil_append] at h7
           obtain ⟨va7,vc7,rfl,_⟩:=h7.own.form
           have hb7:=hb6.upd h7.upd fun h=>h
           dsimp only at hb7
           have hgi:IntKind.i64.wrap ((gen:Int)+1)=((gen+1:Nat):Int):=by rw [IntKind.wrap_i64]; omega
           replace hrun:runOps d (saveOps sz A b (gen+1))=(d',0):=hrun
           rw [hrun]
           simp (maxSteps:=3000000) (disch:=omega) only [push_cast,seval,hb7.cell,hb7.free]
           have hw7:=hw6.quiet h7.upd
           have hnv:SlC w7 (FF D' J) (.slice va7 b.length vc7) b:=h7.own.slc fun q hq hF=>by
             have:=h7.new q hq
             rcases hF with hF | hF
             · have:=hw6.disk.bd q hF; omega
             · have:=(hw6.sep q hF).2; omega
           obtain ⟨hw9,ht9⟩:=hw7.saved hnv hr 0 (x:=0) (y:=(gen:Int)+1) rfl (by show (gen:Int)+1=((gen+1:Nat):Int); omega)
           exact ⟨rfl,D',hw9,(JT.quiet hu05).trans ((ht6.trans (JT.quiet h7.upd)).trans ht9)⟩
         · obtain rfl:k=3:=by omega
           simp (maxSteps:=3000000) (disch:=omega) only [push_cast,seval,hst6.cell]
           have hu67:Upd (fun _=>False) w6 (((w6.alloc (.cells [.int .i64 0,.slice none 0 0].toArray 203 (0,0))).setCell ⟨w6.heap.size,0,none⟩ (.int .i64 (A:Int))).setCell ⟨w6.heap.size,1,none⟩ (.slice (some ⟨zb,0,none⟩) sz sz)):=
             Upd.alloc.trans ((Upd.set (F:=fun x=>x=w6.heap.size) rfl).setIn rfl) fun x hx e=>by omega
           generalize (((w6.alloc (.cells [.int .i64 0,.slice none 0 0].toArray 203 (0,0))).setCell ⟨w6.heap.size,0,none⟩ (.int .i64 (A:Int))).setCell ⟨w6.heap.size,1,none⟩ (.slice (some ⟨zb,0,none⟩) sz sz))=w7 at *
           have hw7:=hw6.quiet hu67
           have hyy:=(JT.quiet (D:=D') (jb:=cb) hu67).slc h.jj (by rw [List.length_replicate]; exact hz6:SlC w6 (FF D' J) (.slice (some ⟨zb,0,none⟩) (List.replicate sz (0:Int)).length sz) (List.replicate sz 0))
           have ht7:=ht6.trans (JT.quiet (D:=D') (jb:=cb) hu67)
           have hput:=put_ok hw7 hs6 (by omega) (by omega) hz2 (x:=A) (by omega) hyy (by rw [List.length_replicate]; omega) (by rw [hch _ (by simp)]; omega)
           rw [List.length_replicate] at hput
           refine Ok.use hput ?_
           rintro v w8 ⟨rfl,D8,hw8,ht8⟩
           have hs8:=Sz.ops (l:=putOps sz A (List.replicate sz 0)) hs6
           have hlen8:(putOps sz A (List.replicate sz 0)).length≤60001:=by rw [putOps,List.length_append,chL_length,List.length_singleton]; rw [hch _ (by simp)]; omega
           have ht78:=ht7.trans ht8
           replace hrun:runOps d (saveOps sz A b (gen+1))=runOps d' (putOps sz A (List.replicate sz 0) ++ (([putOps sz A (List.replicate sz 0),putOps sz A1 b,putOps sz A (hdrP sz b (gen+1))].drop 1).flatten)):=hrun
           by_cases hc0:(runOps d' (putOps sz A (List.replicate sz 0))).2=0
           · rw [runOps_go hc0] at hrun
             generalize runOps d' (putOps sz A (List.replicate sz 0))=r at *
             obtain ⟨d8,code⟩:=r
             dsimp only at hc0 hw8 hs8 hrun ⊢
             subst hc0
             unfold errV
             simp (maxSteps:=3000000) (disch:=omega) only [push_cast,seval]
             exact ⟨2,by omega,1,d8,D8,by omega,rfl,hw8,ht78,hs8.mono (by omega),hrun⟩
           · rw [runOps_stop hc0] at hrun
             rw [hrun]
             generalize runOps d' (putOps sz A (List.replicate sz 0))=r at *
             obtain ⟨d8,code⟩:=r
             dsimp only at hc0 hw8 hs8 ⊢
             rw [if_neg hc0]
             obtain ⟨hw9,ht9⟩:=hw8.goDown
             obtain ⟨sa8,sc8,hb8,_⟩:=hw8.at_
             dsimp only at hb8
             unfold errV
             simp (maxSteps:=3000000) (disch:=omega) only [push_cast,seval,hb8.cell,hb8.free]
             exact ⟨D8,hw9,(JT.quiet hu05).trans (ht78.trans ht9)⟩
         · obtain rfl:k=2:=by omega
           simp (maxSteps:=3000000) (disch:=omega) only [push_cast,seval,hst6.cell]
           have hu67:Upd (fun _=>False) w6 (((w6.alloc (.cells [.int .i64 0,.slice none 0 0].toArray 203 (0,0))).setCell ⟨w6.heap.size,0,none⟩ (.int .i64 (A1:Int))).setCell ⟨w6.heap.size,1,none⟩ (.slice ya b.length yc)):=
             Upd.alloc.trans ((Upd.set (F:=fun x=>x=w6.heap.size) rfl).setIn rfl) fun x hx e=>by omega
           generalize (((w6.alloc (.cells [.int .i64 0,.slice none 0 0].toArray 203 (0,0))).setCell ⟨w6.heap.size,0,none⟩ (.int .i64 (A1:Int))).setCell ⟨w6.heap.size,1,none⟩ (.slice ya b.length yc))=w7 at *
           have hw7:=hw6.quiet hu67
           have hyy:=(JT.quiet (D:=D') (jb:=cb) hu67).slc h.jj hy6
           have ht7:=ht6.trans (JT.quiet (D:=D') (jb:=cb) hu67)
           have hput:=put_ok hw7 hs6 (by omega) (by omega) hz2 (x:=A1) (by omega) hyy (by omega) (by omega)
           refine Ok.use hput ?_
           rintro v w8 ⟨rfl,D8,hw8,ht8⟩
           have hs8:=Sz.ops (l:=putOps sz A1 (b)) hs6
           have hlen8:(putOps sz A1 (b)).length≤60001:=by rw [putOps,List.length_append,chL_length,List.length_singleton]; omega
           have ht78:=ht7.trans ht8
           replace hrun:runOps d (saveOps sz A b (gen+1))=runOps d' (putOps sz A1 b ++ (([putOps sz A (List.replicate sz 0),putOps sz A1 b,putOps sz A (hdrP sz b (gen+1))].drop 2).flatten)):=hrun
           by_cases hc0:(runOps d' (putOps sz A1 (b))).2=0
           · rw [runOps_go hc0] at hrun
             generalize runOps d' (putOps sz A1 (b))=r at *
             obtain ⟨d8,code⟩:=r
             dsimp only at hc0 hw8 hs8 hrun ⊢
             subst hc0
             unfold errV
             simp (maxSteps:=3000000) (disch:=omega) only [push_cast,seval]
             exact ⟨1,by omega,2,d8,D8,by omega,rfl,hw8,ht78,hs8.mono (by omega),hrun⟩
           · rw [runOps_stop hc0] at hrun
             rw [hrun]
             generalize runOps d' (putOps sz A1 (b))=r at *
             obtain ⟨d8,code⟩:=r
             dsimp only at hc0 hw8 hs8 ⊢
             rw [if_neg hc0]
             obtain ⟨hw9,ht9⟩:=hw8.goDown
             obtain ⟨sa8,sc8,hb8,_⟩:=hw8.at_
             dsimp only at hb8
             unfold errV
             simp (maxSteps:=3000000) (disch:=omega) only [push_cast,seval,hb8.cell,hb8.free]
             exact ⟨D8,hw9,(JT.quiet hu05).trans (ht78.trans ht9)⟩
         · obtain rfl:k=1:=by omega
           simp (maxSteps:=3000000) (disch:=omega) only [push_cast,seval,hst6.cell]
           have hu67:Upd (fun _=>False) w6 (((w6.alloc (.cells [.int .i64 0,.slice none 0 0].toArray 203 (0,0))).setCell ⟨w6.heap.size,0,none⟩ (.int .i64 (A:Int))).setCell ⟨w6.heap.size,1,none⟩ (.slice (some ⟨nb,0,none⟩) sz sz)):=
             Upd.alloc.trans ((Upd.set (F:=fun x=>x=w6.heap.size) rfl).setIn rfl) fun x hx e=>by omega
           generalize (((w6.alloc (.cells [.int .i64 0,.slice none 0 0].toArray 203 (0,0))).setCell ⟨w6.heap.size,0,none⟩ (.int .i64 (A:Int))).setCell ⟨w6.heap.size,1,none⟩ (.slice (some ⟨nb,0,none⟩) sz sz))=w7 at *
           have hw7:=hw6.quiet hu67
           have hyy:=(JT.quiet (D:=D') (jb:=cb) hu67).slc h.jj (by rw [hhl]; exact hn6:SlC w6 (FF D' J) (.slice (some ⟨nb,0,none⟩) (hdrP sz b (gen+1)).length sz) (hdrP sz b (gen+1)))
           have ht7:=ht6.trans (JT.quiet (D:=D') (jb:=cb) hu67)
           have hput:=put_ok hw7 hs6 (by omega) (by omega) hz2 (x:=A) (by omega) hyy (by rw [hhl]; omega) (by rw [hch _ hhl]; omega)
           rw [hhl] at hput
           refine Ok.use hput ?_
           rintro v w8 ⟨rfl,D8,hw8,ht8⟩
           have hs8:=Sz.ops (l:=putOps sz A (hdrP sz b (gen+1))) hs6
           have hlen8:(putOps sz A (hdrP sz b (gen+1))).length≤60001:=by rw [putOps,List.length_append,chL_length,List.length_singleton]; rw [hch _ hhl]; omega
           have ht78:=ht7.trans ht8
           replace hrun:runOps d (saveOps sz A b (gen+1))=runOps d' (putOps sz A (hdrP sz b (gen+1)) ++ (([putOps sz A (List.replicate sz 0),putOps sz A1 b,putOps sz A (hdrP sz b (gen+1))].drop 3).flatten)):=hrun
           by_cases hc0:(runOps d' (putOps sz A (hdrP sz b (gen+1)))).2=0
           · rw [runOps_go hc0] at hrun
             generalize runOps d' (putOps sz A (hdrP sz b (gen+1)))=r at *
             obtain ⟨d8,code⟩:=r
             dsimp only at hc0 hw8 hs8 hrun ⊢
             subst hc0
             unfold errV
             simp (maxSteps:=3000000) (disch:=omega) only [push_cast,seval]
             exact ⟨0,by omega,3,d8,D8,by omega,rfl,hw8,ht78,hs8.mono (by omega),hrun⟩
           · rw [runOps_stop hc0] at hrun
             rw [hrun]
             generalize runOps d' (putOps sz A (hdrP sz b (gen+1)))=r at *
             obtain ⟨d8,code⟩:=r
             dsimp only at hc0 hw8 hs8 ⊢
             rw [if_neg hc0]
             obtain ⟨hw9,ht9⟩:=hw8.goDown
             obtain ⟨sa8,sc8,hb8,_⟩:=hw8.at_
             dsimp only at hb8
             unfold errV
             simp (maxSteps:=3000000) (disch:=omega) only [push_cast,seval,hb8.cell,hb8.free]
             exact ⟨D8,hw9,(JT.quiet hu05).trans (ht78.trans ht9)⟩
       · refine Ok.use (Size_ok hwd.disk) ?_
         rintro v _ ⟨rfl,rfl⟩
         dsimp only
         rw [hsz]
         have hgi3:IntKind.i64.wrap ((gen:Int)+1)=((gen+1:Nat):Int):=by rw [IntKind.wrap_i64]; omega
         have hhd:=header_ok hwd hyd (by omega) (g:=gen+1) (by omega) (by show 44≤d.size; omega) (by show d.size≤_; omega)
         simp (maxSteps:=3000000) (disch:=omega) only [push_cast,seval,hb3.cell,hbd.cell,hgi3]
         have hgc:((gen+1:Nat):Int)=(gen:Int)+1:=by omega
         rw [hgc] at hhd
         refine Ok.use hhd ?_
         rintro v w3 ⟨nb,rfl,hnb0,hge,hu4⟩
         have hhl:(hdrP sz b (gen+1)).length=sz:=hdrP_length hz
         dsimp only at hnb0 ⊢
         unfold CV
         rw [hsz] at hnb0 ⊢
         rw [hhl]
         have hb4:=hbd.upd hu4 fun h=>h
         have hzz:Blk (w3.alloc (.cells (List.replicate sz (Value.int .u8 0)).toArray 5 (0,0))) w3.heap.size (List.replicate sz (Value.int .u8 0)) 5:=Blk.new
         have hal:Upd (fun _=>False) w3 (w3.alloc (.cells (List.replicate sz (Value.int .u8 0)).toArray 5 (0,0))):=Upd.alloc
         have hnb:=hnb0.upd hal fun h=>h
         have hb5:=hb4.upd hal fun h=>h
         have hu0A:Upd (fun _=>False) w (w3.alloc (.cells (List.replicate sz (Value.int .u8 0)).toArray 5 (0,0))):=(hu2d.trans hu4 fun _ _ h=>h).trans hal fun _ _ h=>h
         have hzge:w.heap.size≤w3.heap.size:=(hu2d.trans hu4 fun _ _ h=>h).size
         have hnge:w.heap.size≤nb:=by have:=hu2d.size; omega
         obtain ⟨A1,hA1⟩ : ∃A1,A1=A+1:=⟨_,rfl⟩
         have eA1:(A:Int)+1=(A1:Int):=by omega
         have hnl0:=hnb0.lt
         have hsA:(w3.alloc (.cells (List.replicate sz (Value.int .u8 0)).toArray 5 (0,0))).heap.size=w3.heap.size+1:=size_alloc
         simp (maxSteps:=3000000) (disch:=omega) only [push_cast,seval,hb3.cell,hbd.cell,hb4.cell,hgi3,eA1]
         generalize w3.heap.size=zb at *
         generalize w3.alloc (.cells (List.replicate sz (Value.int .u8 0)).toArray 5 (0,0))=w4 at *
         rw [←hsA]
         clear hsA hhd hwd hyd hb4 hal hu4 hbd hu2d hy2 hb3 hw2 hnb0
         generalize hwA:w4=wA at *
         have hs0A:=hu0A.size
         have hstep:Blk (wA.alloc (.cells [.int .i64 (A:Int),.slice (some ⟨zb,0,none⟩) sz sz,.int .i64 (A1:Int),.slice ya b.length yc,.int .i64 (A:Int),.slice (some ⟨nb,0,none⟩) sz sz].toArray 203 (0,0))) wA.heap.size [.int .i64 (A:Int),.slice (some ⟨zb,0,none⟩) sz sz,.int .i64 (A1:Int),.slice ya b.length yc,.int .i64 (A:Int),.slice (some ⟨nb,0,none⟩) sz sz] 203:=Blk.new
         have hu1:Upd (fun _=>False) wA (wA.alloc (.cells [.int .i64 (A:Int),.slice (some ⟨zb,0,none⟩) sz sz,.int .i64 (A1:Int),.slice ya b.length yc,.int .i64 (A:Int),.slice (some ⟨nb,0,none⟩) sz sz].toArray 203 (0,0))):=Upd.alloc
         have hu05:=hu0A.trans hu1 fun _ _ h=>h
         have hw5:=h.quiet hu05
         have hy5:=hy.upd hu05 fun _ h=>h.elim
         have hz5:=hzz.upd hu1 fun h=>h
         have hn5:=hnb.upd hu1 fun h=>h
         obtain ⟨sb,hsb⟩ : ∃sb,sb=wA.heap.size:=⟨_,rfl⟩
         rw [←hsb] at hstep ⊢
         generalize (wA.alloc (.cells [.int .i64 (A:Int),.slice (some ⟨zb,0,none⟩) sz sz,.int .i64 (A1:Int),.slice ya b.length yc,.int .i64 (A:Int),.slice (some ⟨nb,0,none⟩) sz sz].toArray 203 (0,0)))=w5 at *
         have hFF : ∀q,w.heap.size≤q→¬FF D J q:=fun q hq hh=>hh.elim (fun hd=>by have:=h.disk.bd q hd; omega) fun hj=>by have:=(h.sep q hj).2; omega
         have hzl:SlC w5 (FF D J) (.slice (some ⟨zb,0,none⟩) (List.replicate sz (0:Int)).length sz) (List.replicate sz 0):=⟨slb_blk (by rw [by8_zeros]; exact hz5) (hFF zb hzge),_,_,rfl,by rw [List.length_replicate]; exact Nat.le_refl _⟩
         have hnl:SlC w5 (FF D J) (.slice (some ⟨nb,0,none⟩) (hdrP sz b (gen+1)).length sz) (hdrP sz b (gen+1)):=⟨slb_blk hn5 (hFF nb hnge),_,_,rfl,by rw [hhl]; exact Nat.le_refl _⟩
         rw [List.length_replicate] at hzl
         rw [hhl] at hnl
         have hss : ¬FF D J sb:=hFF sb (by omega)
         clear hz5 hn5 hzz hnb hu1 hb5
         have hch : ∀x:List Int,x.length=sz→nch sz x.length=1:=fun x hx=>by
           rw [hx]; unfold nch; rw [Nat.div_eq_of_lt_le] <;> omega
         have hchb:nch sz b.length≤60000:=by
           unfold nch
           have h1:b.length≤(n-1)*sz:=by rw [hR,hsz] at hroom; omega
           have h2:(b.length+sz-1)/sz≤((n-1)*sz+sz-1)/sz:=Nat.div_le_div_right (by omega)
           have h3:((n-1)*sz+sz-1)/sz<n-1+1:=by
             rw [Nat.div_lt_iff_lt_mul (by omega),Nat.add_mul]; omega
           omega
         obtain ⟨M,hM⟩ : ∃M,M=70000:=⟨_,rfl⟩
         refine loop_inv (I:=fun k st w'=>Bx (∃t d' D',k+t=3∧st = [.int .i64 (t:Int)]∧CW w' D' J p cb (d',⟨first,n,slot,newest,gen,false⟩)∧JT w5 w' D D' cb∧Sz N sz (i+t*M) d'∧runOps d (saveOps sz A b (gen+1))=runOps d' (([putOps sz A (List.replicate sz 0),putOps sz A1 b,putOps sz A (hdrP sz b (gen+1))].drop t).flatten)) ⟨⟩) ?_ 3
           ⟨0,d,D,by omega,rfl,hw5,JT.refl,by simpa using hs,by simp [saveOps,hA1]⟩
         rintro k st w6 ⟨t,d',D',hk,rfl,hw6,ht6,hs6,hrun⟩
         have hst6:=hstep.upd ht6.upd fun hh=>hss (hh.elim .inl fun e=>.inr (by rw [e]; exact h.jj))
         have hz6:=ht6.slc h.jj hzl
         have hn6:=ht6.slc h.jj hnl
         have hy6:=ht6.slc h.jj hy5
         obtain ⟨sa6,sc6,hb6,_⟩:=hw6.at_
         have ht4:t=3∨t=0∨t=1∨t=2:=by omega
         rcases ht4 with rfl | rfl | rfl | rfl
         · obtain rfl:k=0:=by omega
           simp (maxSteps:=3000000) (disch:=omega) only [push_cast,seval]
           refine (Fr.empty).app (hy6.1.upd (Upd.alloc (F:=fun _=>False)) fun _ h=>h.elim) (by rw [List.length_nil]; omega) ?_
           intro v7 w7 h7 _
           rw [List.nil_append] at h7
           obtain ⟨va7,vc7,rfl,_⟩:=h7.own.form
           have hb7:=hb6.upd h7.upd fun h=>h
           dsimp only at hb7
           have hgi:IntKind.i64.wrap ((gen:Int)+1)=((gen+1:Nat):Int):=by rw [IntKind.wrap_i64]; omega
           replace hrun:runOps d (saveOps sz A b (gen+1))=(d',0):=hrun
           rw [hrun]
           simp (maxSteps:=3000000) (disch:=omega) only [push_cast,seval,hb7.cell,hb7.free]
           have hw7:=hw6.quiet h7.upd
           have hnv:SlC w7 (FF D' J) (.slice va7 b.length vc7) b:=h7.own.slc fun q hq hF=>by
             have:=h7.new q hq
             rcases hF with hF | hF
             · have:=hw6.disk.bd q hF; omega
             · have:=(hw6.sep q hF).2; omega
           obtain ⟨hw9,ht9⟩:=hw7.saved hnv hr 0 (x:=0) (y:=(gen:Int)+1) rfl (by show (gen:Int)+1=((gen+1:Nat):Int); omega)
           exact ⟨rfl,D',hw9,(JT.quiet hu05).trans ((ht6.trans (JT.quiet h7.upd)).trans ht9)⟩
         · obtain rfl:k=3:=by omega
           simp (maxSteps:=3000000) (disch:=omega) only [push_cast,seval,hst6.cell]
           have hu67:Upd (fun _=>False) w6 (((w6.alloc (.cells [.int .i64 0,.slice none 0 0].toArray 203 (0,0))).setCell ⟨w6.heap.size,0,none⟩ (.int .i64 (A:Int))).setCell ⟨w6.heap.size,1,none⟩ (.slice (some ⟨zb,0,none⟩) sz sz)):=
             Upd.alloc.trans ((Upd.set (F:=fun x=>x=w6.heap.size) rfl).setIn rfl) fun x hx e=>by omega
           generalize (((w6.alloc (.cells [.int .i64 0,.slice none 0 0].toArray 203 (0,0))).setCell ⟨w6.heap.size,0,none⟩ (.int .i64 (A:Int))).setCell ⟨w6.heap.size,1,none⟩ (.slice (some ⟨zb,0,none⟩) sz sz))=w7 at *
           have hw7:=hw6.quiet hu67
           have hyy:=(JT.quiet (D:=D') (jb:=cb) hu67).slc h.jj (by rw [List.length_replicate]; exact hz6:SlC w6 (FF D' J) (.slice (some ⟨zb,0,none⟩) (List.replicate sz (0:Int)).length sz) (List.replicate sz 0))
           have ht7:=ht6.trans (JT.quiet (D:=D') (jb:=cb) hu67)
           have hput:=put_ok hw7 hs6 (by omega) (by omega) hz2 (x:=A) (by omega) hyy (by rw [List.length_replicate]; omega) (by rw [hch _ (by simp)]; omega)
           rw [List.length_replicate] at hput
           refine Ok.use hput ?_
           rintro v w8 ⟨rfl,D8,hw8,ht8⟩
           have hs8:=Sz.ops (l:=putOps sz A (List.replicate sz 0)) hs6
           have hlen8:(putOps sz A (List.replicate sz 0)).length≤60001:=by rw [putOps,List.length_append,chL_length,List.length_singleton]; rw [hch _ (by simp)]; omega
           have ht78:=ht7.trans ht8
           replace hrun:runOps d (saveOps sz A b (gen+1))=runOps d' (putOps sz A (List.replicate sz 0) ++ (([putOps sz A (List.replicate sz 0),putOps sz A1 b,putOps sz A (hdrP sz b (gen+1))].drop 1).flatten)):=hrun
           by_cases hc0:(runOps d' (putOps sz A (List.replicate sz 0))).2=0
           · rw [runOps_go hc0] at hrun
             generalize runOps d' (putOps sz A (List.replicate sz 0))=r at *
             obtain ⟨d8,code⟩:=r
             dsimp only at hc0 hw8 hs8 hrun ⊢
             subst hc0
             unfold errV
             simp (maxSteps:=3000000) (disch:=omega) only [push_cast,seval]
             exact ⟨2,by omega,1,d8,D8,by omega,rfl,hw8,ht78,hs8.mono (by omega),hrun⟩
           · rw [runOps_stop hc0] at hrun
             rw [hrun]
             generalize runOps d' (putOps sz A (List.replicate sz 0))=r at *
             obtain ⟨d8,code⟩:=r
             dsimp only at hc0 hw8 hs8 ⊢
             rw [if_neg hc0]
             obtain ⟨hw9,ht9⟩:=hw8.goDown
             obtain ⟨sa8,sc8,hb8,_⟩:=hw8.at_
             dsimp only at hb8
             unfold errV
             simp (maxSteps:=3000000) (disch:=omega) only [push_cast,seval,hb8.cell,hb8.free]
             exact ⟨D8,hw9,(JT.quiet hu05).trans (ht78.trans ht9)⟩
         · obtain rfl:k=2:=by omega
           simp (maxSteps:=3000000) (disch:=omega) only [push_cast,seval,hst6.cell]
           have hu67:Upd (fun _=>False) w6 (((w6.alloc (.cells [.int .i64 0,.slice none 0 0].toArray 203 (0,0))).setCell ⟨w6.heap.size,0,none⟩ (.int .i64 (A1:Int))).setCell ⟨w6.heap.size,1,none⟩ (.slice ya b.length yc)):=
             Upd.alloc.trans ((Upd.set (F:=fun x=>x=w6.heap.size) rfl).setIn rfl) fun x hx e=>by omega
           generalize (((w6.alloc (.cells [.int .i64 0,.slice none 0 0].toArray 203 (0,0))).setCell ⟨w6.heap.size,0,none⟩ (.int .i64 (A1:Int))).setCell ⟨w6.heap.size,1,none⟩ (.slice ya b.length yc))=w7 at *
           have hw7:=hw6.quiet hu67
           have hyy:=(JT.quiet (D:=D') (jb:=cb) hu67).slc h.jj hy6
           have ht7:=ht6.trans (JT.quiet (D:=D') (jb:=cb) hu67)
           have hput:=put_ok hw7 hs6 (by omega) (by omega) hz2 (x:=A1) (by omega) hyy (by omega) (by omega)
           refine Ok.use hput ?_
           rintro v w8 ⟨rfl,D8,hw8,ht8⟩
           have hs8:=Sz.ops (l:=putOps sz A1 (b)) hs6
           have hlen8:(putOps sz A1 (b)).length≤60001:=by rw [putOps,List.length_append,chL_length,List.length_singleton]; omega
           have ht78:=ht7.trans ht8
           replace hrun:runOps d (saveOps sz A b (gen+1))=runOps d' (putOps sz A1 b ++ (([putOps sz A (List.replicate sz 0),putOps sz A1 b,putOps sz A (hdrP sz b (gen+1))].drop 2).flatten)):=hrun
           by_cases hc0:(runOps d' (putOps sz A1 (b))).2=0
           · rw [runOps_go hc0] at hrun
             generalize runOps d' (putOps sz A1 (b))=r at *
             obtain ⟨d8,code⟩:=r
             dsimp only at hc0 hw8 hs8 hrun ⊢
             subst hc0
             unfold errV
             simp (maxSteps:=3000000) (disch:=omega) only [push_cast,seval]
             exact ⟨1,by omega,2,d8,D8,by omega,rfl,hw8,ht78,hs8.mono (by omega),hrun⟩
           · rw [runOps_stop hc0] at hrun
             rw [hrun]
             generalize runOps d' (putOps sz A1 (b))=r at *
             obtain ⟨d8,code⟩:=r
             dsimp only at hc0 hw8 hs8 ⊢
             rw [if_neg hc0]
             obtain ⟨hw9,ht9⟩:=hw8.goDown
             obtain ⟨sa8,sc8,hb8,_⟩:=hw8.at_
             dsimp only at hb8
             unfold errV
             simp (maxSteps:=3000000) (disch:=omega) only [push_cast,seval,hb8.cell,hb8.free]
             exact ⟨D8,hw9,(JT.quiet hu05).trans (ht78.trans ht9)⟩
         · obtain rfl:k=1:=by omega
           simp (maxSteps:=3000000) (disch:=omega) only [push_cast,seval,hst6.cell]
           have hu67:Upd (fun _=>False) w6 (((w6.alloc (.cells [.int .i64 0,.slice none 0 0].toArray 203 (0,0))).setCell ⟨w6.heap.size,0,none⟩ (.int .i64 (A:Int))).setCell ⟨w6.heap.size,1,none⟩ (.slice (some ⟨nb,0,none⟩) sz sz)):=
             Upd.alloc.trans ((Upd.set (F:=fun x=>x=w6.heap.size) rfl).setIn rfl) fun x hx e=>by omega
           generalize (((w6.alloc (.cells [.int .i64 0,.slice none 0 0].toArray 203 (0,0))).setCell ⟨w6.heap.size,0,none⟩ (.int .i64 (A:Int))).setCell ⟨w6.heap.size,1,none⟩ (.slice (some ⟨nb,0,none⟩) sz sz))=w7 at *
           have hw7:=hw6.quiet hu67
           have hyy:=(JT.quiet (D:=D') (jb:=cb) hu67).slc h.jj (by rw [hhl]; exact hn6:SlC w6 (FF D' J) (.slice (some ⟨nb,0,none⟩) (hdrP sz b (gen+1)).length sz) (hdrP sz b (gen+1)))
           have ht7:=ht6.trans (JT.quiet (D:=D') (jb:=cb) hu67)
           have hput:=put_ok hw7 hs6 (by omega) (by omega) hz2 (x:=A) (by omega) hyy (by rw [hhl]; omega) (by rw [hch _ hhl]; omega)
           rw [hhl] at hput
           refine Ok.use hput ?_
           rintro v w8 ⟨rfl,D8,hw8,ht8⟩
           have hs8:=Sz.ops (l:=putOps sz A (hdrP sz b (gen+1))) hs6
           have hlen8:(putOps sz A (hdrP sz b (gen+1))).length≤60001:=by rw [putOps,List.length_append,chL_length,List.length_singleton]; rw [hch _ hhl]; omega
           have ht78:=ht7.trans ht8
           replace hrun:runOps d (saveOps sz A b (gen+1))=runOps d' (putOps sz A (hdrP sz b (gen+1)) ++ (([putOps sz A (List.replicate sz 0),putOps sz A1 b,putOps sz A (hdrP sz b (gen+1))].drop 3).flatten)):=hrun
           by_cases hc0:(runOps d' (putOps sz A (hdrP sz b (gen+1)))).2=0
           · rw [runOps_go hc0] at hrun
             generalize runOps d' (putOps sz A (hdrP sz b (gen+1)))=r at *
             obtain ⟨d8,code⟩:=r
             dsimp only at hc0 hw8 hs8 hrun ⊢
             subst hc0
             unfold errV
             simp (maxSteps:=3000000) (disch:=omega) only [push_cast,seval]
             exact ⟨0,by omega,3,d8,D8,by omega,rfl,hw8,ht78,hs8.mono (by omega),hrun⟩
           · rw [runOps_stop hc0] at hrun
             rw [hrun]
             generalize runOps d' (putOps sz A (hdrP sz b (gen+1)))=r at *
             obtain ⟨d8,code⟩:=r
             dsimp only at hc0 hw8 hs8 ⊢
             rw [if_neg hc0]
             obtain ⟨hw9,ht9⟩:=hw8.goDown
             obtain ⟨sa8,sc8,hb8,_⟩:=hw8.at_
             dsimp only at hb8
             unfold errV
             simp (maxSteps:=3000000) (disch:=omega) only [push_cast,seval,hb8.cell,hb8.free]
             exact ⟨D8,hw9,(JT.quiet hu05).trans (ht78.trans ht9)⟩
     · have hgp:(0:Int)<(gen:Int):=by omega
       have hsi : ¬(slot:Int)=0:=by omega
       simp (maxSteps:=3000000) (disch:=omega) only [push_cast,seval,hb2.cell,hgp,hsi]
       refine Ok.use (hst 0 (by omega)) ?_
       rintro v w2 ⟨rfl,hu2⟩
       have hA:first+0*n≤120000:=by omega
       generalize first+0*n=A at *
       have hw2:=hw1.quiet hu2
       have hu02:=hu1.trans hu2 fun _ _ h=>h
       have hb3:=hb2.upd hu2 fun h=>h
       have hy2:=hy.upd hu02 fun _ h=>h.elim
       simp (maxSteps:=3000000) (disch:=omega) only [push_cast,seval,hb3.cell]
       have hu2d:Upd (fun _=>False) w w2.drew:=hu02.drew'
       have hwd:=h.quiet hu2d
       have hyd:=hy.upd hu2d fun _ h=>h.elim
       have hbd:=hb3.drew
       generalize w2.drew=w2d at *
       refine ⟨fun _=>?_,fun _=>?_⟩
       · refine Ok.use (Size_ok hwd.disk) ?_
         rintro v _ ⟨rfl,rfl⟩
         dsimp only
         rw [hsz]
         have hnz:Blk (w2d.alloc (.cells (List.replicate sz (Value.int .u8 0)).toArray 5 (0,0))) w2d.heap.size (List.replicate sz (Value.int .u8 0)) 5:=Blk.new
         have hal:Upd (fun _=>False) w2d (w2d.alloc (.cells (List.replicate sz (Value.int .u8 0)).toArray 5 (0,0))):=Upd.alloc
         simp (maxSteps:=3000000) (disch:=omega) only [push_cast,seval,hb3.cell,hbd.cell]
         have hw3:=hwd.quiet hal
         have hy3:=hyd.upd hal fun _ h=>h.elim
         have hb4:=hbd.upd hal fun h=>h
         have hs3:=hal.size
         have hgi3:IntKind.i64.wrap ((gen:Int)+1)=((gen+1:Nat):Int):=by rw [IntKind.wrap_i64]; omega
         have hnzl:=hnz.lt
         generalize (w2d.alloc (.cells (List.replicate sz (Value.int .u8 0)).toArray 5 (0,0)))=w3 at *
         have hhd:=header_ok hw3 hy3 (by omega) (g:=gen+1) (by omega) (by show 44≤d.size; omega) (by show d.size≤_; omega)
         simp (maxSteps:=3000000) (disch:=omega) only [push_cast,seval,hb3.cell,hbd.cell,hb4.cell,hgi3]
         have hgc:((gen+1:Nat):Int)=(gen:Int)+1:=by omega
         rw [hgc] at hhd
         refine Ok.use hhd ?_
         rintro v w4 ⟨nb,rfl,hnb,hge,hu4⟩
         have hhl:(hdrP sz b (gen+1)).length=sz:=hdrP_length hz
         dsimp only at hnb ⊢
         unfold CV
         rw [hsz] at hnb ⊢
         rw [hhl]
         have hb5:=hb4.upd hu4 fun h=>h
         have hzz:=hnz.upd hu4 fun h=>h
         have hu0A:Upd (fun _=>False) w w4:=(hu2d.trans hal fun _ _ h=>h).trans hu4 fun _ _ h=>h
         have hzge:w.heap.size≤w2d.heap.size:=hu2d.size
         have hnge:w.heap.size≤nb:=by omega
         obtain ⟨A1,hA1⟩ : ∃A1,A1=A+1:=⟨_,rfl⟩
         have eA1:(A:Int)+1=(A1:Int):=by omega
         simp (maxSteps:=3000000) (disch:=omega) only [push_cast,seval,hb3.cell,hbd.cell,hb4.cell,hb5.cell,hgi3,eA1]
         generalize w2d.heap.size=zb at *
         clear hhd hw3 hy3 hb4 hnzl hal hu4 hwd hyd hbd hu2d hy2 hb3 hw2 hnz
         generalize hwA:w4=wA at *
         have hs0A:=hu0A.size
         have hstep:Blk (wA.alloc (.cells [.int .i64 (A:Int),.slice (some ⟨zb,0,none⟩) sz sz,.int .i64 (A1:Int),.slice ya b.length yc,.int .i64 (A:Int),.slice (some ⟨nb,0,none⟩) sz sz].toArray 203 (0,0))) wA.heap.size [.int .i64 (A:Int),.slice (some ⟨zb,0,none⟩) sz sz,.int .i64 (A1:Int),.slice ya b.length yc,.int .i64 (A:Int),.slice (some ⟨nb,0,none⟩) sz sz] 203:=Blk.new
         have hu1:Upd (fun _=>False) wA (wA.alloc (.cells [.int .i64 (A:Int),.slice (some ⟨zb,0,none⟩) sz sz,.int .i64 (A1:Int),.slice ya b.length yc,.int .i64 (A:Int),.slice (some ⟨nb,0,none⟩) sz sz].toArray 203 (0,0))):=Upd.alloc
         have hu05:=hu0A.trans hu1 fun _ _ h=>h
         have hw5:=h.quiet hu05
         have hy5:=hy.upd hu05 fun _ h=>h.elim
         have hz5:=hzz.upd hu1 fun h=>h
         have hn5:=hnb.upd hu1 fun h=>h
         obtain ⟨sb,hsb⟩ : ∃sb,sb=wA.heap.size:=⟨_,rfl⟩
         rw [←hsb] at hstep ⊢
         generalize (wA.alloc (.cells [.int .i64 (A:Int),.slice (some ⟨zb,0,none⟩) sz sz,.int .i64 (A1:Int),.slice ya b.length yc,.int .i64 (A:Int),.slice (some ⟨nb,0,none⟩) sz sz].toArray 203 (0,0)))=w5 at *
         have hFF : ∀q,w.heap.size≤q→¬FF D J q:=fun q hq hh=>hh.elim (fun hd=>by have:=h.disk.bd q hd; omega) fun hj=>by have:=(h.sep q hj).2; omega
         have hzl:SlC w5 (FF D J) (.slice (some ⟨zb,0,none⟩) (List.replicate sz (0:Int)).length sz) (List.replicate sz 0):=⟨slb_blk (by rw [by8_zeros]; exact hz5) (hFF zb hzge),_,_,rfl,by rw [List.length_replicate]; exact Nat.le_refl _⟩
         have hnl:SlC w5 (FF D J) (.slice (some ⟨nb,0,none⟩) (hdrP sz b (gen+1)).length sz) (hdrP sz b (gen+1)):=⟨slb_blk hn5 (hFF nb hnge),_,_,rfl,by rw [hhl]; exact Nat.le_refl _⟩
         rw [List.length_replicate] at hzl
         rw [hhl] at hnl
         have hss : ¬FF D J sb:=hFF sb (by omega)
         clear hz5 hn5 hzz hnb hu1 hb5
         have hch : ∀x:List Int,x.length=sz→nch sz x.length=1:=fun x hx=>by
           rw [hx]; unfold nch; rw [Nat.div_eq_of_lt_le] <;> omega
         have hchb:nch sz b.length≤60000:=by
           unfold nch
           have h1:b.length≤(n-1)*sz:=by rw [hR,hsz] at hroom; omega
           have h2:(b.length+sz-1)/sz≤((n-1)*sz+sz-1)/sz:=Nat.div_le_div_right (by omega)
           have h3:((n-1)*sz+sz-1)/sz<n-1+1:=by
             rw [Nat.div_lt_iff_lt_mul (by omega),Nat.add_mul]; omega
           omega
         obtain ⟨M,hM⟩ : ∃M,M=70000:=⟨_,rfl⟩
         refine loop_inv (I:=fun k st w'=>Bx (∃t d' D',k+t=3∧st = [.int .i64 (t:Int)]∧CW w' D' J p cb (d',⟨first,n,slot,newest,gen,false⟩)∧JT w5 w' D D' cb∧Sz N sz (i+t*M) d'∧runOps d (saveOps sz A b (gen+1))=runOps d' (([putOps sz A (List.replicate sz 0),putOps sz A1 b,putOps sz A (hdrP sz b (gen+1))].drop t).flatten)) ⟨⟩) ?_ 3
           ⟨0,d,D,by omega,rfl,hw5,JT.refl,by simpa using hs,by simp [saveOps,hA1]⟩
         rintro k st w6 ⟨t,d',D',hk,rfl,hw6,ht6,hs6,hrun⟩
         have hst6:=hstep.upd ht6.upd fun hh=>hss (hh.elim .inl fun e=>.inr (by rw [e]; exact h.jj))
         have hz6:=ht6.slc h.jj hzl
         have hn6:=ht6.slc h.jj hnl
         have hy6:=ht6.slc h.jj hy5
         obtain ⟨sa6,sc6,hb6,_⟩:=hw6.at_
         have ht4:t=3∨t=0∨t=1∨t=2:=by omega
         rcases ht4 with rfl | rfl | rfl | rfl
         · obtain rfl:k=0:=by omega
           simp (maxSteps:=3000000) (disch:=omega) only [push_cast,seval]
           refine (Fr.empty).app (hy6.1.upd (Upd.alloc (F:=fun _=>False)) fun _ h=>h.elim) (by rw [List.length_nil]; omega) ?_
           intro v7 w7 h7 _
           rw [List.nil_append] at h7
           obtain ⟨va7,vc7,rfl,_⟩:=h7.own.form
           have hb7:=hb6.upd h7.upd fun h=>h
           dsimp only at hb7
           have hgi:IntKind.i64.wrap ((gen:Int)+1)=((gen+1:Nat):Int):=by rw [IntKind.wrap_i64]; omega
           replace hrun:runOps d (saveOps sz A b (gen+1))=(d',0):=hrun
           rw [hrun]
           simp (maxSteps:=3000000) (disch:=omega) only [push_cast,seval,hb7.cell,hb7.free]
           have hw7:=hw6.quiet h7.upd
           have hnv:SlC w7 (FF D' J) (.slice va7 b.length vc7) b:=h7.own.slc fun q hq hF=>by
             have:=h7.new q hq
             rcases hF with hF | hF
             · have:=hw6.disk.bd q hF; omega
             · have:=(hw6.sep q hF).2; omega
           obtain ⟨hw9,ht9⟩:=hw7.saved hnv hr 0 (x:=0) (y:=(gen:Int)+1) rfl (by show (gen:Int)+1=((gen+1:Nat):Int); omega)
           exact ⟨rfl,D',hw9,(JT.quiet hu05).trans ((ht6.trans (JT.quiet h7.upd)).trans ht9)⟩
         · obtain rfl:k=3:=by omega
           simp (maxSteps:=3000000) (disch:=omega) only [push_cast,seval,hst6.cell]
           have hu67:Upd (fun _=>False) w6 (((w6.alloc (.cells [.int .i64 0,.slice none 0 0].toArray 203 (0,0))).setCell ⟨w6.heap.size,0,none⟩ (.int .i64 (A:Int))).setCell ⟨w6.heap.size,1,none⟩ (.slice (some ⟨zb,0,none⟩) sz sz)):=
             Upd.alloc.trans ((Upd.set (F:=fun x=>x=w6.heap.size) rfl).setIn rfl) fun x hx e=>by omega
           generalize (((w6.alloc (.cells [.int .i64 0,.slice none 0 0].toArray 203 (0,0))).setCell ⟨w6.heap.size,0,none⟩ (.int .i64 (A:Int))).setCell ⟨w6.heap.size,1,none⟩ (.slice (some ⟨zb,0,none⟩) sz sz))=w7 at *
           have hw7:=hw6.quiet hu67
           have hyy:=(JT.quiet (D:=D') (jb:=cb) hu67).slc h.jj (by rw [List.length_replicate]; exact hz6:SlC w6 (FF D' J) (.slice (some ⟨zb,0,none⟩) (List.replicate sz (0:Int)).length sz) (List.replicate sz 0))
           have ht7:=ht6.trans (JT.quiet (D:=D') (jb:=cb) hu67)
           have hput:=put_ok hw7 hs6 (by omega) (by omega) hz2 (x:=A) (by omega) hyy (by rw [List.length_replicate]; omega) (by rw [hch _ (by simp)]; omega)
           rw [List.length_replicate] at hput
           refine Ok.use hput ?_
           rintro v w8 ⟨rfl,D8,hw8,ht8⟩
           have hs8:=Sz.ops (l:=putOps sz A (List.replicate sz 0)) hs6
           have hlen8:(putOps sz A (List.replicate sz 0)).length≤60001:=by rw [putOps,List.length_append,chL_length,List.length_singleton]; rw [hch _ (by simp)]; omega
           have ht78:=ht7.trans ht8
           replace hrun:runOps d (saveOps sz A b (gen+1))=runOps d' (putOps sz A (List.replicate sz 0) ++ (([putOps sz A (List.replicate sz 0),putOps sz A1 b,putOps sz A (hdrP sz b (gen+1))].drop 1).flatten)):=hrun
           by_cases hc0:(runOps d' (putOps sz A (List.replicate sz 0))).2=0
           · rw [runOps_go hc0] at hrun
             generalize runOps d' (putOps sz A (List.replicate sz 0))=r at *
             obtain ⟨d8,code⟩:=r
             dsimp only at hc0 hw8 hs8 hrun ⊢
             subst hc0
             unfold errV
             simp (maxSteps:=3000000) (disch:=omega) only [push_cast,seval]
             exact ⟨2,by omega,1,d8,D8,by omega,rfl,hw8,ht78,hs8.mono (by omega),hrun⟩
           · rw [runOps_stop hc0] at hrun
             rw [hrun]
             generalize runOps d' (putOps sz A (List.replicate sz 0))=r at *
             obtain ⟨d8,code⟩:=r
             dsimp only at hc0 hw8 hs8 ⊢
             rw [if_neg hc0]
             obtain ⟨hw9,ht9⟩:=hw8.goDown
             obtain ⟨sa8,sc8,hb8,_⟩:=hw8.at_
             dsimp only at hb8
             unfold errV
             simp (maxSteps:=3000000) (disch:=omega) only [push_cast,seval,hb8.cell,hb8.free]
             exact ⟨D8,hw9,(JT.quiet hu05).trans (ht78.trans ht9)⟩
         · obtain rfl:k=2:=by omega
           simp (maxSteps:=3000000) (disch:=omega) only [push_cast,seval,hst6.cell]
           have hu67:Upd (fun _=>False) w6 (((w6.alloc (.cells [.int .i64 0,.slice none 0 0].toArray 203 (0,0))).setCell ⟨w6.heap.size,0,none⟩ (.int .i64 (A1:Int))).setCell ⟨w6.heap.size,1,none⟩ (.slice ya b.length yc)):=
             Upd.alloc.trans ((Upd.set (F:=fun x=>x=w6.heap.size) rfl).setIn rfl) fun x hx e=>by omega
           generalize (((w6.alloc (.cells [.int .i64 0,.slice none 0 0].toArray 203 (0,0))).setCell ⟨w6.heap.size,0,none⟩ (.int .i64 (A1:Int))).setCell ⟨w6.heap.size,1,none⟩ (.slice ya b.length yc))=w7 at *
           have hw7:=hw6.quiet hu67
           have hyy:=(JT.quiet (D:=D') (jb:=cb) hu67).slc h.jj hy6
           have ht7:=ht6.trans (JT.quiet (D:=D') (jb:=cb) hu67)
           have hput:=put_ok hw7 hs6 (by omega) (by omega) hz2 (x:=A1) (by omega) hyy (by omega) (by omega)
           refine Ok.use hput ?_
           rintro v w8 ⟨rfl,D8,hw8,ht8⟩
           have hs8:=Sz.ops (l:=putOps sz A1 (b)) hs6
           have hlen8:(putOps sz A1 (b)).length≤60001:=by rw [putOps,List.length_append,chL_length,List.length_singleton]; omega
           have ht78:=ht7.trans ht8
           replace hrun:runOps d (saveOps sz A b (gen+1))=runOps d' (putOps sz A1 b ++ (([putOps sz A (List.replicate sz 0),putOps sz A1 b,putOps sz A (hdrP sz b (gen+1))].drop 2).flatten)):=hrun
           by_cases hc0:(runOps d' (putOps sz A1 (b))).2=0
           · rw [runOps_go hc0] at hrun
             generalize runOps d' (putOps sz A1 (b))=r at *
             obtain ⟨d8,code⟩:=r
             dsimp only at hc0 hw8 hs8 hrun ⊢
             subst hc0
             unfold errV
             simp (maxSteps:=3000000) (disch:=omega) only [push_cast,seval]
             exact ⟨1,by omega,2,d8,D8,by omega,rfl,hw8,ht78,hs8.mono (by omega),hrun⟩
           · rw [runOps_stop hc0] at hrun
             rw [hrun]
             generalize runOps d' (putOps sz A1 (b))=r at *
             obtain ⟨d8,code⟩:=r
             dsimp only at hc0 hw8 hs8 ⊢
             rw [if_neg hc0]
             obtain ⟨hw9,ht9⟩:=hw8.goDown
             obtain ⟨sa8,sc8,hb8,_⟩:=hw8.at_
             dsimp only at hb8
             unfold errV
             simp (maxSteps:=3000000) (disch:=omega) only [push_cast,seval,hb8.cell,hb8.free]
             exact ⟨D8,hw9,(JT.quiet hu05).trans (ht78.trans ht9)⟩
         · obtain rfl:k=1:=by omega
           simp (maxSteps:=3000000) (disch:=omega) only [push_cast,seval,hst6.cell]
           have hu67:Upd (fun _=>False) w6 (((w6.alloc (.cells [.int .i64 0,.slice none 0 0].toArray 203 (0,0))).setCell ⟨w6.heap.size,0,none⟩ (.int .i64 (A:Int))).setCell ⟨w6.heap.size,1,none⟩ (.slice (some ⟨nb,0,none⟩) sz sz)):=
             Upd.alloc.trans ((Upd.set (F:=fun x=>x=w6.heap.size) rfl).setIn rfl) fun x hx e=>by omega
           generalize (((w6.alloc (.cells [.int .i64 0,.slice none 0 0].toArray 203 (0,0))).setCell ⟨w6.heap.size,0,none⟩ (.int .i64 (A:Int))).setCell ⟨w6.heap.size,1,none⟩ (.slice (some ⟨nb,0,none⟩) sz sz))=w7 at *
           have hw7:=hw6.quiet hu67
           have hyy:=(JT.quiet (D:=D') (jb:=cb) hu67).slc h.jj (by rw [hhl]; exact hn6:SlC w6 (FF D' J) (.slice (some ⟨nb,0,none⟩) (hdrP sz b (gen+1)).length sz) (hdrP sz b (gen+1)))
           have ht7:=ht6.trans (JT.quiet (D:=D') (jb:=cb) hu67)
           have hput:=put_ok hw7 hs6 (by omega) (by omega) hz2 (x:=A) (by omega) hyy (by rw [hhl]; omega) (by rw [hch _ hhl]; omega)
           rw [hhl] at hput
           refine Ok.use hput ?_
           rintro v w8 ⟨rfl,D8,hw8,ht8⟩
           have hs8:=Sz.ops (l:=putOps sz A (hdrP sz b (gen+1))) hs6
           have hlen8:(putOps sz A (hdrP sz b (gen+1))).length≤60001:=by rw [putOps,List.length_append,chL_length,List.length_singleton]; rw [hch _ hhl]; omega
           have ht78:=ht7.trans ht8
           replace hrun:runOps d (saveOps sz A b (gen+1))=runOps d' (putOps sz A (hdrP sz b (gen+1)) ++ (([putOps sz A (List.replicate sz 0),putOps sz A1 b,putOps sz A (hdrP sz b (gen+1))].drop 3).flatten)):=hrun
           by_cases hc0:(runOps d' (putOps sz A (hdrP sz b (gen+1)))).2=0
           · rw [runOps_go hc0] at hrun
             generalize runOps d' (putOps sz A (hdrP sz b (gen+1)))=r at *
             obtain ⟨d8,code⟩:=r
             dsimp only at hc0 hw8 hs8 hrun ⊢
             subst hc0
             unfold errV
             simp (maxSteps:=3000000) (disch:=omega) only [push_cast,seval]
             exact ⟨0,by omega,3,d8,D8,by omega,rfl,hw8,ht78,hs8.mono (by omega),hrun⟩
           · rw [runOps_stop hc0] at hrun
             rw [hrun]
             generalize runOps d' (putOps sz A (hdrP sz b (gen+1)))=r at *
             obtain ⟨d8,code⟩:=r
             dsimp only at hc0 hw8 hs8 ⊢
             rw [if_neg hc0]
             obtain ⟨hw9,ht9⟩:=hw8.goDown
             obtain ⟨sa8,sc8,hb8,_⟩:=hw8.at_
             dsimp only at hb8
             unfold errV
             simp (maxSteps:=3000000) (disch:=omega) only [push_cast,seval,hb8.cell,hb8.free]
             exact ⟨D8,hw9,(JT.quiet hu05).trans (ht78.trans ht9)⟩
       · refine Ok.use (Size_ok hwd.disk) ?_
         rintro v _ ⟨rfl,rfl⟩
         dsimp only
         rw [hsz]
         have hgi3:IntKind.i64.wrap ((gen:Int)+1)=((gen+1:Nat):Int):=by rw [IntKind.wrap_i64]; omega
         have hhd:=header_ok hwd hyd (by omega) (g:=gen+1) (by omega) (by show 44≤d.size; omega) (by show d.size≤_; omega)
         simp (maxSteps:=3000000) (disch:=omega) only [push_cast,seval,hb3.cell,hbd.cell,hgi3]
         have hgc:((gen+1:Nat):Int)=(gen:Int)+1:=by omega
         rw [hgc] at hhd
         refine Ok.use hhd ?_
         rintro v w3 ⟨nb,rfl,hnb0,hge,hu4⟩
         have hhl:(hdrP sz b (gen+1)).length=sz:=hdrP_length hz
         dsimp only at hnb0 ⊢
         unfold CV
         rw [hsz] at hnb0 ⊢
         rw [hhl]
         have hb4:=hbd.upd hu4 fun h=>h
         have hzz:Blk (w3.alloc (.cells (List.replicate sz (Value.int .u8 0)).toArray 5 (0,0))) w3.heap.size (List.replicate sz (Value.int .u8 0)) 5:=Blk.new
         have hal:Upd (fun _=>False) w3 (w3.alloc (.cells (List.replicate sz (Value.int .u8 0)).toArray 5 (0,0))):=Upd.alloc
         have hnb:=hnb0.upd hal fun h=>h
         have hb5:=hb4.upd hal fun h=>h
         have hu0A:Upd (fun _=>False) w (w3.alloc (.cells (List.replicate sz (Value.int .u8 0)).toArray 5 (0,0))):=(hu2d.trans hu4 fun _ _ h=>h).trans hal fun _ _ h=>h
         have hzge:w.heap.size≤w3.heap.size:=(hu2d.trans hu4 fun _ _ h=>h).size
         have hnge:w.heap.size≤nb:=by have:=hu2d.size; omega
         obtain ⟨A1,hA1⟩ : ∃A1,A1=A+1:=⟨_,rfl⟩
         have eA1:(A:Int)+1=(A1:Int):=by omega
         have hnl0:=hnb0.lt
         have hsA:(w3.alloc (.cells (List.replicate sz (Value.int .u8 0)).toArray 5 (0,0))).heap.size=w3.heap.size+1:=size_alloc
         simp (maxSteps:=3000000) (disch:=omega) only [push_cast,seval,hb3.cell,hbd.cell,hb4.cell,hgi3,eA1]
         generalize w3.heap.size=zb at *
         generalize w3.alloc (.cells (List.replicate sz (Value.int .u8 0)).toArray 5 (0,0))=w4 at *
         rw [←hsA]
         clear hsA hhd hwd hyd hb4 hal hu4 hbd hu2d hy2 hb3 hw2 hnb0
         generalize hwA:w4=wA at *
         have hs0A:=hu0A.size
         have hstep:Blk (wA.alloc (.cells [.int .i64 (A:Int),.slice (some ⟨zb,0,none⟩) sz sz,.int .i64 (A1:Int),.slice ya b.length yc,.int .i64 (A:Int),.slice (some ⟨nb,0,none⟩) sz sz].toArray 203 (0,0))) wA.heap.size [.int .i64 (A:Int),.slice (some ⟨zb,0,none⟩) sz sz,.int .i64 (A1:Int),.slice ya b.length yc,.int .i64 (A:Int),.slice (some ⟨nb,0,none⟩) sz sz] 203:=Blk.new
         have hu1:Upd (fun _=>False) wA (wA.alloc (.cells [.int .i64 (A:Int),.slice (some ⟨zb,0,none⟩) sz sz,.int .i64 (A1:Int),.slice ya b.length yc,.int .i64 (A:Int),.slice (some ⟨nb,0,none⟩) sz sz].toArray 203 (0,0))):=Upd.alloc
         have hu05:=hu0A.trans hu1 fun _ _ h=>h
         have hw5:=h.quiet hu05
         have hy5:=hy.upd hu05 fun _ h=>h.elim
         have hz5:=hzz.upd hu1 fun h=>h
         have hn5:=hnb.upd hu1 fun h=>h
         obtain ⟨sb,hsb⟩ : ∃sb,sb=wA.heap.size:=⟨_,rfl⟩
         rw [←hsb] at hstep ⊢
         generalize (wA.alloc (.cells [.int .i64 (A:Int),.slice (some ⟨zb,0,none⟩) sz sz,.int .i64 (A1:Int),.slice ya b.length yc,.int .i64 (A:Int),.slice (some ⟨nb,0,none⟩) sz sz].toArray 203 (0,0)))=w5 at *
         have hFF : ∀q,w.heap.size≤q→¬FF D J q:=fun q hq hh=>hh.elim (fun hd=>by have:=h.disk.bd q hd; omega) fun hj=>by have:=(h.sep q hj).2; omega
         have hzl:SlC w5 (FF D J) (.slice (some ⟨zb,0,none⟩) (List.replicate sz (0:Int)).length sz) (List.replicate sz 0):=⟨slb_blk (by rw [by8_zeros]; exact hz5) (hFF zb hzge),_,_,rfl,by rw [List.length_replicate]; exact Nat.le_refl _⟩
         have hnl:SlC w5 (FF D J) (.slice (some ⟨nb,0,none⟩) (hdrP sz b (gen+1)).length sz) (hdrP sz b (gen+1)):=⟨slb_blk hn5 (hFF nb hnge),_,_,rfl,by rw [hhl]; exact Nat.le_refl _⟩
         rw [List.length_replicate] at hzl
         rw [hhl] at hnl
         have hss : ¬FF D J sb:=hFF sb (by omega)
         clear hz5 hn5 hzz hnb hu1 hb5
         have hch : ∀x:List Int,x.length=sz→nch sz x.length=1:=fun x hx=>by
           rw [hx]; unfold nch; rw [Nat.div_eq_of_lt_le] <;> omega
         have hchb:nch sz b.length≤60000:=by
           unfold nch
           have h1:b.length≤(n-1)*sz:=by rw [hR,hsz] at hroom; omega
           have h2:(b.length+sz-1)/sz≤((n-1)*sz+sz-1)/sz:=Nat.div_le_div_right (by omega)
           have h3:((n-1)*sz+sz-1)/sz<n-1+1:=by
             rw [Nat.div_lt_iff_lt_mul (by omega),Nat.add_mul]; omega
           omega
         obtain ⟨M,hM⟩ : ∃M,M=70000:=⟨_,rfl⟩
         refine loop_inv (I:=fun k st w'=>Bx (∃t d' D',k+t=3∧st = [.int .i64 (t:Int)]∧CW w' D' J p cb (d',⟨first,n,slot,newest,gen,false⟩)∧JT w5 w' D D' cb∧Sz N sz (i+t*M) d'∧runOps d (saveOps sz A b (gen+1))=runOps d' (([putOps sz A (List.replicate sz 0),putOps sz A1 b,putOps sz A (hdrP sz b (gen+1))].drop t).flatten)) ⟨⟩) ?_ 3
           ⟨0,d,D,by omega,rfl,hw5,JT.refl,by simpa using hs,by simp [saveOps,hA1]⟩
         rintro k st w6 ⟨t,d',D',hk,rfl,hw6,ht6,hs6,hrun⟩
         have hst6:=hstep.upd ht6.upd fun hh=>hss (hh.elim .inl fun e=>.inr (by rw [e]; exact h.jj))
         have hz6:=ht6.slc h.jj hzl
         have hn6:=ht6.slc h.jj hnl
         have hy6:=ht6.slc h.jj hy5
         obtain ⟨sa6,sc6,hb6,_⟩:=hw6.at_
         have ht4:t=3∨t=0∨t=1∨t=2:=by omega
         rcases ht4 with rfl | rfl | rfl | rfl
         · obtain rfl:k=0:=by omega
           simp (maxSteps:=3000000) (disch:=omega) only [push_cast,seval]
           refine (Fr.empty).app (hy6.1.upd (Upd.alloc (F:=fun _=>False)) fun _ h=>h.elim) (by rw [List.length_nil]; omega) ?_
           intro v7 w7 h7 _
           rw [List.nil_append] at h7
           obtain ⟨va7,vc7,rfl,_⟩:=h7.own.form
           have hb7:=hb6.upd h7.upd fun h=>h
           dsimp only at hb7
           have hgi:IntKind.i64.wrap ((gen:Int)+1)=((gen+1:Nat):Int):=by rw [IntKind.wrap_i64]; omega
           replace hrun:runOps d (saveOps sz A b (gen+1))=(d',0):=hrun
           rw [hrun]
           simp (maxSteps:=3000000) (disch:=omega) only [push_cast,seval,hb7.cell,hb7.free]
           have hw7:=hw6.quiet h7.upd
           have hnv:SlC w7 (FF D' J) (.slice va7 b.length vc7) b:=h7.own.slc fun q hq hF=>by
             have:=h7.new q hq
             rcases hF with hF | hF
             · have:=hw6.disk.bd q hF; omega
             · have:=(hw6.sep q hF).2; omega
           obtain ⟨hw9,ht9⟩:=hw7.saved hnv hr 0 (x:=0) (y:=(gen:Int)+1) rfl (by show (gen:Int)+1=((gen+1:Nat):Int); omega)
           exact ⟨rfl,D',hw9,(JT.quiet hu05).trans ((ht6.trans (JT.quiet h7.upd)).trans ht9)⟩
         · obtain rfl:k=3:=by omega
           simp (maxSteps:=3000000) (disch:=omega) only [push_cast,seval,hst6.cell]
           have hu67:Upd (fun _=>False) w6 (((w6.alloc (.cells [.int .i64 0,.slice none 0 0].toArray 203 (0,0))).setCell ⟨w6.heap.size,0,none⟩ (.int .i64 (A:Int))).setCell ⟨w6.heap.size,1,none⟩ (.slice (some ⟨zb,0,none⟩) sz sz)):=
             Upd.alloc.trans ((Upd.set (F:=fun x=>x=w6.heap.size) rfl).setIn rfl) fun x hx e=>by omega
           generalize (((w6.alloc (.cells [.int .i64 0,.slice none 0 0].toArray 203 (0,0))).setCell ⟨w6.heap.size,0,none⟩ (.int .i64 (A:Int))).setCell ⟨w6.heap.size,1,none⟩ (.slice (some ⟨zb,0,none⟩) sz sz))=w7 at *
           have hw7:=hw6.quiet hu67
           have hyy:=(JT.quiet (D:=D') (jb:=cb) hu67).slc h.jj (by rw [List.length_replicate]; exact hz6:SlC w6 (FF D' J) (.slice (some ⟨zb,0,none⟩) (List.replicate sz (0:Int)).length sz) (List.replicate sz 0))
           have ht7:=ht6.trans (JT.quiet (D:=D') (jb:=cb) hu67)
           have hput:=put_ok hw7 hs6 (by omega) (by omega) hz2 (x:=A) (by omega) hyy (by rw [List.length_replicate]; omega) (by rw [hch _ (by simp)]; omega)
           rw [List.length_replicate] at hput
           refine Ok.use hput ?_
           rintro v w8 ⟨rfl,D8,hw8,ht8⟩
           have hs8:=Sz.ops (l:=putOps sz A (List.replicate sz 0)) hs6
           have hlen8:(putOps sz A (List.replicate sz 0)).length≤60001:=by rw [putOps,List.length_append,chL_length,List.length_singleton]; rw [hch _ (by simp)]; omega
           have ht78:=ht7.trans ht8
           replace hrun:runOps d (saveOps sz A b (gen+1))=runOps d' (putOps sz A (List.replicate sz 0) ++ (([putOps sz A (List.replicate sz 0),putOps sz A1 b,putOps sz A (hdrP sz b (gen+1))].drop 1).flatten)):=hrun
           by_cases hc0:(runOps d' (putOps sz A (List.replicate sz 0))).2=0
           · rw [runOps_go hc0] at hrun
             generalize runOps d' (putOps sz A (List.replicate sz 0))=r at *
             obtain ⟨d8,code⟩:=r
             dsimp only at hc0 hw8 hs8 hrun ⊢
             subst hc0
             unfold errV
             simp (maxSteps:=3000000) (disch:=omega) only [push_cast,seval]
             exact ⟨2,by omega,1,d8,D8,by omega,rfl,hw8,ht78,hs8.mono (by omega),hrun⟩
           · rw [runOps_stop hc0] at hrun
             rw [hrun]
             generalize runOps d' (putOps sz A (List.replicate sz 0))=r at *
             obtain ⟨d8,code⟩:=r
             dsimp only at hc0 hw8 hs8 ⊢
             rw [if_neg hc0]
             obtain ⟨hw9,ht9⟩:=hw8.goDown
             obtain ⟨sa8,sc8,hb8,_⟩:=hw8.at_
             dsimp only at hb8
             unfold errV
             simp (maxSteps:=3000000) (disch:=omega) only [push_cast,seval,hb8.cell,hb8.free]
             exact ⟨D8,hw9,(JT.quiet hu05).trans (ht78.trans ht9)⟩
         · obtain rfl:k=2:=by omega
           simp (maxSteps:=3000000) (disch:=omega) only [push_cast,seval,hst6.cell]
           have hu67:Upd (fun _=>False) w6 (((w6.alloc (.cells [.int .i64 0,.slice none 0 0].toArray 203 (0,0))).setCell ⟨w6.heap.size,0,none⟩ (.int .i64 (A1:Int))).setCell ⟨w6.heap.size,1,none⟩ (.slice ya b.length yc)):=
             Upd.alloc.trans ((Upd.set (F:=fun x=>x=w6.heap.size) rfl).setIn rfl) fun x hx e=>by omega
           generalize (((w6.alloc (.cells [.int .i64 0,.slice none 0 0].toArray 203 (0,0))).setCell ⟨w6.heap.size,0,none⟩ (.int .i64 (A1:Int))).setCell ⟨w6.heap.size,1,none⟩ (.slice ya b.length yc))=w7 at *
           have hw7:=hw6.quiet hu67
           have hyy:=(JT.quiet (D:=D') (jb:=cb) hu67).slc h.jj hy6
           have ht7:=ht6.trans (JT.quiet (D:=D') (jb:=cb) hu67)
           have hput:=put_ok hw7 hs6 (by omega) (by omega) hz2 (x:=A1) (by omega) hyy (by omega) (by omega)
           refine Ok.use hput ?_
           rintro v w8 ⟨rfl,D8,hw8,ht8⟩
           have hs8:=Sz.ops (l:=putOps sz A1 (b)) hs6
           have hlen8:(putOps sz A1 (b)).length≤60001:=by rw [putOps,List.length_append,chL_length,List.length_singleton]; omega
           have ht78:=ht7.trans ht8
           replace hrun:runOps d (saveOps sz A b (gen+1))=runOps d' (putOps sz A1 b ++ (([putOps sz A (List.replicate sz 0),putOps sz A1 b,putOps sz A (hdrP sz b (gen+1))].drop 2).flatten)):=hrun
           by_cases hc0:(runOps d' (putOps sz A1 (b))).2=0
           · rw [runOps_go hc0] at hrun
             generalize runOps d' (putOps sz A1 (b))=r at *
             obtain ⟨d8,code⟩:=r
             dsimp only at hc0 hw8 hs8 hrun ⊢
             subst hc0
             unfold errV
             simp (maxSteps:=3000000) (disch:=omega) only [push_cast,seval]
             exact ⟨1,by omega,2,d8,D8,by omega,rfl,hw8,ht78,hs8.mono (by omega),hrun⟩
           · rw [runOps_stop hc0] at hrun
             rw [hrun]
             generalize runOps d' (putOps sz A1 (b))=r at *
             obtain ⟨d8,code⟩:=r
             dsimp only at hc0 hw8 hs8 ⊢
             rw [if_neg hc0]
             obtain ⟨hw9,ht9⟩:=hw8.goDown
             obtain ⟨sa8,sc8,hb8,_⟩:=hw8.at_
             dsimp only at hb8
             unfold errV
             simp (maxSteps:=3000000) (disch:=omega) only [push_cast,seval,hb8.cell,hb8.free]
             exact ⟨D8,hw9,(JT.quiet hu05).trans (ht78.trans ht9)⟩
         · obtain rfl:k=1:=by omega
           simp (maxSteps:=3000000) (disch:=omega) only [push_cast,seval,hst6.cell]
           have hu67:Upd (fun _=>False) w6 (((w6.alloc (.cells [.int .i64 0,.slice none 0 0].toArray 203 (0,0))).setCell ⟨w6.heap.size,0,none⟩ (.int .i64 (A:Int))).setCell ⟨w6.heap.size,1,none⟩ (.slice (some ⟨nb,0,none⟩) sz sz)):=
             Upd.alloc.trans ((Upd.set (F:=fun x=>x=w6.heap.size) rfl).setIn rfl) fun x hx e=>by omega
           generalize (((w6.alloc (.cells [.int .i64 0,.slice none 0 0].toArray 203 (0,0))).setCell ⟨w6.heap.size,0,none⟩ (.int .i64 (A:Int))).setCell ⟨w6.heap.size,1,none⟩ (.slice (some ⟨nb,0,none⟩) sz sz))=w7 at *
           have hw7:=hw6.quiet hu67
           have hyy:=(JT.quiet (D:=D') (jb:=cb) hu67).slc h.jj (by rw [hhl]; exact hn6:SlC w6 (FF D' J) (.slice (some ⟨nb,0,none⟩) (hdrP sz b (gen+1)).length sz) (hdrP sz b (gen+1)))
           have ht7:=ht6.trans (JT.quiet (D:=D') (jb:=cb) hu67)
           have hput:=put_ok hw7 hs6 (by omega) (by omega) hz2 (x:=A) (by omega) hyy (by rw [hhl]; omega) (by rw [hch _ hhl]; omega)
           rw [hhl] at hput
           refine Ok.use hput ?_
           rintro v w8 ⟨rfl,D8,hw8,ht8⟩
           have hs8:=Sz.ops (l:=putOps sz A (hdrP sz b (gen+1))) hs6
           have hlen8:(putOps sz A (hdrP sz b (gen+1))).length≤60001:=by rw [putOps,List.length_append,chL_length,List.length_singleton]; rw [hch _ hhl]; omega
           have ht78:=ht7.trans ht8
           replace hrun:runOps d (saveOps sz A b (gen+1))=runOps d' (putOps sz A (hdrP sz b (gen+1)) ++ (([putOps sz A (List.replicate sz 0),putOps sz A1 b,putOps sz A (hdrP sz b (gen+1))].drop 3).flatten)):=hrun
           by_cases hc0:(runOps d' (putOps sz A (hdrP sz b (gen+1)))).2=0
           · rw [runOps_go hc0] at hrun
             generalize runOps d' (putOps sz A (hdrP sz b (gen+1)))=r at *
             obtain ⟨d8,code⟩:=r
             dsimp only at hc0 hw8 hs8 hrun ⊢
             subst hc0
             unfold errV
             simp (maxSteps:=3000000) (disch:=omega) only [push_cast,seval]
             exact ⟨0,by omega,3,d8,D8,by omega,rfl,hw8,ht78,hs8.mono (by omega),hrun⟩
           · rw [runOps_stop hc0] at hrun
             rw [hrun]
             generalize runOps d' (putOps sz A (hdrP sz b (gen+1)))=r at *
             obtain ⟨d8,code⟩:=r
             dsimp only at hc0 hw8 hs8 ⊢
             rw [if_neg hc0]
             obtain ⟨hw9,ht9⟩:=hw8.goDown
             obtain ⟨sa8,sc8,hb8,_⟩:=hw8.at_
             dsimp only at hb8
             unfold errV
             simp (maxSteps:=3000000) (disch:=omega) only [push_cast,seval,hb8.cell,hb8.free]
             exact ⟨D8,hw9,(JT.quiet hu05).trans (ht78.trans ht9)⟩
   · have htg:CS.target ⟨first,n,slot,newest,gen,false⟩=1:=by unfold CS.target; dsimp only; rw [if_pos ⟨hgp0,hs0⟩]
     have hgp:(0:Int)<(gen:Int):=by omega
     have hsi:(slot:Int)=0:=by omega
     rw [htg]
     simp (maxSteps:=3000000) (disch:=omega) only [push_cast,seval,hb2.cell,hgp,hsi]
     refine Ok.use (hst 1 (by omega)) ?_
     rintro v w2 ⟨rfl,hu2⟩
     have hA:first+1*n≤120000:=by omega
     generalize first+1*n=A at *
     have hw2:=hw1.quiet hu2
     have hu02:=hu1.trans hu2 fun _ _ h=>h
     have hb3:=hb2.upd hu2 fun h=>h
     have hy2:=hy.upd hu02 fun _ h=>h.elim
     simp (maxSteps:=3000000) (disch:=omega) only [push_cast,seval,hb3.cell]
     have hu2d:Upd (fun _=>False) w w2.drew:=hu02.drew'
     have hwd:=h.quiet hu2d
     have hyd:=hy.upd hu2d fun _ h=>h.elim
     have hbd:=hb3.drew
     generalize w2.drew=w2d at *
     refine ⟨fun _=>?_,fun _=>?_⟩
     · refine Ok.use (Size_ok hwd.disk) ?_
       rintro v _ ⟨rfl,rfl⟩
       dsimp only
       rw [hsz]
       have hnz:Blk (w2d.alloc (.cells (List.replicate sz (Value.int .u8 0)).toArray 5 (0,0))) w2d.heap.size (List.replicate sz (Value.int .u8 0)) 5:=Blk.new
       have hal:Upd (fun _=>False) w2d (w2d.alloc (.cells (List.replicate sz (Value.int .u8 0)).toArray 5 (0,0))):=Upd.alloc
       simp (maxSteps:=3000000) (disch:=omega) only [push_cast,seval,hb3.cell,hbd.cell]
       have hw3:=hwd.quiet hal
       have hy3:=hyd.upd hal fun _ h=>h.elim
       have hb4:=hbd.upd hal fun h=>h
       have hs3:=hal.size
       have hgi3:IntKind.i64.wrap ((gen:Int)+1)=((gen+1:Nat):Int):=by rw [IntKind.wrap_i64]; omega
       have hnzl:=hnz.lt
       generalize (w2d.alloc (.cells (List.replicate sz (Value.int .u8 0)).toArray 5 (0,0)))=w3 at *
       have hhd:=header_ok hw3 hy3 (by omega) (g:=gen+1) (by omega) (by show 44≤d.size; omega) (by show d.size≤_; omega)
       simp (maxSteps:=3000000) (disch:=omega) only [push_cast,seval,hb3.cell,hbd.cell,hb4.cell,hgi3]
       have hgc:((gen+1:Nat):Int)=(gen:Int)+1:=by omega
       rw [hgc] at hhd
       refine Ok.use hhd ?_
       rintro v w4 ⟨nb,rfl,hnb,hge,hu4⟩
       have hhl:(hdrP sz b (gen+1)).length=sz:=hdrP_length hz
       dsimp only at hnb ⊢
       unfold CV
       rw [hsz] at hnb ⊢
       rw [hhl]
       have hb5:=hb4.upd hu4 fun h=>h
       have hzz:=hnz.upd hu4 fun h=>h
       have hu0A:Upd (fun _=>False) w w4:=(hu2d.trans hal fun _ _ h=>h).trans hu4 fun _ _ h=>h
       have hzge:w.heap.size≤w2d.heap.size:=hu2d.size
       have hnge:w.heap.size≤nb:=by omega
       obtain ⟨A1,hA1⟩ : ∃A1,A1=A+1:=⟨_,rfl⟩
       have eA1:(A:Int)+1=(A1:Int):=by omega
       simp (maxSteps:=3000000) (disch:=omega) only [push_cast,seval,hb3.cell,hbd.cell,hb4.cell,hb5.cell,hgi3,eA1]
       generalize w2d.heap.size=zb at *
       clear hhd hw3 hy3 hb4 hnzl hal hu4 hwd hyd hbd hu2d hy2 hb3 hw2 hnz
       generalize hwA:w4=wA at *
       have hs0A:=hu0A.size
       have hstep:Blk (wA.alloc (.cells [.int .i64 (A:Int),.slice (some ⟨zb,0,none⟩) sz sz,.int .i64 (A1:Int),.slice ya b.length yc,.int .i64 (A:Int),.slice (some ⟨nb,0,none⟩) sz sz].toArray 203 (0,0))) wA.heap.size [.int .i64 (A:Int),.slice (some ⟨zb,0,none⟩) sz sz,.int .i64 (A1:Int),.slice ya b.length yc,.int .i64 (A:Int),.slice (some ⟨nb,0,none⟩) sz sz] 203:=Blk.new
       have hu1:Upd (fun _=>False) wA (wA.alloc (.cells [.int .i64 (A:Int),.slice (some ⟨zb,0,none⟩) sz sz,.int .i64 (A1:Int),.slice ya b.length yc,.int .i64 (A:Int),.slice (some ⟨nb,0,none⟩) sz sz].toArray 203 (0,0))):=Upd.alloc
       have hu05:=hu0A.trans hu1 fun _ _ h=>h
       have hw5:=h.quiet hu05
       have hy5:=hy.upd hu05 fun _ h=>h.elim
       have hz5:=hzz.upd hu1 fun h=>h
       have hn5:=hnb.upd hu1 fun h=>h
       obtain ⟨sb,hsb⟩ : ∃sb,sb=wA.heap.size:=⟨_,rfl⟩
       rw [←hsb] at hstep ⊢
       generalize (wA.alloc (.cells [.int .i64 (A:Int),.slice (some ⟨zb,0,none⟩) sz sz,.int .i64 (A1:Int),.slice ya b.length yc,.int .i64 (A:Int),.slice (some ⟨nb,0,none⟩) sz sz].toArray 203 (0,0)))=w5 at *
       have hFF : ∀q,w.heap.size≤q→¬FF D J q:=fun q hq hh=>hh.elim (fun hd=>by have:=h.disk.bd q hd; omega) fun hj=>by have:=(h.sep q hj).2; omega
       have hzl:SlC w5 (FF D J) (.slice (some ⟨zb,0,none⟩) (List.replicate sz (0:Int)).length sz) (List.replicate sz 0):=⟨slb_blk (by rw [by8_zeros]; exact hz5) (hFF zb hzge),_,_,rfl,by rw [List.length_replicate]; exact Nat.le_refl _⟩
       have hnl:SlC w5 (FF D J) (.slice (some ⟨nb,0,none⟩) (hdrP sz b (gen+1)).length sz) (hdrP sz b (gen+1)):=⟨slb_blk hn5 (hFF nb hnge),_,_,rfl,by rw [hhl]; exact Nat.le_refl _⟩
       rw [List.length_replicate] at hzl
       rw [hhl] at hnl
       have hss : ¬FF D J sb:=hFF sb (by omega)
       clear hz5 hn5 hzz hnb hu1 hb5
       have hch : ∀x:List Int,x.length=sz→nch sz x.length=1:=fun x hx=>by
         rw [hx]; unfold nch; rw [Nat.div_eq_of_lt_le] <;> omega
       have hchb:nch sz b.length≤60000:=by
         unfold nch
         have h1:b.length≤(n-1)*sz:=by rw [hR,hsz] at hroom; omega
         have h2:(b.length+sz-1)/sz≤((n-1)*sz+sz-1)/sz:=Nat.div_le_div_right (by omega)
         have h3:((n-1)*sz+sz-1)/sz<n-1+1:=by
           rw [Nat.div_lt_iff_lt_mul (by omega),Nat.add_mul]; omega
         omega
       obtain ⟨M,hM⟩ : ∃M,M=70000:=⟨_,rfl⟩
       refine loop_inv (I:=fun k st w'=>Bx (∃t d' D',k+t=3∧st = [.int .i64 (t:Int)]∧CW w' D' J p cb (d',⟨first,n,slot,newest,gen,false⟩)∧JT w5 w' D D' cb∧Sz N sz (i+t*M) d'∧runOps d (saveOps sz A b (gen+1))=runOps d' (([putOps sz A (List.replicate sz 0),putOps sz A1 b,putOps sz A (hdrP sz b (gen+1))].drop t).flatten)) ⟨⟩) ?_ 3
         ⟨0,d,D,by omega,rfl,hw5,JT.refl,by simpa using hs,by simp [saveOps,hA1]⟩
       rintro k st w6 ⟨t,d',D',hk,rfl,hw6,ht6,hs6,hrun⟩
       have hst6:=hstep.upd ht6.upd fun hh=>hss (hh.elim .inl fun e=>.inr (by rw [e]; exact h.jj))
       have hz6:=ht6.slc h.jj hzl
       have hn6:=ht6.slc h.jj hnl
       have hy6:=ht6.slc h.jj hy5
       obtain ⟨sa6,sc6,hb6,_⟩:=hw6.at_
       have ht4:t=3∨t=0∨t=1∨t=2:=by omega
       rcases ht4 with rfl | rfl | rfl | rfl
       · obtain rfl:k=0:=by omega
         simp (maxSteps:=3000000) (disch:=omega) only [push_cast,seval]
         refine (Fr.empty).app (hy6.1.upd (Upd.alloc (F:=fun _=>False)) fun _ h=>h.elim) (by rw [List.length_nil]; omega) ?_
         intro v7 w7 h7 _
         rw [List.nil_append] at h7
         obtain ⟨va7,vc7,rfl,_⟩:=h7.own.form
         have hb7:=hb6.upd h7.upd fun h=>h
         dsimp only at hb7
         have hgi:IntKind.i64.wrap ((gen:Int)+1)=((gen+1:Nat):Int):=by rw [IntKind.wrap_i64]; omega
         replace hrun:runOps d (saveOps sz A b (gen+1))=(d',0):=hrun
         rw [hrun]
         simp (maxSteps:=3000000) (disch:=omega) only [push_cast,seval,hb7.cell,hb7.free]
         have hw7:=hw6.quiet h7.upd
         have hnv:SlC w7 (FF D' J) (.slice va7 b.length vc7) b:=h7.own.slc fun q hq hF=>by
           have:=h7.new q hq
           rcases hF with hF | hF
           · have:=hw6.disk.bd q hF; omega
           · have:=(hw6.sep q hF).2; omega
         obtain ⟨hw9,ht9⟩:=hw7.saved hnv hr 1 (x:=1) (y:=(gen:Int)+1) rfl (by show (gen:Int)+1=((gen+1:Nat):Int); omega)
         exact ⟨rfl,D',hw9,(JT.quiet hu05).trans ((ht6.trans (JT.quiet h7.upd)).trans ht9)⟩
       · obtain rfl:k=3:=by omega
         simp (maxSteps:=3000000) (disch:=omega) only [push_cast,seval,hst6.cell]
         have hu67:Upd (fun _=>False) w6 (((w6.alloc (.cells [.int .i64 0,.slice none 0 0].toArray 203 (0,0))).setCell ⟨w6.heap.size,0,none⟩ (.int .i64 (A:Int))).setCell ⟨w6.heap.size,1,none⟩ (.slice (some ⟨zb,0,none⟩) sz sz)):=
           Upd.alloc.trans ((Upd.set (F:=fun x=>x=w6.heap.size) rfl).setIn rfl) fun x hx e=>by omega
         generalize (((w6.alloc (.cells [.int .i64 0,.slice none 0 0].toArray 203 (0,0))).setCell ⟨w6.heap.size,0,none⟩ (.int .i64 (A:Int))).setCell ⟨w6.heap.size,1,none⟩ (.slice (some ⟨zb,0,none⟩) sz sz))=w7 at *
         have hw7:=hw6.quiet hu67
         have hyy:=(JT.quiet (D:=D') (jb:=cb) hu67).slc h.jj (by rw [List.length_replicate]; exact hz6:SlC w6 (FF D' J) (.slice (some ⟨zb,0,none⟩) (List.replicate sz (0:Int)).length sz) (List.replicate sz 0))
         have ht7:=ht6.trans (JT.quiet (D:=D') (jb:=cb) hu67)
         have hput:=put_ok hw7 hs6 (by omega) (by omega) hz2 (x:=A) (by omega) hyy (by rw [List.length_replicate]; omega) (by rw [hch _ (by simp)]; omega)
         rw [List.length_replicate] at hput
         refine Ok.use hput ?_
         rintro v w8 ⟨rfl,D8,hw8,ht8⟩
         have hs8:=Sz.ops (l:=putOps sz A (List.replicate sz 0)) hs6
         have hlen8:(putOps sz A (List.replicate sz 0)).length≤60001:=by rw [putOps,List.length_append,chL_length,List.length_singleton]; rw [hch _ (by simp)]; omega
         have ht78:=ht7.trans ht8
         replace hrun:runOps d (saveOps sz A b (gen+1))=runOps d' (putOps sz A (List.replicate sz 0) ++ (([putOps sz A (List.replicate sz 0),putOps sz A1 b,putOps sz A (hdrP sz b (gen+1))].drop 1).flatten)):=hrun
         by_cases hc0:(runOps d' (putOps sz A (List.replicate sz 0))).2=0
         · rw [runOps_go hc0] at hrun
           generalize runOps d' (putOps sz A (List.replicate sz 0))=r at *
           obtain ⟨d8,code⟩:=r
           dsimp only at hc0 hw8 hs8 hrun ⊢
           subst hc0
           unfold errV
           simp (maxSteps:=3000000) (disch:=omega) only [push_cast,seval]
           exact ⟨2,by omega,1,d8,D8,by omega,rfl,hw8,ht78,hs8.mono (by omega),hrun⟩
         · rw [runOps_stop hc0] at hrun
           rw [hrun]
           generalize runOps d' (putOps sz A (List.replicate sz 0))=r at *
           obtain ⟨d8,code⟩:=r
           dsimp only at hc0 hw8 hs8 ⊢
           rw [if_neg hc0]
           obtain ⟨hw9,ht9⟩:=hw8.goDown
           obtain ⟨sa8,sc8,hb8,_⟩:=hw8.at_
           dsimp only at hb8
           unfold errV
           simp (maxSteps:=3000000) (disch:=omega) only [push_cast,seval,hb8.cell,hb8.free]
           exact ⟨D8,hw9,(JT.quiet hu05).trans (ht78.trans ht9)⟩
       · obtain rfl:k=2:=by omega
         simp (maxSteps:=3000000) (disch:=omega) only [push_cast,seval,hst6.cell]
         have hu67:Upd (fun _=>False) w6 (((w6.alloc (.cells [.int .i64 0,.slice none 0 0].toArray 203 (0,0))).setCell ⟨w6.heap.size,0,none⟩ (.int .i64 (A1:Int))).setCell ⟨w6.heap.size,1,none⟩ (.slice ya b.length yc)):=
           Upd.alloc.trans ((Upd.set (F:=fun x=>x=w6.heap.size) rfl).setIn rfl) fun x hx e=>by omega
         generalize (((w6.alloc (.cells [.int .i64 0,.slice none 0 0].toArray 203 (0,0))).setCell ⟨w6.heap.size,0,none⟩ (.int .i64 (A1:Int))).setCell ⟨w6.heap.size,1,none⟩ (.slice ya b.length yc))=w7 at *
         have hw7:=hw6.quiet hu67
         have hyy:=(JT.quiet (D:=D') (jb:=cb) hu67).slc h.jj hy6
         have ht7:=ht6.trans (JT.quiet (D:=D') (jb:=cb) hu67)
         have hput:=put_ok hw7 hs6 (by omega) (by omega) hz2 (x:=A1) (by omega) hyy (by omega) (by omega)
         refine Ok.use hput ?_
         rintro v w8 ⟨rfl,D8,hw8,ht8⟩
         have hs8:=Sz.ops (l:=putOps sz A1 (b)) hs6
         have hlen8:(putOps sz A1 (b)).length≤60001:=by rw [putOps,List.length_append,chL_length,List.length_singleton]; omega
         have ht78:=ht7.trans ht8
         replace hrun:runOps d (saveOps sz A b (gen+1))=runOps d' (putOps sz A1 b ++ (([putOps sz A (List.replicate sz 0),putOps sz A1 b,putOps sz A (hdrP sz b (gen+1))].drop 2).flatten)):=hrun
         by_cases hc0:(runOps d' (putOps sz A1 (b))).2=0
         · rw [runOps_go hc0] at hrun
           generalize runOps d' (putOps sz A1 (b))=r at *
           obtain ⟨d8,code⟩:=r
           dsimp only at hc0 hw8 hs8 hrun ⊢
           subst hc0
           unfold errV
           simp (maxSteps:=3000000) (disch:=omega) only [push_cast,seval]
           exact ⟨1,by omega,2,d8,D8,by omega,rfl,hw8,ht78,hs8.mono (by omega),hrun⟩
         · rw [runOps_stop hc0] at hrun
           rw [hrun]
           generalize runOps d' (putOps sz A1 (b))=r at *
           obtain ⟨d8,code⟩:=r
           dsimp only at hc0 hw8 hs8 ⊢
           rw [if_neg hc0]
           obtain ⟨hw9,ht9⟩:=hw8.goDown
           obtain ⟨sa8,sc8,hb8,_⟩:=hw8.at_
           dsimp only at hb8
           unfold errV
           simp (maxSteps:=3000000) (disch:=omega) only [push_cast,seval,hb8.cell,hb8.free]
           exact ⟨D8,hw9,(JT.quiet hu05).trans (ht78.trans ht9)⟩
       · obtain rfl:k=1:=by omega
         simp (maxSteps:=3000000) (disch:=omega) only [push_cast,seval,hst6.cell]
         have hu67:Upd (fun _=>False) w6 (((w6.alloc (.cells [.int .i64 0,.slice none 0 0].toArray 203 (0,0))).setCell ⟨w6.heap.size,0,none⟩ (.int .i64 (A:Int))).setCell ⟨w6.heap.size,1,none⟩ (.slice (some ⟨nb,0,none⟩) sz sz)):=
           Upd.alloc.trans ((Upd.set (F:=fun x=>x=w6.heap.size) rfl).setIn rfl) fun x hx e=>by omega
         generalize (((w6.alloc (.cells [.int .i64 0,.slice none 0 0].toArray 203 (0,0))).setCell ⟨w6.heap.size,0,none⟩ (.int .i64 (A:Int))).setCell ⟨w6.heap.size,1,none⟩ (.slice (some ⟨nb,0,none⟩) sz sz))=w7 at *
         have hw7:=hw6.quiet hu67
         have hyy:=(JT.quiet (D:=D') (jb:=cb) hu67).slc h.jj (by rw [hhl]; exact hn6:SlC w6 (FF D' J) (.slice (some ⟨nb,0,none⟩) (hdrP sz b (gen+1)).length sz) (hdrP sz b (gen+1)))
         have ht7:=ht6.trans (JT.quiet (D:=D') (jb:=cb) hu67)
         have hput:=put_ok hw7 hs6 (by omega) (by omega) hz2 (x:=A) (by omega) hyy (by rw [hhl]; omega) (by rw [hch _ hhl]; omega)
         rw [hhl] at hput
         refine Ok.use hput ?_
         rintro v w8 ⟨rfl,D8,hw8,ht8⟩
         have hs8:=Sz.ops (l:=putOps sz A (hdrP sz b (gen+1))) hs6
         have hlen8:(putOps sz A (hdrP sz b (gen+1))).length≤60001:=by rw [putOps,List.length_append,chL_length,List.length_singleton]; rw [hch _ hhl]; omega
         have ht78:=ht7.trans ht8
         replace hrun:runOps d (saveOps sz A b (gen+1))=runOps d' (putOps sz A (hdrP sz b (gen+1)) ++ (([putOps sz A (List.replicate sz 0),putOps sz A1 b,putOps sz A (hdrP sz b (gen+1))].drop 3).flatten)):=hrun
         by_cases hc0:(runOps d' (putOps sz A (hdrP sz b (gen+1)))).2=0
         · rw [runOps_go hc0] at hrun
           generalize runOps d' (putOps sz A (hdrP sz b (gen+1)))=r at *
           obtain ⟨d8,code⟩:=r
           dsimp only at hc0 hw8 hs8 hrun ⊢
           subst hc0
           unfold errV
           simp (maxSteps:=3000000) (disch:=omega) only [push_cast,seval]
           exact ⟨0,by omega,3,d8,D8,by omega,rfl,hw8,ht78,hs8.mono (by omega),hrun⟩
         · rw [runOps_stop hc0] at hrun
           rw [hrun]
           generalize runOps d' (putOps sz A (hdrP sz b (gen+1)))=r at *
           obtain ⟨d8,code⟩:=r
           dsimp only at hc0 hw8 hs8 ⊢
           rw [if_neg hc0]
           obtain ⟨hw9,ht9⟩:=hw8.goDown
           obtain ⟨sa8,sc8,hb8,_⟩:=hw8.at_
           dsimp only at hb8
           unfold errV
           simp (maxSteps:=3000000) (disch:=omega) only [push_cast,seval,hb8.cell,hb8.free]
           exact ⟨D8,hw9,(JT.quiet hu05).trans (ht78.trans ht9)⟩
     · refine Ok.use (Size_ok hwd.disk) ?_
       rintro v _ ⟨rfl,rfl⟩
       dsimp only
       rw [hsz]
       have hgi3:IntKind.i64.wrap ((gen:Int)+1)=((gen+1:Nat):Int):=by rw [IntKind.wrap_i64]; omega
       have hhd:=header_ok hwd hyd (by omega) (g:=gen+1) (by omega) (by show 44≤d.size; omega) (by show d.size≤_; omega)
       simp (maxSteps:=3000000) (disch:=omega) only [push_cast,seval,hb3.cell,hbd.cell,hgi3]
       have hgc:((gen+1:Nat):Int)=(gen:Int)+1:=by omega
       rw [hgc] at hhd
       refine Ok.use hhd ?_
       rintro v w3 ⟨nb,rfl,hnb0,hge,hu4⟩
       have hhl:(hdrP sz b (gen+1)).length=sz:=hdrP_length hz
       dsimp only at hnb0 ⊢
       unfold CV
       rw [hsz] at hnb0 ⊢
       rw [hhl]
       have hb4:=hbd.upd hu4 fun h=>h
       have hzz:Blk (w3.alloc (.cells (List.replicate sz (Value.int .u8 0)).toArray 5 (0,0))) w3.heap.size (List.replicate sz (Value.int .u8 0)) 5:=Blk.new
       have hal:Upd (fun _=>False) w3 (w3.alloc (.cells (List.replicate sz (Value.int .u8 0)).toArray 5 (0,0))):=Upd.alloc
       have hnb:=hnb0.upd hal fun h=>h
       have hb5:=hb4.upd hal fun h=>h
       have hu0A:Upd (fun _=>False) w (w3.alloc (.cells (List.replicate sz (Value.int .u8 0)).toArray 5 (0,0))):=(hu2d.trans hu4 fun _ _ h=>h).trans hal fun _ _ h=>h
       have hzge:w.heap.size≤w3.heap.size:=(hu2d.trans hu4 fun _ _ h=>h).size
       have hnge:w.heap.size≤nb:=by have:=hu2d.size; omega
       obtain ⟨A1,hA1⟩ : ∃A1,A1=A+1:=⟨_,rfl⟩
       have eA1:(A:Int)+1=(A1:Int):=by omega
       have hnl0:=hnb0.lt
       have hsA:(w3.alloc (.cells (List.replicate sz (Value.int .u8 0)).toArray 5 (0,0))).heap.size=w3.heap.size+1:=size_alloc
       simp (maxSteps:=3000000) (disch:=omega) only [push_cast,seval,hb3.cell,hbd.cell,hb4.cell,hgi3,eA1]
       generalize w3.heap.size=zb at *
       generalize w3.alloc (.cells (List.replicate sz (Value.int .u8 0)).toArray 5 (0,0))=w4 at *
       rw [←hsA]
       clear hsA hhd hwd hyd hb4 hal hu4 hbd hu2d hy2 hb3 hw2 hnb0
       generalize hwA:w4=wA at *
       have hs0A:=hu0A.size
       have hstep:Blk (wA.alloc (.cells [.int .i64 (A:Int),.slice (some ⟨zb,0,none⟩) sz sz,.int .i64 (A1:Int),.slice ya b.length yc,.int .i64 (A:Int),.slice (some ⟨nb,0,none⟩) sz sz].toArray 203 (0,0))) wA.heap.size [.int .i64 (A:Int),.slice (some ⟨zb,0,none⟩) sz sz,.int .i64 (A1:Int),.slice ya b.length yc,.int .i64 (A:Int),.slice (some ⟨nb,0,none⟩) sz sz] 203:=Blk.new
       have hu1:Upd (fun _=>False) wA (wA.alloc (.cells [.int .i64 (A:Int),.slice (some ⟨zb,0,none⟩) sz sz,.int .i64 (A1:Int),.slice ya b.length yc,.int .i64 (A:Int),.slice (some ⟨nb,0,none⟩) sz sz].toArray 203 (0,0))):=Upd.alloc
       have hu05:=hu0A.trans hu1 fun _ _ h=>h
       have hw5:=h.quiet hu05
       have hy5:=hy.upd hu05 fun _ h=>h.elim
       have hz5:=hzz.upd hu1 fun h=>h
       have hn5:=hnb.upd hu1 fun h=>h
       obtain ⟨sb,hsb⟩ : ∃sb,sb=wA.heap.size:=⟨_,rfl⟩
       rw [←hsb] at hstep ⊢
       generalize (wA.alloc (.cells [.int .i64 (A:Int),.slice (some ⟨zb,0,none⟩) sz sz,.int .i64 (A1:Int),.slice ya b.length yc,.int .i64 (A:Int),.slice (some ⟨nb,0,none⟩) sz sz].toArray 203 (0,0)))=w5 at *
       have hFF : ∀q,w.heap.size≤q→¬FF D J q:=fun q hq hh=>hh.elim (fun hd=>by have:=h.disk.bd q hd; omega) fun hj=>by have:=(h.sep q hj).2; omega
       have hzl:SlC w5 (FF D J) (.slice (some ⟨zb,0,none⟩) (List.replicate sz (0:Int)).length sz) (List.replicate sz 0):=⟨slb_blk (by rw [by8_zeros]; exact hz5) (hFF zb hzge),_,_,rfl,by rw [List.length_replicate]; exact Nat.le_refl _⟩
       have hnl:SlC w5 (FF D J) (.slice (some ⟨nb,0,none⟩) (hdrP sz b (gen+1)).length sz) (hdrP sz b (gen+1)):=⟨slb_blk hn5 (hFF nb hnge),_,_,rfl,by rw [hhl]; exact Nat.le_refl _⟩
       rw [List.length_replicate] at hzl
       rw [hhl] at hnl
       have hss : ¬FF D J sb:=hFF sb (by omega)
       clear hz5 hn5 hzz hnb hu1 hb5
       have hch : ∀x:List Int,x.length=sz→nch sz x.length=1:=fun x hx=>by
         rw [hx]; unfold nch; rw [Nat.div_eq_of_lt_le] <;> omega
       have hchb:nch sz b.length≤60000:=by
         unfold nch
         have h1:b.length≤(n-1)*sz:=by rw [hR,hsz] at hroom; omega
         have h2:(b.length+sz-1)/sz≤((n-1)*sz+sz-1)/sz:=Nat.div_le_div_right (by omega)
         have h3:((n-1)*sz+sz-1)/sz<n-1+1:=by
           rw [Nat.div_lt_iff_lt_mul (by omega),Nat.add_mul]; omega
         omega
       obtain ⟨M,hM⟩ : ∃M,M=70000:=⟨_,rfl⟩
       refine loop_inv (I:=fun k st w'=>Bx (∃t d' D',k+t=3∧st = [.int .i64 (t:Int)]∧CW w' D' J p cb (d',⟨first,n,slot,newest,gen,false⟩)∧JT w5 w' D D' cb∧Sz N sz (i+t*M) d'∧runOps d (saveOps sz A b (gen+1))=runOps d' (([putOps sz A (List.replicate sz 0),putOps sz A1 b,putOps sz A (hdrP sz b (gen+1))].drop t).flatten)) ⟨⟩) ?_ 3
         ⟨0,d,D,by omega,rfl,hw5,JT.refl,by simpa using hs,by simp [saveOps,hA1]⟩
       rintro k st w6 ⟨t,d',D',hk,rfl,hw6,ht6,hs6,hrun⟩
       have hst6:=hstep.upd ht6.upd fun hh=>hss (hh.elim .inl fun e=>.inr (by rw [e]; exact h.jj))
       have hz6:=ht6.slc h.jj hzl
       have hn6:=ht6.slc h.jj hnl
       have hy6:=ht6.slc h.jj hy5
       obtain ⟨sa6,sc6,hb6,_⟩:=hw6.at_
       have ht4:t=3∨t=0∨t=1∨t=2:=by omega
       rcases ht4 with rfl | rfl | rfl | rfl
       · obtain rfl:k=0:=by omega
         simp (maxSteps:=3000000) (disch:=omega) only [push_cast,seval]
         refine (Fr.empty).app (hy6.1.upd (Upd.alloc (F:=fun _=>False)) fun _ h=>h.elim) (by rw [List.length_nil]; omega) ?_
         intro v7 w7 h7 _
         rw [List.nil_append] at h7
         obtain ⟨va7,vc7,rfl,_⟩:=h7.own.form
         have hb7:=hb6.upd h7.upd fun h=>h
         dsimp only at hb7
         have hgi:IntKind.i64.wrap ((gen:Int)+1)=((gen+1:Nat):Int):=by rw [IntKind.wrap_i64]; omega
         replace hrun:runOps d (saveOps sz A b (gen+1))=(d',0):=hrun
         rw [hrun]
         simp (maxSteps:=3000000) (disch:=omega) only [push_cast,seval,hb7.cell,hb7.free]
         have hw7:=hw6.quiet h7.upd
         have hnv:SlC w7 (FF D' J) (.slice va7 b.length vc7) b:=h7.own.slc fun q hq hF=>by
           have:=h7.new q hq
           rcases hF with hF | hF
           · have:=hw6.disk.bd q hF; omega
           · have:=(hw6.sep q hF).2; omega
         obtain ⟨hw9,ht9⟩:=hw7.saved hnv hr 1 (x:=1) (y:=(gen:Int)+1) rfl (by show (gen:Int)+1=((gen+1:Nat):Int); omega)
         exact ⟨rfl,D',hw9,(JT.quiet hu05).trans ((ht6.trans (JT.quiet h7.upd)).trans ht9)⟩
       · obtain rfl:k=3:=by omega
         simp (maxSteps:=3000000) (disch:=omega) only [push_cast,seval,hst6.cell]
         have hu67:Upd (fun _=>False) w6 (((w6.alloc (.cells [.int .i64 0,.slice none 0 0].toArray 203 (0,0))).setCell ⟨w6.heap.size,0,none⟩ (.int .i64 (A:Int))).setCell ⟨w6.heap.size,1,none⟩ (.slice (some ⟨zb,0,none⟩) sz sz)):=
           Upd.alloc.trans ((Upd.set (F:=fun x=>x=w6.heap.size) rfl).setIn rfl) fun x hx e=>by omega
         generalize (((w6.alloc (.cells [.int .i64 0,.slice none 0 0].toArray 203 (0,0))).setCell ⟨w6.heap.size,0,none⟩ (.int .i64 (A:Int))).setCell ⟨w6.heap.size,1,none⟩ (.slice (some ⟨zb,0,none⟩) sz sz))=w7 at *
         have hw7:=hw6.quiet hu67
         have hyy:=(JT.quiet (D:=D') (jb:=cb) hu67).slc h.jj (by rw [List.length_replicate]; exact hz6:SlC w6 (FF D' J) (.slice (some ⟨zb,0,none⟩) (List.replicate sz (0:Int)).length sz) (List.replicate sz 0))
         have ht7:=ht6.trans (JT.quiet (D:=D') (jb:=cb) hu67)
         have hput:=put_ok hw7 hs6 (by omega) (by omega) hz2 (x:=A) (by omega) hyy (by rw [List.length_replicate]; omega) (by rw [hch _ (by simp)]; omega)
         rw [List.length_replicate] at hput
         refine Ok.use hput ?_
         rintro v w8 ⟨rfl,D8,hw8,ht8⟩
         have hs8:=Sz.ops (l:=putOps sz A (List.replicate sz 0)) hs6
         have hlen8:(putOps sz A (List.replicate sz 0)).length≤60001:=by rw [putOps,List.length_append,chL_length,List.length_singleton]; rw [hch _ (by simp)]; omega
         have ht78:=ht7.trans ht8
         replace hrun:runOps d (saveOps sz A b (gen+1))=runOps d' (putOps sz A (List.replicate sz 0) ++ (([putOps sz A (List.replicate sz 0),putOps sz A1 b,putOps sz A (hdrP sz b (gen+1))].drop 1).flatten)):=hrun
         by_cases hc0:(runOps d' (putOps sz A (List.replicate sz 0))).2=0
         · rw [runOps_go hc0] at hrun
           generalize runOps d' (putOps sz A (List.replicate sz 0))=r at *
           obtain ⟨d8,code⟩:=r
           dsimp only at hc0 hw8 hs8 hrun ⊢
           subst hc0
           unfold errV
           simp (maxSteps:=3000000) (disch:=omega) only [push_cast,seval]
           exact ⟨2,by omega,1,d8,D8,by omega,rfl,hw8,ht78,hs8.mono (by omega),hrun⟩
         · rw [runOps_stop hc0] at hrun
           rw [hrun]
           generalize runOps d' (putOps sz A (List.replicate sz 0))=r at *
           obtain ⟨d8,code⟩:=r
           dsimp only at hc0 hw8 hs8 ⊢
           rw [if_neg hc0]
           obtain ⟨hw9,ht9⟩:=hw8.goDown
           obtain ⟨sa8,sc8,hb8,_⟩:=hw8.at_
           dsimp only at hb8
           unfold errV
           simp (maxSteps:=3000000) (disch:=omega) only [push_cast,seval,hb8.cell,hb8.free]
           exact ⟨D8,hw9,(JT.quiet hu05).trans (ht78.trans ht9)⟩
       · obtain rfl:k=2:=by omega
         simp (maxSteps:=3000000) (disch:=omega) only [push_cast,seval,hst6.cell]
         have hu67:Upd (fun _=>False) w6 (((w6.alloc (.cells [.int .i64 0,.slice none 0 0].toArray 203 (0,0))).setCell ⟨w6.heap.size,0,none⟩ (.int .i64 (A1:Int))).setCell ⟨w6.heap.size,1,none⟩ (.slice ya b.length yc)):=
           Upd.alloc.trans ((Upd.set (F:=fun x=>x=w6.heap.size) rfl).setIn rfl) fun x hx e=>by omega
         generalize (((w6.alloc (.cells [.int .i64 0,.slice none 0 0].toArray 203 (0,0))).setCell ⟨w6.heap.size,0,none⟩ (.int .i64 (A1:Int))).setCell ⟨w6.heap.size,1,none⟩ (.slice ya b.length yc))=w7 at *
         have hw7:=hw6.quiet hu67
         have hyy:=(JT.quiet (D:=D') (jb:=cb) hu67).slc h.jj hy6
         have ht7:=ht6.trans (JT.quiet (D:=D') (jb:=cb) hu67)
         have hput:=put_ok hw7 hs6 (by omega) (by omega) hz2 (x:=A1) (by omega) hyy (by omega) (by omega)
         refine Ok.use hput ?_
         rintro v w8 ⟨rfl,D8,hw8,ht8⟩
         have hs8:=Sz.ops (l:=putOps sz A1 (b)) hs6
         have hlen8:(putOps sz A1 (b)).length≤60001:=by rw [putOps,List.length_append,chL_length,List.length_singleton]; omega
         have ht78:=ht7.trans ht8
         replace hrun:runOps d (saveOps sz A b (gen+1))=runOps d' (putOps sz A1 b ++ (([putOps sz A (List.replicate sz 0),putOps sz A1 b,putOps sz A (hdrP sz b (gen+1))].drop 2).flatten)):=hrun
         by_cases hc0:(runOps d' (putOps sz A1 (b))).2=0
         · rw [runOps_go hc0] at hrun
           generalize runOps d' (putOps sz A1 (b))=r at *
           obtain ⟨d8,code⟩:=r
           dsimp only at hc0 hw8 hs8 hrun ⊢
           subst hc0
           unfold errV
           simp (maxSteps:=3000000) (disch:=omega) only [push_cast,seval]
           exact ⟨1,by omega,2,d8,D8,by omega,rfl,hw8,ht78,hs8.mono (by omega),hrun⟩
         · rw [runOps_stop hc0] at hrun
           rw [hrun]
           generalize runOps d' (putOps sz A1 (b))=r at *
           obtain ⟨d8,code⟩:=r
           dsimp only at hc0 hw8 hs8 ⊢
           rw [if_neg hc0]
           obtain ⟨hw9,ht9⟩:=hw8.goDown
           obtain ⟨sa8,sc8,hb8,_⟩:=hw8.at_
           dsimp only at hb8
           unfold errV
           simp (maxSteps:=3000000) (disch:=omega) only [push_cast,seval,hb8.cell,hb8.free]
           exact ⟨D8,hw9,(JT.quiet hu05).trans (ht78.trans ht9)⟩
       · obtain rfl:k=1:=by omega
         simp (maxSteps:=3000000) (disch:=omega) only [push_cast,seval,hst6.cell]
         have hu67:Upd (fun _=>False) w6 (((w6.alloc (.cells [.int .i64 0,.slice none 0 0].toArray 203 (0,0))).setCell ⟨w6.heap.size,0,none⟩ (.int .i64 (A:Int))).setCell ⟨w6.heap.size,1,none⟩ (.slice (some ⟨nb,0,none⟩) sz sz)):=
           Upd.alloc.trans ((Upd.set (F:=fun x=>x=w6.heap.size) rfl).setIn rfl) fun x hx e=>by omega
         generalize (((w6.alloc (.cells [.int .i64 0,.slice none 0 0].toArray 203 (0,0))).setCell ⟨w6.heap.size,0,none⟩ (.int .i64 (A:Int))).setCell ⟨w6.heap.size,1,none⟩ (.slice (some ⟨nb,0,none⟩) sz sz))=w7 at *
         have hw7:=hw6.quiet hu67
         have hyy:=(JT.quiet (D:=D') (jb:=cb) hu67).slc h.jj (by rw [hhl]; exact hn6:SlC w6 (FF D' J) (.slice (some ⟨nb,0,none⟩) (hdrP sz b (gen+1)).length sz) (hdrP sz b (gen+1)))
         have ht7:=ht6.trans (JT.quiet (D:=D') (jb:=cb) hu67)
         have hput:=put_ok hw7 hs6 (by omega) (by omega) hz2 (x:=A) (by omega) hyy (by rw [hhl]; omega) (by rw [hch _ hhl]; omega)
         rw [hhl] at hput
         refine Ok.use hput ?_
         rintro v w8 ⟨rfl,D8,hw8,ht8⟩
         have hs8:=Sz.ops (l:=putOps sz A (hdrP sz b (gen+1))) hs6
         have hlen8:(putOps sz A (hdrP sz b (gen+1))).length≤60001:=by rw [putOps,List.length_append,chL_length,List.length_singleton]; rw [hch _ hhl]; omega
         have ht78:=ht7.trans ht8
         replace hrun:runOps d (saveOps sz A b (gen+1))=runOps d' (putOps sz A (hdrP sz b (gen+1)) ++ (([putOps sz A (List.replicate sz 0),putOps sz A1 b,putOps sz A (hdrP sz b (gen+1))].drop 3).flatten)):=hrun
         by_cases hc0:(runOps d' (putOps sz A (hdrP sz b (gen+1)))).2=0
         · rw [runOps_go hc0] at hrun
           generalize runOps d' (putOps sz A (hdrP sz b (gen+1)))=r at *
           obtain ⟨d8,code⟩:=r
           dsimp only at hc0 hw8 hs8 hrun ⊢
           subst hc0
           unfold errV
           simp (maxSteps:=3000000) (disch:=omega) only [push_cast,seval]
           exact ⟨0,by omega,3,d8,D8,by omega,rfl,hw8,ht78,hs8.mono (by omega),hrun⟩
         · rw [runOps_stop hc0] at hrun
           rw [hrun]
           generalize runOps d' (putOps sz A (hdrP sz b (gen+1)))=r at *
           obtain ⟨d8,code⟩:=r
           dsimp only at hc0 hw8 hs8 ⊢
           rw [if_neg hc0]
           obtain ⟨hw9,ht9⟩:=hw8.goDown
           obtain ⟨sa8,sc8,hb8,_⟩:=hw8.at_
           dsimp only at hb8
           unfold errV
           simp (maxSteps:=3000000) (disch:=omega) only [push_cast,seval,hb8.cell,hb8.free]
           exact ⟨D8,hw9,(JT.quiet hu05).trans (ht78.trans ht9)⟩
 · simp (maxSteps:=3000000) (disch:=omega) only [push_cast,seval,hb1.cell]
   exact ⟨rfl,D,h,JT.refl⟩
end Go.Proofs.YtpgigkceoolgeaaGreatDoor.Fd
