import Derived.Test.YtpgigkceoolgeaaGreatDoorY27
set_option linter.all false
namespace Go.Proofs.YtpgigkceoolgeaaGreatDoor.Fd
open Go
set_option maxRecDepth 100000
abbrev DOp:=Option (Nat×List Int)
def DS.op (d:DS):DOp→DS×Int
 | none=>d.sync
 | some x=>d.write x.1 x.2
def runOps (d:DS):List DOp→DS×Int
 | []=>(d,0)
 | o :: r=>if (d.op o).2=0 then runOps (d.op o).1 r else d.op o
theorem runOps_ok {d:DS} {o:DOp} {r:List DOp} (h:(d.op o).2=0):runOps d (o :: r)=runOps (d.op o).1 r:=by rw [runOps,if_pos h]
theorem runOps_bad {d:DS} {o:DOp} {r:List DOp} (h:(d.op o).2≠0):runOps d (o :: r)=d.op o:=by rw [runOps,if_neg h]
theorem runOps_append {a b:List DOp} : ∀{d:DS},runOps d (a ++ b)=if (runOps d a).2=0 then runOps (runOps d a).1 b else runOps d a:=by
 induction a with
 | nil=>intro d; rfl
 | cons o r ih=>
   intro d
   rw [List.cons_append]
   by_cases h:(d.op o).2=0
   · rw [runOps_ok h,runOps_ok h,ih]
   · rw [runOps_bad h,runOps_bad h,if_neg h]
theorem Sz.op {n s i:Nat} {d:DS} (h:Sz n s i d) (o:DOp):Sz n s (i+1) (d.op o).1:=by
 cases o with
 | none=>exact h.sync.mono (by omega)
 | some x=>exact h.write _ _
theorem Sz.ops {n s:Nat} : ∀{l:List DOp} {i:Nat} {d:DS},Sz n s i d→Sz n s (i+l.length) (runOps d l).1
 | [],i,d,h=>h
 | o :: r,i,d,h=>by
   unfold runOps
   split
   · exact (Sz.ops (l:=r) (h.op o)).mono (by simp; omega)
   · exact (h.op o).mono (by simp)
def chunk (sz:Nat) (b:List Int) (i:Nat):List Int:=pad sz ((b.drop (sz*i)).take sz)
def nch (sz len:Nat):Nat:=(len+sz-1)/sz
def chL (sz:Nat) (b:List Int) (at_:Nat):List DOp:=(List.range (nch sz b.length)).map fun i=>some (at_+i,chunk sz b i)
def putOps (sz at_:Nat) (b:List Int):List DOp:=chL sz b at_ ++ [none]
theorem chunk_length {sz i:Nat} {b:List Int}:(chunk sz b i).length=sz:=pad_length (by rw [List.length_take]; omega)
theorem chL_length {sz at_:Nat} {b:List Int}:(chL sz b at_).length=nch sz b.length:=by simp [chL]
theorem chL_drop {sz at_ t:Nat} {b:List Int} (h:t<nch sz b.length):(chL sz b at_).drop t=some (at_+t,chunk sz b t) :: (chL sz b at_).drop (t+1):=by
 rw [List.drop_eq_getElem_cons (by rw [chL_length]; exact h)]
 simp [chL]
theorem nch_le {sz len t:Nat} (hz:0<sz):t<nch sz len↔sz*t<len:=by
 unfold nch
 rw [Nat.lt_div_iff_mul_lt hz,Nat.mul_comm]
 omega
set_option maxHeartbeats 2000000 in
theorem put_ok {w:World} {D J:Nat→Prop} {p cb:Nat} {s:DS×CS} (h:CW w D J p cb s) {n sz i:Nat} (hs:Sz n sz i s.1) (hi:i≤900000) (hz:0<sz) (hz2:sz≤4096) {x:Nat} (hx:x≤200000)
   {y:Value} {b:List Int} (hy:SlC w (FF D J) y b) (hb:b.length≤409600000) (hb2:nch sz b.length≤100000) :
   Ok (den Tryz.prog 158 #[.pointer (some ⟨cb,0,none⟩),.int .i64 (x:Int),y] w) fun u w'=>u=errV (runOps s.1 (putOps sz x b)).2∧∃D',CW w' D' J p cb ((runOps s.1 (putOps sz x b)).1,s.2)∧JT w w' D D' cb:=by
 obtain ⟨ya,yc,rfl,hyc⟩:=id hy.2
 refine den_ok (args:=[.pointer (some ⟨cb,0,none⟩),.int .i64 (x:Int),.slice ya b.length yc]) rs158 Tryz.func158 rfl mixed in158 ok158 rfl ?_
 simp (maxSteps:=3000000) (disch:=omega) only [push_cast,seval]
 refine loop_inv (I:=fun k st w'=>Bx (∃t v d D',k+t=nch sz b.length∧st = [.int .i64 ((x+t:Nat):Int),v]∧SlC w' (FF D' J) v (b.drop (sz*t))∧CW w' D' J p cb (d,s.2)∧JT w w' D D' cb∧Sz n sz (i+t) d∧runOps s.1 (putOps sz x b)=runOps d ((chL sz b x).drop t ++ [none])) ⟨⟩) ?_ (nch sz b.length)
   ⟨0,.slice ya b.length yc,s.1,D,by omega,by simp,by simpa using hy,h,JT.refl,hs,by rw [List.drop_zero]; rfl⟩
 rintro k st w1 ⟨t,v,d,D1,hk,rfl,h1,hw1,ht1,hs1,hrun⟩
 obtain ⟨va,vc,rfl,hvc⟩:=id h1.2
 obtain ⟨sa,sc,hb1,_⟩:=hw1.at_
 have hld:(b.drop (sz*t)).length=b.length-sz*t:=List.length_drop
 have hsz:=hs1.size
 have hd1:IsDisk w1 D1 p d:=hw1.disk
 by_cases hk0:k=0
 · obtain rfl:t=nch sz b.length:=by omega
   have hge : ¬sz*nch sz b.length<b.length:=fun hh=>absurd ((nch_le hz).2 hh) (by omega)
   have hlt : ¬(0:Int)<(b.drop (sz*nch sz b.length)).length:=by omega
   generalize b.drop (sz*nch sz b.length)=B at *
   simp (maxSteps:=3000000) (disch:=omega) only [push_cast,seval,hlt,hb1.cell]
   refine Ok.use (sync_ok hd1 (by have:=hs1.few; omega) hs1.cnt) ?_
   rintro u w2 ⟨rfl,hd2,hu2⟩
   have ht2:JT w1 w2 D1 (gr D1 w1 w2) cb:=⟨fun b hb=>hb,fun b hb=>.inl hb,hu2.mono fun b _ hb=>.inl hb⟩
   have hw2:=hw1.disked hd2 ht2 hu2
   have e:runOps d ((chL sz b x).drop (nch sz b.length) ++ [none])=d.sync:=by
     rw [List.drop_of_length_le (by rw [chL_length]; exact Nat.le_refl _),List.nil_append]
     by_cases hh:(d.op none).2=0
     · rw [runOps_ok hh]
       show (d.sync.1,(0:Int))=d.sync
       exact Prod.ext rfl hh.symm
     · rw [runOps_bad hh]; rfl
   rw [hrun,e]
   simp (maxSteps:=3000000) (disch:=omega) only [push_cast,seval]
   exact ⟨rfl,_,hw2,ht1.trans ht2⟩
 have htn:t<nch sz b.length:=by omega
 have hlt0:=(nch_le hz).1 htn
 have hlt:(0:Int)<(b.drop (sz*t)).length:=by omega
 rw [chL_drop htn,List.cons_append] at hrun
 have hck:chunk sz b t=pad sz ((b.drop (sz*t)).take sz):=rfl
 have hd2:b.drop (sz*(t+1))=(b.drop (sz*t)).drop sz:=by rw [List.drop_drop,Nat.mul_succ]
 have hxt:x+t≤300000:=by omega
 obtain ⟨X,hX⟩ : ∃X,X=x+t:=⟨_,rfl⟩
 rw [←hX] at hrun hxt ⊢
 generalize b.drop (sz*t)=B at *
 have hB0:B[0]? =some (B[0]'(by omega)):=List.getElem?_eq_getElem _
 obtain ⟨g,o,c,e0,hx0⟩:=h1.at_ hB0
 clear hB0 hx0
 injection e0 with q1 q2 q3
 subst q1 q3
 clear q2
 obtain ⟨m,hm⟩ : ∃m,m=min B.length sz:=⟨_,rfl⟩
 have htk:B.take sz=B.take m:=by
   rcases Nat.le_total B.length sz with hh | hh
   · rw [show m=B.length by omega,List.take_of_length_le hh,List.take_of_length_le (Nat.le_refl _)]
   · rw [show m=sz by omega]
 have hdp:B.drop sz=B.drop m:=by
   rcases Nat.le_total B.length sz with hh | hh
   · rw [show m=B.length by omega,List.drop_of_length_le hh,List.drop_of_length_le (Nat.le_refl _)]
   · rw [show m=sz by omega]
 rw [htk] at hck
 rw [hdp] at hd2
 have hml:(B.take m).length=m:=by rw [List.length_take]; omega
 have hdr:=slc_drop h1.1 (l:=m) (by omega) hvc
 have hB1:=h1.1
 obtain ⟨_,_,e0,hli⟩:=h1.1
 injection e0 with q1 q2 q3
 obtain ⟨gg,oo,e1,hlies,hgF⟩:=hli (by intro e; rw [e] at hlt; simp at hlt)
 rw [←q1] at e1
 simp only [Option.some.injEq,Addr.mk.injEq,and_true] at e1
 obtain ⟨rfl,rfl⟩:=e1
 clear q1 q2 q3 hli
 have hglt:=hlies.lt (by omega)
 have hnew:Blk (w1.alloc (.cells (List.replicate sz (Value.int .u8 0)).toArray 5 (0,0))) w1.heap.size (List.replicate sz (Value.int .u8 0)) 5:=Blk.new
 have hal:Upd (fun _=>False) w1 (w1.alloc (.cells (List.replicate sz (Value.int .u8 0)).toArray 5 (0,0))):=Upd.alloc
 have hcp:=cpy_row (P:=Tryz.prog) (t2:=55) (ty:=3) t55_e t5_s hnew (o:=0) (dl:=sz) (dc:=sz) (b:=g) (so:=o) (sl:=B.length) (sc:=vc) (cs:=by8 (B.take m)) (by rw [by8_length,hml,hm]) (fun j hj=>by
   rw [by8_length,hml] at hj
   rw [(hlies.upd hal hglt (fun h=>h)) j (by rw [by8_length]; omega),by8,by8,List.getElem?_map,List.getElem?_map,List.getElem?_take_of_lt hj]) (by rw [by8_length,hml,List.length_replicate]; omega) by8_one
 have e:(List.replicate sz (Value.int IntKind.u8 0)).take 0 ++ by8 (B.take m) ++ (List.replicate sz (Value.int IntKind.u8 0)).drop (0+(by8 (B.take m)).length)=by8 (chunk sz b t):=by
   rw [hck,List.take_zero,List.nil_append,List.drop_replicate,by8_length,Nat.zero_add,pad,by8_append]
   simp [by8]
 have hset:Blk ((w1.alloc (.cells (List.replicate sz (Value.int .u8 0)).toArray 5 (0,0))).setRow w1.heap.size (by8 (chunk sz b t)).toArray) w1.heap.size (by8 (chunk sz b t)) 5:=hnew.setRow
 have huw:Upd (fun _=>False) w1 ((w1.alloc (.cells (List.replicate sz (Value.int .u8 0)).toArray 5 (0,0))).setRow w1.heap.size (by8 (chunk sz b t)).toArray):=hal.trans (Upd.setRow (F:=fun b=>b=w1.heap.size) rfl) (fun b h1 h2=>by omega)
 have hcl:=chunk_length (sz:=sz) (i:=t) (b:=b)
 rw [e,by8_length,hml] at hcp
 generalize chunk sz b t=ck at *
 clear hck htk e
 have hmB:(m:Int)≤(B.length:Int):=by omega
 have hsl : ∀w':World,slcS Tryz.prog 55 (.slice (some ⟨g,o,none⟩) B.length vc) (some (.int .i64 (m:Int))) none w'=some (.slice (some ⟨g,if vc=m then o else o+m,none⟩) (B.length-m) (vc-m),w'):=fun w'=>by
   have:=slc_lo (P:=Tryz.prog) (t:=55) (w:=w') (b:=g) (o:=o) (n:=B.length) (c:=vc) (k:=.i64) (l:=(m:Int)) (by omega) hmB
   rw [t55_e] at this
   simp only [orK,t5_s,Int.toNat_natCast,Nat.mul_one] at this
   exact this
 simp (maxSteps:=3000000) (disch:=omega) only [push_cast,seval,hlt,hb1.cell]
 refine Ok.use (Size_ok hd1) ?_
 rintro u w2 ⟨rfl,rfl⟩
 rw [hsz]
 generalize (w1.alloc (.cells (List.replicate sz (Value.int .u8 0)).toArray 5 (0,0))).setRow w1.heap.size (by8 ck).toArray=w2 at *
 have hw2:=hw1.quiet huw
 obtain ⟨sa2,sc2,hb2,_⟩:=hw2.at_
 simp (maxSteps:=3000000) (disch:=omega) only [push_cast,seval,hcp,hsl,hb2.cell]
 have hD : ¬D1 w1.heap.size:=fun hd=>by have:=hd1.bd _ hd; omega
 have hsk:SlB w2 D1 (.slice (some ⟨w1.heap.size,0,none⟩) sz sz) ck:=by
   have:=slb_new hset (c:=sz) hD
   rw [hcl] at this
   exact this
 refine Ok.use (write_ok hw2.disk (by rw [show (d,s.2).1=d from rfl,hsz]; exact hz) (by have:=hs1.few; show d.cache.length<_; omega) hs1.cnt (X:Int) hsk) ?_
 rintro u w3 ⟨rfl,hd3,hu3⟩
 have ht3:JT w2 w3 D1 (gr D1 w2 w3) cb:=⟨fun b hb=>hb,fun b hb=>.inl hb,hu3.mono fun b _ hb=>.inl hb⟩
 have hw3:=hw2.disked hd3 ht3 hu3
 have hs3:=hs1.write (X:Int) ck
 have hcode:=write_code (d:=d) (x:=(X:Int)) (l:=ck)
 obtain ⟨sa3,sc3,hb3,_⟩:=hw3.at_
 have ht:=(ht1.trans (JT.quiet huw)).trans ht3
 have hsl3:=(JT.quiet huw).slc hw1.jj hdr
 have hsl4:=ht3.slc hw1.jj hsl3
 have hop:d.op (some (X,ck))=d.write (X:Int) ck:=rfl
 have hR:(d,s.2).1.write (X:Int) ck=d.write (X:Int) ck:=rfl
 rw [hR] at hw3 ⊢
 clear hR
 by_cases hc0:(d.write (X:Int) ck).2=0
 · rw [runOps_ok (by rw [hop]; exact hc0),hop] at hrun
   generalize d.write (X:Int) ck=r at *
   obtain ⟨d',code⟩:=r
   dsimp only at hc0 hw3 hb3 hs3 hrun ⊢
   subst hc0
   simp (maxSteps:=3000000) (disch:=omega) only [push_cast,seval,hb3.cell]
   refine ⟨k-1,by omega,t+1,_,d',_,by omega,by rw [show (x:Int)+((t+1:Nat):Int)=(X:Int)+1 by omega],?_,hw3,ht,?_,hrun⟩
   · rw [hd2]; exact hsl4
   · rw [←Nat.add_assoc]; exact hs3
 · rw [runOps_bad (by rw [hop]; exact hc0),hop] at hrun
   rw [hrun]
   generalize d.write (X:Int) ck=r at *
   obtain ⟨d',code⟩:=r
   dsimp only at hc0 hw3 hb3 hs3 ⊢
   simp (maxSteps:=3000000) (disch:=omega) only [push_cast,seval,hb3.cell]
   exact ⟨rfl,_,hw3,ht⟩
end Go.Proofs.YtpgigkceoolgeaaGreatDoor.Fd
