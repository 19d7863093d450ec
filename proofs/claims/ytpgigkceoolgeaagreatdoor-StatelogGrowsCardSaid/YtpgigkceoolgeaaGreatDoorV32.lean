import Derived.Test.YtpgigkceoolgeaaGreatDoorV31
set_option linter.all false
namespace Go.Proofs.YtpgigkceoolgeaaGreatDoor.Fd
open Go
set_option maxRecDepth 100000
theorem aAE (w:World):bldS Tryz.prog 92 #[] w=some (.agg #[.pointer none,.pointer none,.slice none 0 0,.slice none 0 0,.slice none 0 0,.int .i64 0,.bool false],w):=by kernel_rfl
def con0:Con:=⟨[],⟨[],[]⟩,0⟩
def replay (n:Con)(rs:List Rec):Con:=rs.foldl applyR n
structure ConA (n : Con) : Prop where
 s : ∀x,x∈n.st→CmdS x
 sl:n.st.length≤500000
 bl:n.bas.steps.length≤1000000
 cl:(confB n.bas).length≤1000000000
theorem SlB.avoid {w:World}{F:Nat→Prop}{v:Value}{l:List Int}(h:SlB w F v l){k:Nat}{cs:List Value}{E:TypeId}(hb:Blk w k cs E)(hc : ∀u,u∈cs→∀x,u≠.int .u8 x):SlB w (fun b=>F b∨b=k) v l:=by
 obtain⟨a,c,hv,hl⟩:=h;refine⟨a,c,hv,fun h0=>?_⟩;obtain⟨b,o,h1,h2,h3⟩:=hl h0;refine⟨b,o,h1,h2,fun hh=>hh.elim h3 fun e=>?_⟩;subst e;have h4:=gJ h2 (j:=0) (List.length_pos_iff.2 h0);rw[hb.cell] at h4;exact hc _ (List.mem_of_getElem? h4) _ rfl
set_option maxHeartbeats 4000000 in
theorem aAF {w:World}(hK:KT w){D:Nat→Prop}{p:Nat}{d:DS}(h:IsDisk w D p d)(hD0 : ¬D 1){N sz i:Nat}(hs:Sz N sz i d)(hi:i≤900000)(hN:N≤60000)(hz:64≤sz)(hz2:sz≤4096){first count:Nat}(hc8:8≤count)(hfc:first+count≤N)(har:count*sz≤410000)
 (hsec : ∀y,y<N→(d.content y).length=sz∧Rng (d.content y)) (hrd:RngD d) (hoff:d.off=false) {j:JS} {rs:List Rec} {n0:Con}
 (hj:jopen d (first+count/2) (count-count/2)=(some j,0)) (hjs:j.stream.length≤1000000) (hsp:spl j.stream=some (rs.map encRc)) (hcn:((openC d first (count/2/2)).gen=0∧n0=con0)∨(0<(openC d first (count/2/2)).gen∧(openC d first (count/2/2)).newest=encCn n0∧ConS n0))
 (hcl:(openC d first (count/2/2)).newest.length≤1000000) (hcg:(openC d first (count/2/2)).gen≤4611686018427387904)
 (hr : ∀r,r∈rs→RecW r∧(encRc r).length≤1000000) (ha : ∀k,k<rs.length→ConA (replay n0 (rs.take k))) (hrn:rs.length≤1000000) :
 Ok (den Tryz.prog 11 #[.pointer (some ⟨p,0,none⟩),.int .i64 (first:Int),.int .i64 (count:Int)] w) fun v w'=>∃lb jb cb J,v = .tuple #[.pointer (some ⟨lb,0,none⟩),.int .i64 0]∧(∀b,J b→w.heap.size≤b)∧LW w' D J p lb jb cb ⟨d,j,openC d first (count/2/2),replay n0 rs,false⟩∧Upd NoB w w':=by
 have hdl:=hs.dur;have hsz:=hs.size;obtain⟨half,hhf⟩ : ∃half,half=count/2:=⟨_,rfl⟩;obtain⟨k2,hk2⟩ : ∃k2,k2=count-count/2:=⟨_,rfl⟩;obtain⟨f2,hf2⟩ : ∃f2,f2=first+count/2:=⟨_,rfl⟩
 rw[←hk2,←hf2] at hj;rw[←hhf] at hcn hcl hcg ⊢;have e2:IntKind.i64.wrap ((count:Int).tdiv 2)=(half:Int):=by
  rw[show(2:Int)=((2:Nat):Int) from rfl,←Int.ofNat_tdiv,IntKind.wrap_i64]; omega
 have ef:(first:Int)+(half:Int)=(f2:Int):=by omega
 have ek:(count:Int)-(half:Int)=(k2:Int):=by omega
 have h1 : ¬(first:Int)<0:=by omega
 have h2 : ¬(count:Int)<8:=by omega
 have h3 : ¬(N:Int)<(first:Int):=by omega
 have h4 : ¬(N:Int)-(first:Int)<(count:Int):=by omega
 have h5 : ¬(sz:Int)<64:=by omega
 refine aB (args:=[.pointer (some ⟨p,0,none⟩),.int .i64 (first:Int),.int .i64 (count:Int)]) rs11 Tryz.func11 rfl mixed (by kernel_rfl) MP rfl ?_
 simp(maxSteps:=3000000)(disch:=omega)only[push_cast,seval,h1,h2];refine Ok.use (dQ h) ?_;rintro v _ ⟨rfl,rfl⟩;rw[hdl];simp(maxSteps:=3000000)(disch:=omega)only[push_cast,seval,h3];refine Ok.use (dQ h) ?_;rintro v _ ⟨rfl,rfl⟩;rw[hdl];simp(maxSteps:=3000000)(disch:=omega)only[push_cast,seval,h4];refine Ok.use (bM h) ?_;rintro v _ ⟨rfl,rfl⟩;rw[hsz];simp(maxSteps:=3000000)(disch:=omega)only[push_cast,seval,h5];refine Ok.use (kJ h) ?_;rintro v _ ⟨rfl,rfl⟩;rw[hoff];generalize hKs:KS _ _ _ _ _=Ks;simp(maxSteps:=3000000)(disch:=omega)only[push_cast,seval,e2];subst hKs;rw[aC];simp(maxSteps:=3000000)(disch:=omega)only[push_cast,seval,e2,aAE,ef,ek];have b1:=Blk.new (w:=w) (cs:=[.pointer none,.pointer none,.slice none 0 0,.slice none 0 0,.slice none 0 0,.int .i64 0,.bool false]) (E:=92);have u1:Upd NoB w (w.alloc (.cells [.pointer none,.pointer none,.slice none 0 0,.slice none 0 0,.slice none 0 0,.int .i64 0,.bool false].toArray 92 (0,0))):=Upd.alloc;generalize w.alloc (.cells [.pointer none,.pointer none,.slice none 0 0,.slice none 0 0,.slice none 0 0,.int .i64 0,.bool false].toArray 92 (0,0))=w1 at *;refine Ok.use (ZA (hK.upd u1 fun h=>h) (h.upd u1 fun _ _ h=>h) hD0 hs hi (by omega) hz hz2 (first:=first) (count:=half) (by omega) (by omega) (by omega) (by omega) hsec) ?_
 rintro u w2 ⟨hu,u2⟩;rw[hoff,if_neg (by simp)] at hu;obtain⟨cb,hcb,rfl,hw2⟩:=hu;have b2:=b1.upd u2 fun h=>h;have s1:=u1.size;have s2:=u2.size;have l1:=b1.lt;generalize hKs:KS _ _ _ _ _=Ks;simp(maxSteps:=3000000)(disch:=omega)only[push_cast,seval,b2.cell,b2.free];have b3:=b2.set 1 (.pointer (some ⟨cb,0,none⟩));simp only[List.set_cons_succ,List.set_cons_zero] at b3;have u23:Upd (fun b=>b=w.heap.size) w2 (w2.setCell ⟨w.heap.size,1,none⟩ (.pointer (some ⟨cb,0,none⟩))):=Upd.set (F:=fun b=>b=w.heap.size) rfl;generalize w2.setCell ⟨w.heap.size,1,none⟩ (.pointer (some ⟨cb,0,none⟩))=w3 at *;have v3:Upd NoB w w3:=(u1.trans u2 fun _ _ h=>h).trans u23 fun b hb e=>by omega
 have s3:=u23.size;subst hKs;rw[aC];simp(maxSteps:=3000000)(disch:=omega)only[push_cast,seval,ef,ek];have hd3:IsDisk w3 D p d:=h.upd v3 fun _ _ h=>h;have hbd:=h.bd;refine Ok.use (SV hd3 hs (by omega) (by omega) hz2 hrd (f:=f2) (c:=k2) (by omega) (by omega) (by omega) (by
  have:k2*sz≤count*sz:=Nat.mul_le_mul_right sz (by omega);have h8:2*k2≤count+1:=by omega
  have h9:2*(k2*sz)≤(count+1)*sz:=by rw[←Nat.mul_assoc]; exact Nat.mul_le_mul_right sz h8
  rw[Nat.add_mul] at h9;omega)) ?_
 rintro u w4 ⟨hu,u4⟩;rw[hj] at hu;obtain⟨jb,rfl,hjb,hjb2,hjo⟩:=hu;have b4:=b3.upd u4 fun h=>h;generalize hKs:KS _ _ _ _ _=Ks;simp(maxSteps:=3000000)(disch:=omega)only[push_cast,seval,b4.cell,b4.free];have b5:=b4.set 0 (.pointer (some ⟨jb,0,none⟩));simp only[List.set_cons_succ,List.set_cons_zero] at b5;have u45:Upd (fun b=>b=w.heap.size) w4 (w4.setCell ⟨w.heap.size,0,none⟩ (.pointer (some ⟨jb,0,none⟩))):=Upd.set (F:=fun b=>b=w.heap.size) rfl;generalize w4.setCell ⟨w.heap.size,0,none⟩ (.pointer (some ⟨jb,0,none⟩))=w5 at *;have s4:=u4.size;have v4:=v3.trans u4 fun _ _ h=>h;have v5:Upd NoB w w5:=v4.trans u45 fun b hb e=>by omega
 have hcb2:cb<w2.heap.size:=(hw2.sep cb rfl).2;obtain⟨J,hJ⟩ : ∃J:Nat→Prop,J=fun b=>b=jb∨b=cb∨b=w.heap.size:=⟨_,rfl⟩;have hJn : ∀b,J b→w.heap.size≤b:=by rw[hJ]; intro b hb; omega
 have hL:LW w5 D J p w.heap.size jb cb ⟨d,j,openC d first (half/2),con0,false⟩:=by
  obtain⟨jv,j1,j2,j3⟩:=hjo;obtain⟨nv,c1,c2,c3⟩:=hw2.obj;have c2':=c2.1.avoid b2 fun u hu x e=>by subst e; simp at hu
  have u35:Upd (fun b=>b=w.heap.size) w3 w5:=(u4.mono (G:=fun b=>b=w.heap.size) fun _ _ h=>h.elim).trans u45 fun _ _ h=>h;have u25:Upd (fun b=>b=w.heap.size) w2 w5:=u23.trans u35 fun _ _ h=>h;have hsep : ∀b,J b→¬D b∧b<w5.heap.size:=by
   have s5:=u45.size;rw[hJ];intro b hb;exact⟨fun hd=>by have:=hbd b hd; omega,by omega⟩
  have hd5:IsDisk w5 D p d:=h.upd v5 fun _ _ h=>h;have j2':SlC w5 (FF D J) jv j.stream:=by
   refine⟨j2.1.go u45 fun b hb hh=>?_,j2.2⟩;rcases hh with hh | hh | hh
   ·exact .inl (by omega)
   ·exact .inl (by have:=hbd b hh; omega)
   ·rw[hJ] at hh;rcases hh with hh | hh | hh
    ·exact .inr hh
    ·exact .inl (by omega)
    ·exact .inl (by omega)
  have c2'':SlC w5 (FF D J) nv (openC d first (half/2)).newest:=by
   refine⟨c2'.go u25 fun b hb hh=>?_,c2.2⟩;rcases hh with hh | hh | hh
   ·exact .inr hh
   ·exact .inl (.inl hh)
   ·rw[hJ] at hh;rcases hh with hh | hh | hh
    ·omega
    ·exact .inl (.inr hh)
    ·exact .inr hh
  exact⟨⟨hd5,⟨jv,j1.upd u45 (by omega),j2',j3⟩,by rw[hJ]; exact .inl rfl,hsep⟩,
   ⟨hd5,⟨nv,c1.upd u25 (by omega),c2'',c3⟩,by rw[hJ]; exact .inr (.inl rfl),hsep,hK.upd v5 fun h=>h,hD0,by rw[hJ]; have:=hK.1; omega⟩,
   ⟨[.slice none 0 0,.slice none 0 0,.slice none 0 0,.int .i64 0],b5,⟨_,_,_,rfl,SlD.nil,⟨_,_,rfl,SlD.nil,SlD.nil,dM⟩,⟨fun x h=>by simp[con0] at h,dM,Int.le_refl 0,by show(0:Int)≤_; omega⟩⟩⟩,by rw[hJ]; exact .inr (.inr rfl),by omega⟩
 subst hKs;rw[aC];have b5c:=b5.cell;simp(maxSteps:=3000000)(disch:=omega)only[push_cast,seval,b5c];refine Ok.use (YU hL.cw (by show(openC d first (half/2)).newest.length≤900000000; omega) hcg) ?_
 rintro u w6 ⟨lv,rfl,lf⟩;have h6:=hL.quiet lf.upd;have v6:=v5.trans lf.upd fun _ _ h=>h;have b6:=b5.upd lf.upd fun h=>h;obtain⟨lva,lvc,rfl,_⟩:=lf.own.form;dsimp only at lf ⊢;generalize hc:openC d first (half/2)=c at *
 generalize hKs:KS _ _ _ _ (retK _ _)=Ks;have hend : ∀(ρ:Env) (w7:World),ρ 9 = .pointer (some ⟨w.heap.size,0,none⟩)→ρ 11 = .bool true→LW w7 D J p w.heap.size jb cb ⟨d,j,c,n0,false⟩→Upd NoB w w7→Ks (.normal,ρ,w7):=by
  intro ρ w7 p9 p11 h7 v7;subst hKs;rw[aC];obtain⟨cs7,hb7,_⟩:=h7.box;simp(maxSteps:=3000000)(disch:=omega)only[push_cast,seval,p9,p11,hb7.cell];refine Ok.use (SP h7.jw hjs) ?_;rintro u w8 ⟨hm,u8⟩;dsimp only at hm;rw[hsp] at hm;dsimp only at hm;have h8:=h7.quiet u8;have v8:=v7.trans u8 fun _ _ h=>h;obtain⟨ra,rc,rfl,hrec⟩:=hm;simp(maxSteps:=3000000)(disch:=omega)only[push_cast,seval,p9,p11];have hlm:(rs.map encRc).length=rs.length:=List.length_map _;rw[hlm];refine aE (I:=fun k st w'=>Bx (∃t:Nat,k+t=rs.length∧st = [.bool true,.int .i64 (t:Int)]∧LW w' D J p w.heap.size jb cb ⟨d,j,c,replay n0 (rs.take t),false⟩∧Upd NoB w w'∧Upd (fun b=>b=w.heap.size) w8 w') ⟨⟩) ?_ rs.length ⟨0,rfl,rfl,h8,v8,Upd.refl⟩;rintro k st w9 ⟨t,hk,rfl,h9,v9,u89⟩;obtain⟨cs9,hb9,hn9⟩:=h9.box;obtain⟨xa,xc,sa,sc,ta,tc,rfl,_⟩:=aQ hn9;simp only[List.cons_append,List.nil_append] at hb9;by_cases hk0:k=0
  ·obtain rfl:t=rs.length:=by omega
   rw[List.take_length] at h9;simp(maxSteps:=3000000)(disch:=omega)only[push_cast,seval,p9,p11];exact⟨_,_,_,J,rfl,hJn,h9,v9⟩
  have ht:t<rs.length:=by omega
  have ht':(t:Int)<(rs.length:Int):=by omega
  have hx:=List.getElem?_eq_getElem ht;generalize hre:rs[t]=r at hx;have hrm:r∈rs:=by rw[←hre]; exact List.getElem_mem ht
  obtain⟨g,o,rfl,hg1,hg2,hg3⟩:=hrec (fun e=>by have:=congrArg List.length e; rw[hlm] at this; simp at this; rw[this] at ht; simp at ht);obtain⟨u,hu1,hu2⟩:=hg3 t (encRc r) (by rw[List.getElem?_map,hx]; rfl);have hw7:w.heap.size<w7.heap.size:=h7.lt;have hcl9:w9.cell? ⟨g,o+t,none⟩=some u:=by rw[World.cell?_of_block (u89.block g hg1 fun e=>hg2 (by omega))]; exact hu1
  have hu9:SlB w9 (fun b=>b<w7.heap.size) u (encRc r):=hu2.upd u89 fun b e=>by omega
  obtain⟨ua,uc,rfl⟩:=hu9.form;have hA:=ha t ht;simp(maxSteps:=3000000)(disch:=omega)only[push_cast,seval,p9,p11,ht',hcl9,hb9.cell];refine Ok.use (XB hn9 hu9 (hr r hrm).1 (hr r hrm).2 hA.s hA.sl hA.bl hA.cl) ?_;rintro u w10 ⟨cs10,rfl,n10,u10⟩;have h10:=h9.quiet u10;obtain⟨w11,hst,h11,_,u11⟩:=h10.store (n:=applyR (replay n0 (rs.take t)) r) (cs:=cs10) (aJ.go n10 (Upd.refl (F:=NoB)) fun b _ hh=>hh.elim (fun hh=>hh.elim) fun hh=>⟨hh,h9.bd hh⟩);simp(maxSteps:=3000000)(disch:=omega)only[push_cast,seval,p9,p11,hst];have e:replay n0 (rs.take (t+1))=applyR (replay n0 (rs.take t)) r:=by
   unfold replay;rw[List.take_add_one,hx,Option.toList_some,List.foldl_append];rfl
  exact⟨k-1,by omega,t+1,by omega,rfl,by rw[e]; exact h11,(v9.trans u10 fun _ _ h=>h).trans u11 fun b hb e=>by omega,(u89.trans u10 fun _ _ h=>h.elim).trans u11 fun _ _ h=>h⟩
 rcases hcn with ⟨hg,hn⟩ | ⟨hg,hnw,hns⟩
 ·have e:cload c=([],0):=by unfold cload; rw[if_pos hg]
  rw[e] at lf;rw[e];simp(maxSteps:=3000000)(disch:=omega)only[push_cast,seval];exact hend _ _ rfl rfl (by rw[hn]; exact h6) v6
 ·have e:cload c=(c.newest,c.gen):=by unfold cload; rw[if_neg (by omega)]
  rw[e] at lf;rw[e];have hg':(0:Int)<(c.gen:Int):=by omega
  simp(maxSteps:=3000000)(disch:=omega)only[push_cast,seval,hg'];have hnl:(encCn n0).length≤1000000:=by rw[←hnw]; exact hcl
  have hly:SlB w6 NoB (.slice lva c.newest.length lvc) (encCn n0):=by
   rw[←hnw];exact lf.own.slb fun _ _ h=>h
  refine Ok.use (rZ hly hns.w hns.o hns.to hnl) ?_;rintro u w7 ⟨cs7,rfl,n7,u7⟩;have h7:=h6.quiet u7;obtain⟨w8,hst,h8,_,u8⟩:=h7.store (n:=n0) (cs:=cs7) (aJ.go n7 (Upd.refl (F:=NoB)) fun b _ hh=>hh.elim (fun hh=>hh.elim) fun hh=>h6.bd hh);simp(maxSteps:=3000000)(disch:=omega)only[push_cast,seval,hst];exact hend _ _ rfl rfl h8 ((v6.trans u7 fun _ _ h=>h).trans u8 fun b hb e=>by omega)
open Go
set_option maxRecDepth 100000
def LeN (n m:Con):Prop:=(∀x,x∈n.st→x∈m.st)∧(confB n.bas).length≤(confB m.bas).length∧n.life≤m.life
theorem LeN.refl {n:Con}:LeN n n:=⟨fun _ h=>h,Nat.le_refl _,Int.le_refl _⟩
def AbsR (n:Con):Rec→Prop
 | .ext l=>∀x,x∈l→x∈n.st
 | .reb b=>(∀x,x∈b.taken→x∈n.st)∧(confB b).length≤(confB n.bas).length
 | .liv k=>(k:Int)≤n.life
theorem AbsR.mono {n m:Con}{r:Rec}(h:AbsR n r)(hl:LeN n m):AbsR m r:=by
 cases r with
 | ext l=>exact fun x hx=>hl.1 x (h x hx)
 | reb b=>exact⟨fun x hx=>hl.1 x (h.1 x hx),Nat.le_trans h.2 hl.2.1⟩
 | liv k=>exact Int.le_trans h hl.2.2
theorem nA {n:Con}{l:List Cmd}(h1 : ∀x,x∈n.st→CmdS x)(h2 : ∀x,x∈l→CmdS x){x:Cmd}:x∈(joinN n l).st↔x∈n.st∨x∈l:=by
 show x∈ofC (n.st ++ l)↔_;rw[bL fun y hy=>(List.mem_append.1 hy).elim (h1 y) (h2 y),List.mem_append]
theorem uM {n:Con}{l:List Cmd}(h1 : ∀x,x∈n.st→CmdS x)(ho:SrtC n.st)(h2 : ∀x,x∈l→CmdS x)(h : ∀x,x∈l→x∈n.st):joinN n l=n:=by
 have e:n.st=ofC (n.st ++ l):=gH (fun y hy=>(List.mem_append.1 hy).elim (h1 y) (h2 y)) ho fun z=>by
  rw[List.mem_append];exact⟨.inl,fun h'=>h'.elim id (h z)⟩
 unfold joinN;rw[←e]
theorem aAG {n:Con}(hn:ConS n){r:Rec}(hr:RecW r)(h:AbsR n r):applyR n r=n:=by
 cases r with
 | ext l=>exact uM hn.s hn.o hr.1 h
 | reb b=>
  show rebN n b=n;unfold rebN;rw[uM hn.s hn.o hr.2.1 h.1,if_neg (by have:=h.2; omega)]
 | liv k=>
  show({n with life:=max n.life k}:Con)=n;have:max n.life (k:Int)=n.life:=Int.max_eq_left h;rw[this]
theorem jR {n:Con}(hn:ConS n){r:Rec}(hr:RecW r):LeN n (applyR n r)∧AbsR (applyR n r) r:=by
 cases r with
 | ext l=>
  have hm:=fun x=>nA (n:=n) (l:=l) hn.s hr.1 (x:=x);exact⟨⟨fun x hx=>(hm x).2 (.inl hx),Nat.le_refl _,Int.le_refl _⟩,fun x hx=>(hm x).2 (.inr hx)⟩
 | reb b=>
  have hm:=fun x=>nA (n:=n) (l:=b.taken) hn.s hr.2.1 (x:=x);have hb:(rebN n b).bas=if (confB n.bas).length<(confB b).length then b else n.bas:=rfl
  refine⟨⟨fun x hx=>(hm x).2 (.inl hx),?_,Int.le_refl _⟩,fun x hx=>(hm x).2 (.inr hx),?_⟩
  ·show _≤(confB (rebN n b).bas).length;rw[hb]; split <;> omega
  ·show _≤(confB (rebN n b).bas).length;rw[hb]; split <;> omega
 | liv k=>exact⟨⟨fun _ h=>h,Nat.le_refl _,Int.le_max_left _ _⟩,Int.le_max_right _ _⟩
theorem jS {n:Con}(hn:ConS n) : ∀{rs:List Rec},(∀r,r∈rs→RecW r)→(∀r,r∈rs→AbsR n r)→replay n rs=n
 | [],_,_=>rfl
 | r :: rs,hr,h=>by
  show replay (applyR n r) rs=n;rw[aAG hn (hr r List.mem_cons_self) (h r List.mem_cons_self)];exact jS hn (fun x hx=>hr x (List.mem_cons_of_mem _ hx)) fun x hx=>h x (List.mem_cons_of_mem _ hx)
structure Geo (N sz first count : Nat) : Prop where
 z1:64≤sz
 z2:sz≤4096
 c8:8≤count
 fc:first+count≤N
 n1:N≤60000
 ar:(count-count/2)*sz≤250000
 ar2:count*sz≤410000
theorem Geo.dims {N sz first count:Nat}(h:Geo N sz first count):Dims N (first+count/2) (count-count/2) sz:=by
 have:=h.z1;have:=h.z2;have:=h.c8;have:=h.fc;have:=h.n1;exact⟨by omega,h.z2,by omega,by omega,by omega,h.ar⟩
theorem HoldsL.congr {L L':Nat→List Int}{f c s:Nat}{st:List Int}(h:HoldsL L f s st)(hfit:st.length≤(c-1)*s)(hs:0<s)(hc:1≤c)(he : ∀a,f≤a→a<f+c→L' a=L a):HoldsL L' f s st:=by
 refine⟨by rw[he f (by omega) (by omega)]; exact h.1,fun p hp=>?_⟩;have hq:p/s<c-1:=(Nat.div_lt_iff_lt_mul hs).2 (by omega);have h2:=h.2 p hp;generalize p/s=q at *;rw[he _ (by omega) (by omega)];exact h2
def cpOk (c:CS)(n0:Con):Prop:=(c.gen=0∧n0=con0)∨(0<c.gen∧c.newest=encCn n0∧ConS n0)
structure Fnd (N sz first count G : Nat) (L : Nat → List Int) (n : Con) (rs : List Rec) (n0 : Con) : Prop where
 holds:HoldsL L (first+count/2) sz (stream (rs.map encRc))
 fit:(stream (rs.map encRc)).length≤(count-count/2-1)*sz
 gen:(openL L first (count/2/2)).gen≤G
 cp:cpOk (openL L first (count/2/2)) n0
 rep:replay n0 rs=n
 rw : ∀r,r∈rs→RecW r
 abs : ∀r,r∈rs→AbsR n r
 ch : ∀k,k≤rs.length→ConS (replay n0 (rs.take k))
def FindsL (N sz first count G:Nat)(L:Nat→List Int)(n:Con):Prop:=∃rs n0,Fnd N sz first count G L n rs n0
structure Up (N sz first count G : Nat) (s : LS) (rs : List Rec) (n0 : Con) : Prop where
 wf:WfD N sz 0 s.d
 off:s.d.off=false
 j:s.j=jsOf (first+count/2) (count-count/2) sz (rs.map encRc)
 c:s.c=openL (DurL s.d) first (count/2/2)
 fnd:Fnd N sz first count G (DurL s.d) s.n rs n0
 dn:s.dn=false
structure Dn (N sz first count G : Nat) (s : LS) (n' : Con) : Prop where
 lb:LB N sz 300000 s
 off:s.d.off=true
 dn:s.dn=true
 fin : ∀L:Nat→List Int,(∀a,Poss s.d a (L a))→FindsL N sz first count G L s.n∨FindsL N sz first count G L n'
theorem Up.cache {N sz first count G:Nat}{s:LS}{rs:List Rec}{n0:Con}(h:Up N sz first count G s rs n0):s.d.cache = []:=List.eq_nil_of_length_eq_zero (Nat.le_zero.1 h.wf.sz.few)
theorem WfD.rng {n s i:Nat}{d:DS}(h:WfD n s i d):RngD d:=⟨fun l hl=>(h.dur l hl).2,fun x hx=>(h.cache x hx).2⟩
theorem uN {rs:List Rec}(h : ∀r,r∈rs→RecW r):RngL (rs.map encRc):=by
 intro l hl;obtain⟨r,hr,rfl⟩:=List.mem_map.1 hl;exact jF (h r hr)
theorem Up.good {N sz first count G:Nat}{s:LS}{rs:List Rec}{n0:Con}(h:Up N sz first count G s rs n0):GoodD N (first+count/2) (count-count/2) sz s.d (rs.map encRc):=
 ⟨h.wf.sz,h.off,h.cache,h.wf.rng,h.fnd.holds,h.fnd.fit,uN h.fnd.rw⟩
theorem Up.live {N sz first count G:Nat}{s:LS}{rs:List Rec}{n0:Con}(h:Up N sz first count G s rs n0):Live N sz first (count/2/2) s.d s.c:=
 ⟨h.off,h.cache,h.wf.sz.dur,h.wf.sz.size,h.c⟩
theorem Up.cons {N sz first count G:Nat}{s:LS}{rs:List Rec}{n0:Con}(h:Up N sz first count G s rs n0):ConS s.n:=by
 have:=h.fnd.ch rs.length (Nat.le_refl _);rw[List.take_length,h.fnd.rep] at this;exact this
theorem Up.lb {N sz first count G:Nat}{s:LS}{rs:List Rec}{n0:Con}(g:Geo N sz first count)(h:Up N sz first count G s rs n0):LB N sz 0 s:=by
 have hd:=g.dims;have hl:=h.live.facts (sz:=sz) (n:=count/2/2) (by have:=g.c8; omega) (by have:=g.c8; have:=g.fc; omega) fun a ha=>(h.wf.durl ha).1;have hfc:=g.fc;have hc8:=g.c8;have hn1:=g.n1;refine⟨h.wf,g.z1,g.z2,by rw[hl.2.2.2.1]; omega,by rw[hl.2.2.2.2.1]; omega,by rw[hl.2.2.2.2.1]; omega,hl.1,by rw[h.j]; show first+count/2≤100000; omega,by rw[h.j]; exact hd.area,by rw[h.j]; exact h.fnd.fit⟩
theorem nB {N s k:Nat}{d:DS}(h:WfD N s k d)(hc:d.cache = []):WfD N s 0 d:=⟨⟨h.sz.dur,h.sz.size,by rw [hc]; exact Nat.le_refl _,h.sz.cnt⟩,h.dur,by rw [hc]; intro x hx; cases hx⟩
theorem aAH {N sz first count G:Nat}(g:Geo N sz first count){s:LS}{rs:List Rec}{n0:Con}(h:Up N sz first count G s rs n0){r:Rec}(hr:RecW r)(hn:ConS (applyR s.n r)) :
 ((count-count/2-1)*sz<(stream ((rs ++ [r]).map encRc)).length∧jappend (s.d,s.j) [encRc r]=((s.d,s.j),7))∨
 ((stream ((rs ++ [r]).map encRc)).length≤(count-count/2-1)*sz∧
  (((jappend (s.d,s.j) [encRc r]).2=0∧Up N sz first count G ⟨(jappend (s.d,s.j) [encRc r]).1.1,(jappend (s.d,s.j) [encRc r]).1.2,s.c,applyR s.n r,false⟩ (rs ++ [r]) n0∧(s.d.cnt=none→(jappend (s.d,s.j) [encRc r]).1.1.cnt=none))∨
   ((jappend (s.d,s.j) [encRc r]).2=8∧Dn N sz first count G ⟨(jappend (s.d,s.j) [encRc r]).1.1,(jappend (s.d,s.j) [encRc r]).1.2,s.c,s.n,true⟩ (applyR s.n r)∧s.d.cnt≠none))):=by
 have hd:=g.dims;have hc8:=g.c8;have hz1:=g.z1;have hg:=h.good;have hlb:=h.lb g;have em:(rs ++ [r]).map encRc=rs.map encRc ++ [encRc r]:=by rw[List.map_append]; rfl
 rw[h.j,em];rcases Nat.lt_or_ge ((count-count/2-1)*sz) (stream (rs.map encRc ++ [encRc r])).length with hful | hfit
 ·exact .inl ⟨hful,S1 hg hful⟩
 refine .inr ⟨hfit,?_⟩;have hr1:RngL [encRc r]:=fun l hl=>by simp at hl; subst hl; exact jF hr
 have hres:=S2 hg hd hr1 hfit;have hst:Steps (fun a=>first+count/2≤a∧a<first+count/2+(count-count/2)) s.d (jappend (s.d,jsOf (first+count/2) (count-count/2) sz (rs.map encRc)) [encRc r]).1.1:=
  ZT (z:=(s.d,jsOf (first+count/2) (count-count/2) sz (rs.map encRc))) (f:=first+count/2) (c:=count-count/2) (s:=sz) (fun a h1 h2=>⟨h1,h2⟩) (by
   show Rng (stream (rs.map encRc) ++ stream [encRc r]);rw[←dA];exact rA (hg.rl.append hr1)) rfl h.fnd.fit (by omega) rfl h.wf.sz.size (by omega)
 obtain⟨q,hq⟩ : ∃q,q=jappend (s.d,jsOf (first+count/2) (count-count/2) sz (rs.map encRc)) [encRc r]:=⟨_,rfl⟩
 rw[←hq] at hres hst ⊢;obtain⟨k,hk⟩:=hst.wf h.wf;have hout : ∀L:Nat→List Int,(∀a,Poss q.1.1 a (L a))→∀a,a<first+count/2→L a=DurL s.d a:=fun L hL a ha=>jQ h.cache (hst.poss (fun hh=>by omega) (hL a))
 have hopn : ∀L:Nat→List Int,(∀a,Poss q.1.1 a (L a))→openL L first (count/2/2)=openL (DurL s.d) first (count/2/2):=fun L hL=>jK fun a h1 h2=>hout L hL a (by omega)
 have hle:=jR h.cons hr;have hnew : ∀L:Nat→List Int,(∀a,Poss q.1.1 a (L a))→HoldsL L (first+count/2) sz (stream (rs.map encRc ++ [encRc r]))→Fnd N sz first count G L (applyR s.n r) (rs ++ [r]) n0:=by
  intro L hL hh;refine⟨by rw[em]; exact hh,by rw[em]; exact hfit,by rw[hopn L hL]; exact h.fnd.gen,by rw[hopn L hL]; exact h.fnd.cp,?_,?_,?_,?_⟩
  ·unfold replay;rw[List.foldl_append];show applyR (replay n0 rs) r=_;rw[h.fnd.rep]
  ·intro x hx;rcases List.mem_append.1 hx with hx | hx
   ·exact h.fnd.rw x hx
   ·simp at hx; subst hx; exact hr
  ·intro x hx;rcases List.mem_append.1 hx with hx | hx
   ·exact(h.fnd.abs x hx).mono hle.1
   ·simp at hx; subst hx; exact hle.2
  ·intro k hk;rcases Nat.lt_or_ge rs.length k with hlt | hge
   ·rw[List.length_append,List.length_singleton] at hk;rw[List.take_of_length_le (by rw[List.length_append,List.length_singleton]; omega)];unfold replay;rw[List.foldl_append];show ConS (applyR (replay n0 rs) r);rw[h.fnd.rep];exact hn
   ·rw[List.take_append_of_le_length hge];exact h.fnd.ch k hge
 rcases hres.res with ⟨e0,hgd,hj,hcnt,hdur,_⟩ | ⟨e8,hj,hbd,hcn⟩
 ·refine .inl ⟨e0,?_,hcnt⟩;have hpo : ∀a,Poss q.1.1 a (DurL q.1.1 a):=fun a=>.inl rfl;exact⟨nB hk hgd.cache,hgd.off,by rw[em]; exact hj,by show s.c=_; rw[hopn _ hpo]; exact h.c,hnew _ hpo hgd.holds,rfl⟩
 ·refine .inr ⟨e8,⟨?_,hbd.off,rfl,fun L hL=>?_⟩,hcn⟩
  ·exact⟨⟨hres.sz,hk.dur,hk.cache⟩,hlb.z1,hlb.z2,hlb.cf,hlb.c1,hlb.cn,hlb.cg,by show q.1.2.first≤_; rw[hj]; have:=hlb.jf; rw[h.j] at this; exact this,by show q.1.2.area≤_; rw[hj]; exact hd.area,by show q.1.2.stream.length≤q.1.2.area; rw[hj]; exact h.fnd.fit⟩
  ·obtain⟨st,⟨ls,hQ,rfl,hf1,hf2⟩,hh⟩:=hbd.safe L hL;rcases hQ with rfl | rfl
   ·exact .inl ⟨rs,n0,⟨hh,h.fnd.fit,by rw[hopn L hL]; exact h.fnd.gen,by rw[hopn L hL]; exact h.fnd.cp,h.fnd.rep,h.fnd.rw,h.fnd.abs,h.fnd.ch⟩⟩
   ·exact .inr ⟨rs ++ [r],n0,hnew L hL hh⟩
open Go
set_option maxRecDepth 100000
def roomG (sz count:Nat):Nat:=(count/2/2-1)*sz
theorem uO {n:Con}(hn:ConS n){rs:List Rec}(hr : ∀r,r∈rs→RecW r)(h : ∀r,r∈rs→AbsR n r)(k:Nat):ConS (replay n (rs.take k)):=by
 rw[jS hn (fun x hx=>hr x (List.mem_of_mem_take hx)) fun x hx=>h x (List.mem_of_mem_take hx)];exact hn
theorem uP {N sz first count G:Nat}(g:Geo N sz first count){s:LS}{rs:List Rec}{n0:Con}(h:Up N sz first count G s rs n0){n':Con}(hn:ConS n')(ha : ∀r,r∈rs→AbsR n' r)(hG:G<4611686018427387904) :
 (roomG sz count<(encCn n').length∧lsave s n'=(s,7))∨
 ((encCn n').length≤roomG sz count∧
  (((lsave s n').2=0∧Up N sz first count (G+1) {(lsave s n').1 with n:=n'} [] n'∧(lsave s n').1.n=s.n∧(s.d.cnt=none→(lsave s n').1.d.cnt=none))∨
   ((lsave s n').2=8∧Dn N sz first count (G+1) (lsave s n').1 n'∧(lsave s n').1.n=s.n∧s.d.cnt≠none))):=by
 have hd:=g.dims;have hc8:=g.c8;have hz1:=g.z1;have hz2:=g.z2;have hfc:=g.fc;have hn1:=g.n1;have hlb:=h.lb g;have hlive:=h.live;have hfa:=hlive.facts (sz:=sz) (n:=count/2/2) (by omega) (by omega) fun a ha=>(h.wf.durl ha).1;have hcn:s.c.n=count/2/2:=hfa.2.2.2.2.1;have hcf:s.c.first=first:=hfa.2.2.2.1
 have hsz:s.d.size=sz:=h.wf.sz.size;have hroom:(s.c.n-1)*s.d.size=roomG sz count:=by rw[hcn,hsz]; rfl
 have hrg:Rng (encCn n'):=iW hn.w;unfold lsave;rw[hroom];rcases Nat.lt_or_ge (roomG sz count) (encCn n').length with hful | hfit
 ·exact .inl ⟨hful,by rw[if_pos hful]⟩
 refine .inr ⟨hfit,?_⟩;rw[if_neg (by omega)];have hsp:=ZO hlive h.wf (by omega) hz2 (by omega) (by omega) (by omega) (encCn n');have hst:Steps (fun a=>first≤a∧a<first+2*(count/2/2)) s.d (csave (s.d,s.c) (encCn n')).1.1:=ZV (s:=(s.d,s.c)) (by show 44≤s.d.size; omega) (by show 1≤s.c.n; omega) hfa.2.2.1 hrg fun a h1 h2=>⟨by rw[←hcf]; exact h1,by rw[←hcf,←hcn]; exact h2⟩
 have hwf:=uC (c:=s.c) h.wf hrg (k:=70000) fun at_ gg=>by
  rw[uD (by omega),hsz];have:=jP (sz:=sz) (len:=(encCn n').length) (m:=count/2/2-1) (by omega) hfit;omega
 obtain⟨⟨⟨d1,c1⟩,e1⟩,hr⟩ : ∃r,r=csave (s.d,s.c) (encCn n'):=⟨_,rfl⟩;rw[←hr] at hsp hst hwf ⊢;dsimp only at hsp hst hwf ⊢;have hlt : ¬(count/2/2-1)*sz<(encCn n').length:=by have:(encCn n').length≤(count/2/2-1)*sz:=hfit; omega
 have hge:s.c.gen≤G:=by rw[h.c]; exact h.fnd.gen
 have hin : ∀L:Nat→List Int,(∀a,Poss d1 a (L a))→∀a,first+count/2≤a→L a=DurL s.d a:=fun L hL a ha=>jQ h.cache (hst.poss (fun hh=>by omega) (hL a))
 have hjr : ∀L:Nat→List Int,(∀a,Poss d1 a (L a))→HoldsL L (first+count/2) sz (stream (rs.map encRc)):=fun L hL=>h.fnd.holds.congr (c:=count-count/2) h.fnd.fit (by omega) (by omega) fun a h1 h2=>hin L hL a h1
 rcases hsp with ⟨h1,_⟩ | ⟨_,hgl,e0,hl1,hc1,hcnt,hdur⟩ | ⟨_,hgl,hcs,hoff,hcn',hfin⟩
 ·rcases h1 with h1 | h1
  ·exact absurd h1 hlt
  ·omega
 ·subst e0;rw[if_pos rfl];have hca1:=hl1.ca;have hw1:=nB hwf hca1;have hpo1 : ∀a,Poss d1 a (DurL d1 a):=fun a=>.inl rfl;have hg1:GoodD N (first+count/2) (count-count/2) sz d1 (rs.map encRc):=⟨hw1.sz,hl1.off,hca1,hw1.rng,hjr _ hpo1,h.fnd.fit,uN h.fnd.rw⟩
  have hres:=S0 hg1 hd;have hst2:Steps (fun a=>a=first+count/2) d1 (jreset (d1,s.j)).1.1:=ZS (z:=(d1,s.j)) (by rw[h.j]; rfl)
  rw[←h.j] at hres;obtain⟨q,hq⟩ : ∃q,q=jreset (d1,s.j):=⟨_,rfl⟩;rw[←hq] at hres hst2 ⊢;obtain⟨k,hk⟩:=hst2.wf hw1;have hopn : ∀L:Nat→List Int,(∀a,Poss q.1.1 a (L a))→openL L first (count/2/2)=c1:=fun L hL=>by
   rw[hl1.opn];exact jK fun a h1 h2=>jQ hca1 (hst2.poss (fun hh=>by omega) (hL a))
  have hc1g:c1.gen=s.c.gen+1:=by rw[hc1]
  have hcp:cpOk c1 n':=.inr ⟨by omega,by rw[hc1],hn⟩;have hemp : ∀L:Nat→List Int,(∀a,Poss q.1.1 a (L a))→HoldsL L (first+count/2) sz (stream [])→Fnd N sz first count (G+1) L n' [] n':=fun L hL hh=>
   ⟨hh,by rw[List.map_nil,cH]; exact Nat.zero_le _,by rw[hopn L hL]; omega,by rw[hopn L hL]; exact hcp,rfl,fun r hr=>by simp at hr,fun r hr=>by simp at hr,fun k hk=>by rw[List.take_nil]; exact hn⟩
  rcases hres.res with ⟨e0,hgd,hj,hct2,_,_⟩ | ⟨e8,hj,hbd,hcn2⟩
  ·refine .inl ⟨e0,?_,rfl,fun hh=>hct2 (hcnt hh)⟩;have hpo : ∀a,Poss q.1.1 a (DurL q.1.1 a):=fun a=>.inl rfl;exact⟨nB hk hgd.cache,hgd.off,hj,(hopn _ hpo).symm,hemp _ hpo hgd.holds,by show(s.dn || decide (q.2≠0))=false; rw[h.dn,e0]; rfl⟩
  ·refine .inr ⟨e8,⟨?_,hbd.off,by show(s.dn || decide (q.2≠0))=true; rw[e8]; simp,fun L hL=>.inr ?_⟩,rfl,?_⟩
   ·have hlbc:=hlb.cf;exact⟨⟨hres.sz,hk.dur,hk.cache⟩,hlb.z1,hlb.z2,by show c1.first≤_; rw[hc1]; exact hlb.cf,by show 1≤c1.n; rw[hc1]; exact hlb.c1,by show c1.n≤_; rw[hc1]; exact hlb.cn,by show c1.gen≤_; omega,by show q.1.2.first≤_; rw[hj]; have:=hlb.jf; rw[h.j] at this; exact this,by show q.1.2.area≤_; rw[hj]; exact hd.area,by show q.1.2.stream.length≤q.1.2.area; rw[hj]; exact h.fnd.fit⟩
   ·obtain⟨st,⟨ls,hQ,rfl,hf1,hf2⟩,hh⟩:=hbd.safe L hL;rcases hQ with rfl | rfl
    ·exact⟨rs,n',⟨hh,h.fnd.fit,by rw[hopn L hL]; omega,by rw[hopn L hL]; exact hcp,jS hn h.fnd.rw ha,h.fnd.rw,ha,fun k _=>uO hn h.fnd.rw ha k⟩⟩
    ·exact⟨[],n',hemp L hL hh⟩
   ·intro hh;exact hcn2 (hcnt hh)
 ·injection hcs with hcs1 hcs2;injection hcs1 with hcs3 hcs4;subst hcs2;rw[if_neg (by decide),if_neg (by decide)];refine .inr ⟨rfl,⟨?_,by show d1.off=true; rw[hcs3]; exact hoff,by show(s.dn || decide ((8:Int)≠0))=true; simp,fun L hL=>?_⟩,rfl,hcn'⟩
  ·have hwf':WfD N sz 300000 d1:=hwf.mono (by omega);exact⟨hwf',hlb.z1,hlb.z2,by show c1.first≤_; rw[hcs4]; exact hlb.cf,by show 1≤c1.n; rw[hcs4]; exact hlb.c1,by show c1.n≤_; rw[hcs4]; exact hlb.cn,by show c1.gen≤_; rw[hcs4]; exact hlb.cg,hlb.jf,hlb.ja,hlb.js⟩
  ·have hL' : ∀a,Poss (runOps s.d (saveOps sz (first+s.c.target*(count/2/2)) (encCn n') (s.c.gen+1))).1 a (L a):=fun a=>by rw[←hcs3]; exact hL a
   rcases hfin L hL' with e | e
   ·exact .inl ⟨rs,n0,⟨hjr L hL,h.fnd.fit,by rw[e]; omega,by rw[e,h.c]; exact h.fnd.cp,h.fnd.rep,h.fnd.rw,h.fnd.abs,h.fnd.ch⟩⟩
   ·exact .inr ⟨rs,n',⟨hjr L hL,h.fnd.fit,by rw[e]; show s.c.gen+1≤G+1; omega,by rw[e]; exact .inr ⟨by show 0<s.c.gen+1; omega,rfl,hn⟩,jS hn h.fnd.rw ha,h.fnd.rw,ha,fun k _=>uO hn h.fnd.rw ha k⟩⟩
open Go
set_option maxRecDepth 100000
theorem Fnd.mono {N sz first count G G':Nat}{L:Nat→List Int}{n:Con}{rs:List Rec}{n0:Con}(h:Fnd N sz first count G L n rs n0)(hG:G≤G'):Fnd N sz first count G' L n rs n0:=⟨h.holds,h.fit,Nat.le_trans h.gen hG,h.cp,h.rep,h.rw,h.abs,h.ch⟩
theorem Up.mono {N sz first count G G':Nat}{s:LS}{rs:List Rec}{n0:Con}(h:Up N sz first count G s rs n0)(hG:G≤G'):Up N sz first count G' s rs n0:=⟨h.wf,h.off,h.j,h.c,h.fnd.mono hG,h.dn⟩
theorem FindsL.mono {N sz first count G G':Nat}{L:Nat→List Int}{n:Con}(h:FindsL N sz first count G L n)(hG:G≤G'):FindsL N sz first count G' L n:=by
 obtain⟨rs,n0,h⟩:=h;exact⟨rs,n0,h.mono hG⟩
theorem Dn.mono {N sz first count G G':Nat}{s:LS}{n':Con}(h:Dn N sz first count G s n')(hG:G≤G'):Dn N sz first count G' s n':=⟨h.lb,h.off,h.dn,fun L hL=>(h.fin L hL).imp (·.mono hG) (·.mono hG)⟩
def rchange (area room:Nat)(m:Con×List (List Int))(n':Con)(rec:List Int):(Con×List (List Int))×Int:=
 if (stream (m.2 ++ [rec])).length≤area then ((n',m.2 ++ [rec]),0) else
 if room<(encCn n').length then (m,7) else ((n',[]),0)
def rcompact (room:Nat)(m:Con×List (List Int)):(Con×List (List Int))×Int:=if room<(encCn m.1).length then (m,7) else ((m.1,[]),0)
def areaG (sz count:Nat):Nat:=(count-count/2-1)*sz
def OpR (N sz first count G:Nat)(s:LS)(m:(Con×List (List Int))×Int)(q:LS×Int):Prop:=
 (q.2=m.2∧q.1.n=m.1.1∧(∃rs n0,Up N sz first count G q.1 rs n0∧rs.map encRc=m.1.2)∧q.2≠8∧(s.d.cnt=none→q.1.d.cnt=none))∨
 (q.2=8∧m.2=0∧Dn N sz first count G q.1 m.1.1∧q.1.n=s.n∧s.d.cnt≠none)
theorem nC {N sz first count G:Nat}(g:Geo N sz first count){s:LS}{rs:List Rec}{n0:Con}(h:Up N sz first count G s rs n0){r:Rec}(hr:RecW r)(hn:ConS (applyR s.n r))(hG:G<4611686018427387904) :
 OpR N sz first count (G+1) s (rchange (areaG sz count) (roomG sz count) (s.n,rs.map encRc) (applyR s.n r) (encRc r)) (lchange s (applyR s.n r) (encRc r)):=by
 have em:(rs ++ [r]).map encRc=rs.map encRc ++ [encRc r]:=by rw[List.map_append]; rfl
 have hle:=jR h.cons hr;have ha:=aAH g h hr hn;rw[em] at ha;unfold lchange rchange;dsimp only;rcases ha with ⟨hful,e⟩ | ⟨hfit,ha⟩
 ·rw[if_neg (show ¬(stream (rs.map encRc ++ [encRc r])).length≤areaG sz count by unfold areaG; omega),e];rw[if_pos rfl];have es:({s with d:=s.d,j:=s.j}:LS)=s:=rfl;dsimp only;rcases uP g h hn (fun x hx=>(h.fnd.abs x hx).mono hle.1) hG with ⟨hf2,e2⟩ | ⟨hf2,⟨e0,hu,hnn,hc⟩ | ⟨e8,hd,hnn,hc⟩⟩
  ·rw[if_pos hf2];left;rw[show lsave ⟨s.d,s.j,s.c,s.n,s.dn⟩ (applyR s.n r)=(s,7) from e2];rw[if_neg (show ¬((s,(7:Int)).2=0) from(by decide : ¬(7:Int)=0))];exact⟨rfl,rfl,⟨rs,n0,h.mono (by omega),rfl⟩,(by decide:(7:Int)≠8),id⟩
  ·rw[if_neg (by omega)];left;rw[if_pos e0];exact⟨rfl,rfl,⟨[],_,hu,rfl⟩,(by decide:(0:Int)≠8),hc⟩
  ·rw[if_neg (by omega)];right;rw[if_neg (by show ¬(lsave s (applyR s.n r)).2=0; omega)];exact⟨e8,rfl,hd,hnn,hc⟩
 ·rw[if_pos (show(stream (rs.map encRc ++ [encRc r])).length≤areaG sz count from hfit)];rcases ha with ⟨e0,hu,hc⟩ | ⟨e8,hd,hc⟩
  ·left;rw[if_neg (show ¬(jappend (s.d,s.j) [encRc r]).2=7 by omega)];dsimp only;rw[if_pos e0];refine⟨rfl,rfl,⟨rs ++ [r],n0,?_,em⟩,(by decide:(0:Int)≠8),hc⟩;have hdn:(s.dn || decide ((jappend (s.d,s.j) [encRc r]).2≠0))=false:=by rw[h.dn,e0]; rfl
   unfold lfail;dsimp only;rw[hdn];exact hu.mono (by omega)
  ·right;rw[if_neg (show ¬(jappend (s.d,s.j) [encRc r]).2=7 by omega)];dsimp only;rw[if_neg (show ¬(jappend (s.d,s.j) [encRc r]).2=0 by omega)];have hdn:(s.dn || decide ((jappend (s.d,s.j) [encRc r]).2≠0))=true:=by rw[e8]; simp
   refine⟨e8,rfl,?_,rfl,hc⟩;unfold lfail;dsimp only;rw[hdn];exact hd.mono (by omega)
theorem aAI {N sz first count G:Nat}(g:Geo N sz first count){s:LS}{rs:List Rec}{n0:Con}(h:Up N sz first count G s rs n0)(hG:G<4611686018427387904) :
 OpR N sz first count (G+1) s (rcompact (roomG sz count) (s.n,rs.map encRc)) (lcompact s):=by
 unfold lcompact rcompact;rw[if_neg (show ¬s.dn=true by rw[h.dn]; decide)];dsimp only;rcases uP g h h.cons h.fnd.abs hG with ⟨hf2,e2⟩ | ⟨hf2,⟨e0,hu,hnn,hc⟩ | ⟨e8,hd,hnn,hc⟩⟩
 ·rw[if_pos hf2,e2];exact .inl ⟨rfl,rfl,⟨rs,n0,h.mono (by omega),rfl⟩,(by decide:(7:Int)≠8),id⟩
 ·rw[if_neg (show ¬roomG sz count<(encCn s.n).length by omega)];refine .inl ⟨e0,hnn,⟨[],s.n,?_,rfl⟩,by omega,hc⟩;obtain⟨q,hq⟩ : ∃q,q=(lsave s s.n).1:=⟨_,rfl⟩;rw[←hq] at hu hnn ⊢;have:({q with n:=s.n}:LS)=q:=by rw[←hnn]
  rw[←this];exact hu
 ·rw[if_neg (show ¬roomG sz count<(encCn s.n).length by omega)];exact .inr ⟨e8,rfl,hd,hnn,hc⟩
noncomputable def rextend (area room:Nat)(m:Con×List (List Int))(l:List Cmd):(Con×List (List Int))×Int:=
 if minC l m.1.st = [] then (m,0) else rchange area room m (joinN m.1 (minC l m.1.st)) (encRc (.ext (minC l m.1.st)))
def rrebase (area room:Nat)(m:Con×List (List Int))(b:Bas):(Con×List (List Int))×Int:=
 if (confB b).length≤(confB m.1.bas).length then (m,11) else rchange area room m (rebN m.1 b) (encRc (.reb b))
def rlive (area room:Nat)(m:Con×List (List Int)):(Con×List (List Int))×Int:=
 if 4611686018427387904≤m.1.life then (m,6) else rchange area room m {m.1 with life:=m.1.life+1} (encRc (.liv (m.1.life.toNat+1)))
theorem aAJ {N sz first count G:Nat}(g:Geo N sz first count){s:LS}{rs:List Rec}{n0:Con}(h:Up N sz first count G s rs n0){l:List Cmd}(hx : ∀x,x∈l→CmdS x)(hl:l.length≤400000)(hn:ConS (joinN s.n (minC l s.n.st)))(hG:G<4611686018427387904) :
 OpR N sz first count (G+1) s (rextend (areaG sz count) (roomG sz count) (s.n,rs.map encRc) l) (lextend s l):=by
 unfold lextend rextend;rw[if_neg (show ¬s.dn=true by rw[h.dn]; decide)];dsimp only;by_cases h0:minC l s.n.st = []
 ·rw[if_pos h0,if_pos h0];exact .inl ⟨rfl,rfl,⟨rs,n0,h.mono (by omega),rfl⟩,by dsimp only; decide,id⟩
 ·rw[if_neg h0,if_neg h0];exact nC g h (r:=.ext (minC l s.n.st)) ⟨fun x hm=>hx x (m6 hx hm),m7 hx,by have:=eV (l:=l) (m:=s.n.st); omega⟩ hn hG
theorem aAK {N sz first count G:Nat}(g:Geo N sz first count){s:LS}{rs:List Rec}{n0:Con}(h:Up N sz first count G s rs n0){b:Bas}(hx:BasS b)(hn:ConS (rebN s.n b))(hG:G<4611686018427387904) :
 OpR N sz first count (G+1) s (rrebase (areaG sz count) (roomG sz count) (s.n,rs.map encRc) b) (lrebase s b):=by
 unfold lrebase rrebase;rw[if_neg (show ¬s.dn=true by rw[h.dn]; decide)];dsimp only;by_cases h0:(confB b).length≤(confB s.n.bas).length
 ·rw[if_pos h0,if_pos h0];exact .inl ⟨rfl,rfl,⟨rs,n0,h.mono (by omega),rfl⟩,by dsimp only; decide,id⟩
 ·rw[if_neg h0,if_neg h0];exact nC g h (r:=.reb b) ⟨hx.w,hx.ts,hx.to,by have:=hx.tl; omega,by have:=hx.bl; omega,hx.cl⟩ hn hG
theorem aAL {n:Con}(h:0≤n.life):applyR n (.liv (n.life.toNat+1)) = {n with life:=n.life+1}:=by
 show({n with life:=max n.life ((n.life.toNat+1:Nat):Int)}:Con)=_;have:max n.life ((n.life.toNat+1:Nat):Int)=n.life+1:=by omega
 rw[this]
theorem aAM {N sz first count G:Nat}(g:Geo N sz first count){s:LS}{rs:List Rec}{n0:Con}(h:Up N sz first count G s rs n0)(hn:ConS {s.n with life:=s.n.life+1})(hG:G<4611686018427387904) :
 OpR N sz first count (G+1) s (rlive (areaG sz count) (roomG sz count) (s.n,rs.map encRc)) (llive s):=by
 have hc:=h.cons.w.2.2;unfold llive rlive;rw[if_neg (show ¬s.dn=true by rw[h.dn]; decide)];dsimp only;by_cases h0:4611686018427387904≤s.n.life
 ·rw[if_pos h0,if_pos h0];exact .inl ⟨rfl,rfl,⟨rs,n0,h.mono (by omega),rfl⟩,by dsimp only; decide,id⟩
 ·rw[if_neg h0,if_neg h0];have e:=aAL (n:=s.n) hc.1;have:=nC g h (r:=.liv (s.n.life.toNat+1)) (by show s.n.life.toNat+1≤_; omega) (by rw[e]; exact hn) hG;rw[e] at this;exact this
open Go
set_option maxRecDepth 100000
theorem Up.fail {N sz first count G:Nat}{s:LS}{rs:List Rec}{n0:Con}(h:Up N sz first count G s rs n0){k:Int}(hk:k<9223372036854775808):Up N sz first count G {s with d:=s.d.fail k} rs n0:=by
 have e:s.d.fail k = {s.d with cnt:=some (max k 0).toNat}:=by unfold DS.fail; rw[if_neg (by rw[h.off]; decide)]
 have hw:=h.wf.fail hk;rw[e] at hw ⊢;exact⟨hw,h.off,h.j,h.c,h.fnd,h.dn⟩
theorem Dn.fail {N sz first count G:Nat}{s:LS}{n':Con}(h:Dn N sz first count G s n'){k:Int}:Dn N sz first count G {s with d:=s.d.fail k} n':=by
 have e:s.d.fail k=s.d:=by unfold DS.fail; rw[if_pos h.off]
 rw[e];exact h
theorem Up.crash {N sz first count G:Nat}{s:LS}{rs:List Rec}{n0:Con}(h:Up N sz first count G s rs n0)(keep:List Bool):WfD N sz 0 (s.d.crash keep)∧Fnd N sz first count G (DurL (s.d.crash keep)) s.n rs n0:=by
 refine⟨h.wf.crash keep,?_⟩;have:DurL (s.d.crash keep)=DurL s.d:=funext fun a=>jQ h.cache qQ;rw[this];exact h.fnd
theorem Dn.crash {N sz first count G:Nat}{s:LS}{n':Con}(h:Dn N sz first count G s n')(keep:List Bool):WfD N sz 0 (s.d.crash keep)∧(FindsL N sz first count G (DurL (s.d.crash keep)) s.n∨FindsL N sz first count G (DurL (s.d.crash keep)) n'):=
 ⟨h.lb.wf.crash keep,h.fin _ fun _=>qQ⟩
theorem aAN:ConS con0:=⟨⟨fun x h=>by simp [con0] at h,dM,Int.le_refl 0,by show (0:Int)≤_; omega⟩,fun x h=>by simp [con0] at h,eY,fun x h=>by simp [con0] at h,eY,Nat.zero_le _,Nat.zero_le _,Nat.zero_le _⟩
theorem uQ {N sz first count:Nat}(g:Geo N sz first count):Fnd N sz first count 0 (DurL (DS.new N sz)) con0 [] con0:=by
 have hc8:=g.c8;have hfc:=g.fc;have hgd:=GoodD.new g.dims;have hz : ∀a,a<N→DurL (DS.new N sz) a=List.replicate sz 0:=fun a ha=>ZQ ha;have hop:openL (DurL (DS.new N sz)) first (count/2/2)=⟨first,count/2/2,1,[],0,false⟩:=ZP (by omega) (hz _ (by omega)) (hz _ (by omega))
 refine⟨hgd.holds,by rw[List.map_nil,cH]; exact Nat.zero_le _,by rw[hop]; exact Nat.le_refl _,by rw[hop]; exact .inl ⟨rfl,rfl⟩,rfl,fun r hr=>by simp at hr,fun r hr=>by simp at hr,fun k _=>?_⟩;rw[List.take_nil];exact aAN
theorem aAO {N sz first count G:Nat}{d:DS}{n:Con}{rs:List Rec}{n0:Con}(hw:WfD N sz 0 d)(hoff:d.off=false)(hf:Fnd N sz first count G (DurL d) n rs n0) :
 Up N sz first count G ⟨d,jsOf (first+count/2) (count-count/2) sz (rs.map encRc),openC d first (count/2/2),n,false⟩ rs n0:=by
 have hca:d.cache = []:=List.eq_nil_of_length_eq_zero (Nat.le_zero.1 hw.sz.few);refine⟨hw,hoff,rfl,?_,hf,rfl⟩;show openC d first (count/2/2)=_
 rw[ZD];exact jK fun a h1 h2=>fX hca
theorem uR : ∀{ls:List (List Int)},ls.length≤(stream ls).length
 | []=>Nat.zero_le _
 | l :: ls=>by
  have:=uR (ls:=ls);have h2:=aS l.length;rw[fT,List.length_append,List.length_cons];have:1≤(encB l).length:=by unfold encB; rw[List.length_append]; omega
  omega
set_option maxHeartbeats 1000000 in
theorem jT {w:World}(hK:KT w){D:Nat→Prop}{p:Nat}{d:DS}(h:IsDisk w D p d)(hD0 : ¬D 1){N sz first count G:Nat}(g:Geo N sz first count)(hw:WfD N sz 0 d)(hoff:d.off=false)(hG:G≤4611686018427387904){n:Con}{rs:List Rec}{n0:Con}(hf:Fnd N sz first count G (DurL d) n rs n0) :
 Ok (den Tryz.prog 11 #[.pointer (some ⟨p,0,none⟩),.int .i64 (first:Int),.int .i64 (count:Int)] w) fun v w'=>∃lb jb cb J s,v = .tuple #[.pointer (some ⟨lb,0,none⟩),.int .i64 0]∧(∀b,J b→w.heap.size≤b)∧LW w' D J p lb jb cb s∧Upd NoB w w'∧s.d=d∧s.n=n∧Up N sz first count G s rs n0:=by
 have hU:=aAO hw hoff hf;have hd:=g.dims;have hc8:=g.c8;have hz1:=g.z1;have hfc:=g.fc;have hgd:=hU.good;have hca:d.cache = []:=List.eq_nil_of_length_eq_zero (Nat.le_zero.1 hw.sz.few);have hfa:=hU.live.facts (sz:=sz) (n:=count/2/2) (by omega) (by omega) fun a ha=>(hw.durl ha).1;have hopen:=ZR hgd hd fun a ha=>by
  rw[hw.sz.size];exact(hw.content (by rw[←hw.sz.dur]; exact ha)).1
 have hop:openC d first (count/2/2)=openL (DurL d) first (count/2/2):=hU.c
 have har:=hd.area;have hfit:=hf.fit;have hroom:(count/2/2-1)*sz≤410000:=Nat.le_trans (Nat.mul_le_mul_right _ (by omega)) g.ar2;refine(aAF hK h hD0 hw.sz (by omega) g.n1 g.z1 g.z2 g.c8 g.fc g.ar2 (fun y hy=>hw.content hy) hw.rng hoff (j:=jsOf (first+count/2) (count-count/2) sz (rs.map encRc)) (rs:=rs) (n0:=n0) hopen (by show(stream (rs.map encRc)).length≤_; omega) (hgd.spl hd) ?_ ?_ ?_ ?_ ?_ ?_).mono ?_
 ·rw[hop]; exact hf.cp
 ·exact Nat.le_trans hfa.2.1 (by omega)
 ·exact hfa.1
 ·intro r hr;refine⟨hf.rw r hr,?_⟩;have:=kU (ls:=rs.map encRc) (l:=encRc r) (List.mem_map.2 ⟨r,hr,rfl⟩);omega
 ·intro k hk;have:=hf.ch k (by omega);exact⟨this.s,by have:=this.sl; omega,by have:=this.bl; omega,this.cl⟩
 ·have:=uR (ls:=rs.map encRc);rw[List.length_map] at this;omega
 ·rintro v w' ⟨lb,jb,cb,J,rfl,hJ,hL,hu⟩;rw[hf.rep] at hL;exact⟨lb,jb,cb,J,_,rfl,hJ,hL,hu,rfl,rfl,hU⟩
end Go.Proofs.YtpgigkceoolgeaaGreatDoor.Fd
