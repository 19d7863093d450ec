import Derived.Test.YtpgigkceoolgeaaGreatDoorQ32
set_option linter.all false
namespace Go.Proofs.YtpgigkceoolgeaaGreatDoor.Fd
open Go
set_option maxRecDepth 100000
theorem aB2 {b:Bas}{x:Crt}(h:x∈b.steps):(encT x).length≤(encBs b).length:=by
 obtain⟨i,hi⟩:=List.getElem?_of_mem h;have:=aW (f:=encT) hi;rw[cR];omega
theorem aB3 {l:List Cmd}:l.length≤(encL l).length:=by
 have hge:l.length≤(l.flatMap fun c=>encB (encC c)).length:=aU fun x=>by have:=aS (encC x).length; simp[encB]; omega
 rw[cP];omega
theorem aB4 {b:Bas}:b.steps.length≤(encBs b).length:=by
 have hge:b.steps.length≤(b.steps.flatMap encT).length:=aU fun x=>by have:=aS x.acks.length; rw[cQ]; omega
 rw[cR];omega
open Go
set_option maxRecDepth 100000
structure CmdB (x : Cmd) : Prop where
 w:CmdW x
 l:(encC x).length≤2000
theorem CmdB.s {x:Cmd}(h:CmdB x):CmdS x:=⟨h.w,by have:=h.l; omega⟩
theorem vV : ∀{l:List Cmd},(∀x,x∈l→CmdB x)→(l.flatMap fun c=>encB (encC c)).length≤l.length*2010
 | [],_=>Nat.zero_le _
 | x :: l,h=>by
  have:=vV (l:=l) fun y hy=>h y (List.mem_cons_of_mem _ hy);have hx:=(h x List.mem_cons_self).l;have h10:=aL (n:=(encC x).length) (by omega);rw[List.flatMap_cons,List.length_append,List.length_cons,Nat.add_mul];have:(encB (encC x)).length=(encU (encC x).length).length+(encC x).length:=by simp[encB]
  omega
theorem fF {l:List Cmd}(h : ∀x,x∈l→CmdB x)(hl:l.length≤1000000):(encL l).length≤10+l.length*2010:=by
 rw[cP];have:=aL (n:=l.length) (by omega);have:=vV h;omega
structure BasB (b : Bas) : Prop where
 w:BasW b
 t : ∀x,x∈b.taken→CmdB x
 to:SrtC b.taken
 tl:b.taken.length≤8
 l:(encBs b).length≤200000
theorem aB5 {b:Bas}:(confB b).length≤(encBs b).length:=by
 unfold confB;cases h:b.steps.getLast? with
 | none=>exact Nat.zero_le _
 | some s=>
  have hm:s∈b.steps:=List.mem_of_getLast? h;have h1:=aB2 hm;have h2:=aB3 (l:=s.c.conf);have h3:=gH (c:=s.c);have h4:=cQ (s:=s);show s.c.conf.length≤_;omega
theorem BasB.s {b:Bas}(h:BasB b):BasS b:=by
 have h1:=aB5 (b:=b);have h2:=aB4 (b:=b);have h3:=h.l;have h4:=h.tl;exact⟨h.w,fun x hx=>(h.t x hx).s,h.to,by omega,by omega,by omega⟩
structure SmN (t : Nat) (n : Con) : Prop where
 s : ∀x,x∈n.st→CmdB x
 o:SrtC n.st
 sl:n.st.length≤8*t
 b:BasB n.bas
 l0:0≤n.life
 l1:n.life≤4611686018427387904
theorem SmN.cons {t:Nat}{n:Con}(h:SmN t n)(ht:t≤30):ConS n:=by
 have hb:=h.b.s;have:=h.sl;exact⟨⟨fun x hx=>(h.s x hx).w,h.b.w,h.l0,h.l1⟩,fun x hx=>(h.s x hx).s,h.o,hb.ts,hb.to,by omega,hb.bl,hb.cl⟩
theorem SmN.len {t:Nat}{n:Con}(h:SmN t n)(ht:t≤30):(encCn n).length≤700000:=by
 have h1:=h.sl;have h2:=h.b.l;have h3:=fF h.s (by omega);have h4:=h.l1;have h5:=aL (n:=n.life.toNat) (by omega);rw[cH];have:n.st.length*2010≤240*2010:=Nat.mul_le_mul_right _ (by omega);omega
theorem SmN.mono {t t':Nat}{n:Con}(h:SmN t n)(ht:t≤t'):SmN t' n:=⟨h.s,h.o,by have:=h.sl; omega,h.b,h.l0,h.l1⟩
theorem kC:BasB ⟨[],[]⟩:=⟨dB,fun x h=>by simp at h,fE,by decide,by
 rw[cR];have:=aL (n:=0) (by decide);simp only[encL,List.flatMap_nil,List.length_nil,List.append_nil];omega⟩
theorem vX:SmN 0 con0:=⟨fun x h=>by simp [con0] at h,fE,Nat.zero_le _,kC,Int.le_refl 0,by show (0:Int)≤_; omega⟩
theorem SmN.join {t:Nat}{n:Con}(h:SmN t n){l:List Cmd}(hl : ∀x,x∈l→CmdB x)(hn:l.length≤8):SmN (t+1) (joinN n l):=by
 have hm:=fun x=>nR (n:=n) (l:=l) (fun x hx=>(h.s x hx).s) (fun x hx=>(hl x hx).s) (x:=x);have hlen:(joinN n l).st.length≤(n.st ++ l).length:=gR;rw[List.length_append] at hlen;have:=h.sl;exact⟨fun x hx=>((hm x).1 hx).elim (h.s x) (hl x),cT fun x hx=>(List.mem_append.1 hx).elim (fun hx=>(h.s x hx).s) fun hx=>(hl x hx).s,by omega,h.b,h.l0,h.l1⟩
theorem SmN.reb {t:Nat}{n:Con}(h:SmN t n){b:Bas}(hb:BasB b):SmN (t+1) (rebN n b):=by
 have hj:=h.join hb.t hb.tl;refine⟨hj.s,hj.o,hj.sl,?_,h.l0,h.l1⟩;show BasB (if (confB n.bas).length<(confB b).length then b else n.bas)
 split
 ·exact hb
 ·exact h.b
theorem SmN.liv {t:Nat}{n:Con}(h:SmN t n)(hl : ¬4611686018427387904≤n.life):SmN t {n with life:=n.life+1}:=⟨h.s,h.o,h.sl,h.b,by have:=h.l0; show 0≤n.life+1; omega,by show n.life+1≤_; omega⟩
inductive POp where
 | ext (l:List Cmd)
 | reb (b:Bas)
 | liv
 | cmp
def POpB:POp→Prop
 | .ext l=>(∀x,x∈l→CmdB x)∧l.length≤6
 | .reb b=>BasB b
 | .liv=>True
 | .cmp=>True
noncomputable def lop (s:LS):POp→LS×Int
 | .ext l=>lextend s l
 | .reb b=>lrebase s b
 | .liv=>llive s
 | .cmp=>lcompact s
noncomputable def rop (area room:Nat)(m:Con×List (List Int)):POp→(Con×List (List Int))×Int
 | .ext l=>rextend area room m l
 | .reb b=>rrebase area room m b
 | .liv=>rlive area room m
 | .cmp=>rcompact room m
theorem nX {t area room:Nat}{m:Con×List (List Int)}{n':Con}{rec:List Int}(h:SmN t m.1)(h':SmN t n'):SmN t (rchange area room m n' rec).1.1:=by
 unfold rchange;split
 ·exact h'
 ·split
  ·exact h
  ·exact h'
theorem iB {l m:List Cmd}(h : ∀x,x∈l→CmdB x) : ∀x,x∈minC l m→CmdB x:=fun x hx=>h x (hP (fun y hy=>(h y hy).s) hx)
theorem aB6 {t area room:Nat}{m:Con×List (List Int)}(h:SmN t m.1){o:POp}(ho:POpB o):SmN (t+1) (rop area room m o).1.1:=by
 have h1:=h.mono (t':=t+1) (by omega);cases o with
 | ext l=>
  show SmN (t+1) (rextend area room m l).1.1;unfold rextend;split
  ·exact h1
  ·exact nX h1 (h.join (iB ho.1) (by have:=cU (l:=l) (m:=m.1.st); have:=ho.2; omega))
 | reb b=>
  show SmN (t+1) (rrebase area room m b).1.1;unfold rrebase;split
  ·exact h1
  ·exact nX h1 (h.reb ho)
 | liv=>
  show SmN (t+1) (rlive area room m).1.1;unfold rlive;split
  ·exact h1
  ·rename_i hl;exact nX h1 (h1.liv hl)
 | cmp=>
  show SmN (t+1) (rcompact room m).1.1;unfold rcompact;split <;> exact h1
theorem aB7 {N sz first count G t:Nat}(g:Geo N sz first count){s:LS}{rs:List Rec}{n0:Con}(h:Up N sz first count G s rs n0)(hG:G<4611686018427387904)(hs:SmN t s.n)(ht:t≤28){o:POp}(ho:POpB o) :
 OpR N sz first count (G+1) s (rop (areaG sz count) (roomG sz count) (s.n,rs.map encRc) o) (lop s o):=by
 cases o with
 | ext l=>exact aBW g h (fun x hx=>(ho.1 x hx).s) (by have:=ho.2; omega) ((hs.join (iB ho.1) (by have:=cU (l:=l) (m:=s.n.st); have:=ho.2; omega)).cons (by omega)) hG
 | reb b=>exact aBX g h (BasB.s ho) ((hs.reb ho).cons (by omega)) hG
 | liv=>
  by_cases hl:4611686018427387904≤s.n.life
  ·show OpR N sz first count (G+1) s (rlive _ _ _) (llive s)
   unfold rlive llive;rw[if_neg (show ¬s.dn=true by rw[h.dn]; decide)];dsimp only;rw[if_pos hl,if_pos hl];exact .inl ⟨rfl,rfl,⟨rs,n0,h.mono (by omega),rfl⟩,by dsimp only; decide,id⟩
  ·exact aBY g h ((hs.liv hl).cons (by omega)) hG
 | cmp=>exact aBV g h hG
open Go
set_option maxRecDepth 100000
theorem nY:zer Tryz.prog 37=some (.agg #[.slice none 0 0,.slice none 0 0,.slice none 0 0,.int .i64 0]):=by kernel_rfl
theorem vY:zer Tryz.prog 40=some (.agg #[.slice none 0 0,.slice none 0 0,.slice none 0 0,.int .i64 0,.slice none 0 0,.int .i64 0,.int .i64 0]):=by kernel_rfl
theorem aB8 (a b:Int)(w:World):bldS Tryz.prog 40 #[(2,.int .i64 a),(3,.int .i64 b)] w=some (.agg #[.slice none 0 0,.slice none 0 0,.slice none 0 0,.int .i64 0,.slice none 0 0,.int .i64 a,.int .i64 b],w):=by kernel_rfl
set_option maxHeartbeats 4000000 in
theorem aB9 {w:World}{count sz:Nat}(h8:8≤count)(h9:count≤1000)(hz:sz≤4096) :
 Ok (den Tryz.prog 12 #[.int .i64 (count:Int),.int .i64 (sz:Int)] w) fun u w'=>u = .agg #[.slice none 0 0,.slice none 0 0,.slice none 0 0,.int .i64 0,.slice none 0 0,.int .i64 ((areaG sz count:Nat):Int),.int .i64 ((roomG sz count:Nat):Int)]∧Upd NoB w w':=by
 obtain⟨A,hA⟩ : ∃A,A=count-count/2-1:=⟨_,rfl⟩;obtain⟨B,hB⟩ : ∃B,B=count/2/2-1:=⟨_,rfl⟩;obtain⟨PA,hPA⟩ : ∃P,P=areaG sz count:=⟨_,rfl⟩;obtain⟨PB,hPB⟩ : ∃P,P=roomG sz count:=⟨_,rfl⟩;have eA:((A:Int)*(sz:Int))=(PA:Int):=by rw[hPA,hA]; unfold areaG; rw[Int.natCast_mul]
 have eB:((B:Int)*(sz:Int))=(PB:Int):=by rw[hPB,hB]; unfold roomG; rw[Int.natCast_mul]
 have lA:PA≤1000*4096:=by rw[hPA]; exact Nat.mul_le_mul (by omega) hz
 have lB:PB≤1000*4096:=by rw[hPB]; exact Nat.mul_le_mul (by omega) hz
 rw[←hPA,←hPB];have t1:(count:Int).tdiv 2=((count/2:Nat):Int):=by rw[show(2:Int)=((2:Nat):Int) from rfl,←Int.ofNat_tdiv]
 obtain⟨h,hh⟩ : ∃h,h=count/2:=⟨_,rfl⟩;rw[←hh] at t1;have t2:(h:Int).tdiv 2=((h/2:Nat):Int):=by rw[show(2:Int)=((2:Nat):Int) from rfl,←Int.ofNat_tdiv]
 obtain⟨q,hq⟩ : ∃q,q=h/2:=⟨_,rfl⟩;rw[←hq] at t2;have wa:IntKind.i64.wrap (h:Int)=h:=by rw[IntKind.wrap_i64]; omega
 have wb:IntKind.i64.wrap (q:Int)=q:=by rw[IntKind.wrap_i64]; omega
 have e1:(count:Int)-(h:Int)-1=(A:Int):=by omega
 have e2:(q:Int)-1=(B:Int):=by omega
 refine bX (args:=[.int .i64 (count:Int),.int .i64 (sz:Int)]) 4 40 Tryz.func12 rfl mixed (by kernel_rfl) OD rfl ?_;rw[aD];generalize hKs:KS _ _ _ _ _=Ks;simp(disch:=omega)only[push_cast,seval,vY];have z1:=Blk.new (w:=w) (cs:=[.slice none 0 0,.slice none 0 0,.slice none 0 0,.int .i64 0,.slice none 0 0,.int .i64 0,.int .i64 0]) (E:=40);have u1:Upd NoB w (w.alloc (.cells #[Value.slice none 0 0,.slice none 0 0,.slice none 0 0,.int .i64 0,.slice none 0 0,.int .i64 0,.int .i64 0] 40 (0,0))):=Upd.alloc;generalize w.alloc (.cells #[Value.slice none 0 0,.slice none 0 0,.slice none 0 0,.int .i64 0,.slice none 0 0,.int .i64 0,.int .i64 0] 40 (0,0))=w1 at *;subst hKs;rw[aC];have z2:=z1.setRow (cs':=[.slice none 0 0,.slice none 0 0,.slice none 0 0,.int .i64 0,.slice none 0 0,.int .i64 (PA:Int),.int .i64 (PB:Int)]);simp(maxSteps:=3000000)(disch:=omega)only[push_cast,seval,t1,t2,wa,wb,e1,e2,eA,eB,aB8,aM (P:=Tryz.prog) (t:=40) (cs':=[.slice none 0 0,.slice none 0 0,.slice none 0 0,.int .i64 0,.slice none 0 0,.int .i64 (PA:Int),.int .i64 (PB:Int)]) z1 (by kernel_rfl) rfl (fun u hu=>by simp at hu; rcases hu with rfl | rfl | rfl | rfl | rfl <;> rfl),aJ (P:=Tryz.prog) (t:=40) z2 (by kernel_rfl) (by kernel_rfl)];exact u1.trans (Upd.setRow (F:=fun b=>b=w.heap.size) rfl) fun b hb e=>by omega
theorem iC {w:World}{mb:Nat}{cs rest:List Value}(h:Blk w mb (cs ++ rest) 40)(h1:cs.length=4):ldS Tryz.prog 37 (.pointer (some ⟨mb,0,none⟩)) w=some (.agg cs.toArray,w):=by
 refine cF (cs:=cs) (by kernel_rfl) (by rw[h1]; kernel_rfl) fun r hr=>?_;rw[Nat.zero_add,h.cell,List.getElem?_append_left hr]
set_option maxHeartbeats 8000000 in
theorem aBa {w:World}{F:Nat→Prop}{mb area room:Nat}{m:Con×List (List Int)}(h:RW w F mb area room m)(hF : ∀b,F b→b<w.heap.size)(har:area≤1073741824)(hro:room≤1000000)(hn:ConS m.1){y:Value}{l:List Cmd}(hy:SlD eC w (fun b=>F b∨b=mb) y l)(hx : ∀x,x∈l→CmdS x)(hxl:l.length≤400000)
 (hl1:(stream m.2).length≤900000) (hk:(encCn (joinN m.1 (minC l m.1.st))).length≤1000000) (hrl:(encL (minC l m.1.st)).length≤800000) :
 Ok (den Tryz.prog 44 #[.pointer (some ⟨mb,0,none⟩),y] w) fun u w'=>u = .int .i64 (rextend area room m l).2∧RW w' F mb area room (rextend area room m l).1∧Upd (fun b=>b=mb) w w':=by
 have hRW:=h;obtain⟨cs0,rv,hb0,hn0,hr0⟩:=h;obtain⟨xa0,xc0,sa0,sc0,ta0,tc0,rfl,k1,k2,k3⟩:=aN hn0;obtain⟨ya,yc,rfl,_⟩:=hy.form;obtain⟨rva,rvc,rfl,_⟩:=id hr0;simp only[List.cons_append,List.nil_append] at hb0;have hmb:=hb0.lt;have nb : ¬NoB mb:=fun h=>h;have ofl:(ofC l).length≤l.length:=gR;have hofs : ∀x,x∈ofC l→CmdS x:=fun x hm=>hx x ((cB hx).1 hm);have hmin:minC (ofC l) m.1.st=minC l m.1.st:=by unfold minC; rw[mN hofs (cT hx)]
 have hms : ∀x,x∈minC l m.1.st→CmdS x:=fun x hm=>hx x (hP hx hm);have hml:=cU (l:=l) (m:=m.1.st);have hsl:=hn.sl;have cc : ∀{w':World} {G:Nat→Prop},Upd G w w'→¬G mb→∀j,w'.cell? ⟨mb,j,none⟩ = [Value.slice xa0 m.1.st.length xc0,.slice sa0 m.1.bas.steps.length sc0,.slice ta0 m.1.bas.taken.length tc0,.int .i64 m.1.life,.slice rva m.2.length rvc,.int .i64 (area:Int),.int .i64 (room:Int)][j]? :=fun u h j=>(hb0.upd u h).cell j;refine aB (args:=[.pointer (some ⟨mb,0,none⟩),.slice ya l.length yc]) rs44 Tryz.func44 rfl mixed (by kernel_rfl) O5 rfl ?_;have d0:Upd NoB w w.drew:=Upd.drew;simp(maxSteps:=3000000)(disch:=omega)only[push_cast,seval,↓aE,↓aF,cc (Upd.refl (F:=NoB)) nb,cc d0 nb];refine Ok.use (mS (hy.go aA (F':=fun b=>F b∨b=mb) d0 fun b _ hh=>hh.elim (fun hh=>hh.elim) id) hx (by omega)) ?_;rintro u w1 ⟨q1,u1',f1⟩;have u1:=d0.trans u1' fun _ _ h=>h;obtain⟨oa,oc,rfl⟩:=q1.form;simp(maxSteps:=3000000)(disch:=omega)only[push_cast,seval,↓aE,↓aF,cc (Upd.refl (F:=NoB)) nb,cc d0 nb,cc u1 nb,cc u1.drew' nb];refine Ok.use (ZD (q1.slD aA) (k1.q aA u1) hofs hn.s (by omega) (by omega)) ?_;rintro u w2 ⟨q2,u2',f2⟩;have u2:=u1.trans u2' fun _ _ h=>h;rw[hmin] at q2;obtain⟨M,hM⟩ : ∃M,M=minC l m.1.st:=⟨_,rfl⟩;rw[←hM] at q2 hms hml hk hrl;have hMo:SrtC M:=by rw[hM]; exact j9 hx
 obtain⟨ma,mc,rfl⟩:=q2.form;have m2:SlD eC w2 (fun b=>F b∨b=mb) (.slice ma M.length mc) M:=(q2.slD aA).go aA (Upd.refl (F:=NoB)) fun b _ hh=>hh.elim (fun hh=>hh.elim) fun hh=>by
  have hb:b<w.heap.size:=hh.elim (hF b) fun e=>by omega
  exact⟨⟨hh,hb⟩,Nat.lt_of_lt_of_le hb u1.size⟩
 unfold rextend;rw[←hM];by_cases h0:M = []
 ·have h0':((M.length:Int)=0)=True:=eq_true (by rw[h0]; rfl);rw[if_pos h0];simp(maxSteps:=3000000)(disch:=omega)only[push_cast,seval,↓aE,↓aF,cc (Upd.refl (F:=NoB)) nb,cc d0 nb,cc u1 nb,cc u1.drew' nb,cc u2 nb,cc u2.drew' nb,h0'];exact⟨hRW.go u2 nb fun b _ hh=>hh.elim (fun hh=>hh.elim) id,u2.mono fun _ _ h=>h.elim⟩
 have h0':((M.length:Int)=0)=False:=eq_false fun e=>h0 (List.eq_nil_of_length_eq_zero (by omega));rw[if_neg h0];generalize hKs:KS _ _ _ _ _=Ks;simp(maxSteps:=3000000)(disch:=omega)only[push_cast,seval,↓aE,↓aF,cc (Upd.refl (F:=NoB)) nb,cc d0 nb,cc u1 nb,cc u1.drew' nb,cc u2 nb,cc u2.drew' nb,h0'];subst hKs;rw[aC];have h0'' : ¬((M.length:Int)=0):=fun e=>h0 (List.eq_nil_of_length_eq_zero (by omega));have hb2:Blk w2 mb ([Value.slice xa0 m.1.st.length xc0,.slice sa0 m.1.bas.steps.length sc0,.slice ta0 m.1.bas.taken.length tc0,.int .i64 m.1.life] ++ [.slice rva m.2.length rvc,.int .i64 (area:Int),.int .i64 (room:Int)]) 40:=hb0.upd u2 nb;rw[aD];generalize hKs:KS _ _ _ _ _=Ks;simp(disch:=omega)only[push_cast,seval,h0''];subst hKs;rw[aC];have c3:=(Blk.new (w:=w2) (cs:=[.slice none 0 0,.slice none 0 0,.slice none 0 0,.int .i64 0]) (E:=37));have c4:=c3.setRow (cs':=[.slice xa0 m.1.st.length xc0,.slice sa0 m.1.bas.steps.length sc0,.slice ta0 m.1.bas.taken.length tc0,.int .i64 m.1.life]);have hones : ∀u∈[Value.slice xa0 m.1.st.length xc0,.slice sa0 m.1.bas.steps.length sc0,.slice ta0 m.1.bas.taken.length tc0,.int .i64 m.1.life],u.oneCell'=true:=fun u hu=>by simp at hu; rcases hu with rfl | rfl | rfl | rfl <;> rfl
 rw[aD];generalize hKs:KS _ _ _ _ _=Ks;simp(disch:=omega)only[push_cast,seval,iC hb2 rfl,nY,aM (P:=Tryz.prog) (t:=37) (cs':=[.slice xa0 m.1.st.length xc0,.slice sa0 m.1.bas.steps.length sc0,.slice ta0 m.1.bas.taken.length tc0,.int .i64 m.1.life]) c3 (by kernel_rfl) rfl hones];have u4':Upd NoB w2 ((w2.alloc (.cells #[.slice none 0 0,.slice none 0 0,.slice none 0 0,.int .i64 0] 37 (0,0))).setRow w2.heap.size #[.slice xa0 m.1.st.length xc0,.slice sa0 m.1.bas.steps.length sc0,.slice ta0 m.1.bas.taken.length tc0,.int .i64 m.1.life]):=Upd.alloc.trans (Upd.setRow (F:=fun b=>b=w2.heap.size) rfl) fun b hb e=>by omega
 generalize (w2.alloc (.cells #[.slice none 0 0,.slice none 0 0,.slice none 0 0,.int .i64 0] 37 (0,0))).setRow w2.heap.size #[.slice xa0 m.1.st.length xc0,.slice sa0 m.1.bas.steps.length sc0,.slice ta0 m.1.bas.taken.length tc0,.int .i64 m.1.life]=w4 at *;have u4:=u2.trans u4' fun _ _ h=>h;have s2:=u2.size;subst hKs;rw[aC];rw[aD];generalize hKs:KS _ _ _ _ _=Ks;simp(disch:=omega)only[push_cast,seval,c4.cell];have gF : ∀b,b<w.heap.size→NoB b∨(F b∨b=mb∨b=w2.heap.size)→F b∨b=mb:=fun b hb h=>h.elim (fun h=>h.elim) fun h=>h.elim .inl fun h=>h.elim .inr fun h=>by omega
 have gF2 : ∀b,b<w2.heap.size→NoB b∨(F b∨b=mb∨b=w2.heap.size)→F b∨b=mb:=fun b hb h=>h.elim (fun h=>h.elim) fun h=>h.elim .inl fun h=>h.elim .inr fun h=>by omega
 have n4:SlD eC w4 (fun b=>F b∨b=mb∨b=w2.heap.size) (.slice xa0 m.1.st.length xc0) m.1.st:=k1.go aA u4 gF;have m4:SlD eC w4 (fun b=>F b∨b=mb∨b=w2.heap.size) (.slice ma M.length mc) M:=m2.go aA u4' gF2;have b4:eB.C w4 (fun b=>F b∨b=mb∨b=w2.heap.size) m.1.bas [.slice sa0 m.1.bas.steps.length sc0,.slice ta0 m.1.bas.taken.length tc0]:=aK.go k2 u4 gF;refine Ok.use (tV n4 m4 hn.s hms (by omega)) ?_;rintro u w5 ⟨q5,u5,f5⟩;obtain⟨ja,jc,rfl⟩:=q5.form;have c5:=c4.upd u5 fun h=>h;have s4:w2.heap.size<w4.heap.size:=c4.lt;have j5:SlD eC w5 (fun b=>F b∨b=mb∨b=w2.heap.size) (.slice ja (ofC (m.1.st ++ M)).length jc) (ofC (m.1.st ++ M)):=(q5.slD aA).go aA (Upd.refl (F:=NoB)) fun b _ hh=>hh.elim (fun hh=>hh.elim) fun hh=>⟨hh,by
  show b<w4.heap.size;rcases hh with hh | hh | hh
  ·have:=hF b hh; omega
  ·omega
  ·omega⟩
 simp(maxSteps:=3000000)(disch:=omega)only[push_cast,seval,c5.cell,c5.free];have c6:=c5.set 0 (.slice ja (ofC (m.1.st ++ M)).length jc);simp only[List.set_cons_succ,List.set_cons_zero] at c6;have u6':Upd (fun b=>b=w2.heap.size) w5 (w5.setCell ⟨w2.heap.size,0,none⟩ (.slice ja (ofC (m.1.st ++ M)).length jc)):=Upd.set rfl;have j6:SlD eC _ (fun b=>F b∨b=mb∨b=w2.heap.size) (.slice ja (ofC (m.1.st ++ M)).length jc) (ofC (m.1.st ++ M)):=j5.go aA u6' fun b _ h=>h.elim (fun h=>.inr (.inr h)) id;have m6:SlD eC _ (fun b=>F b∨b=mb∨b=w2.heap.size) (.slice ma M.length mc) M:=(m4.go (F':=fun b=>F b∨b=mb∨b=w2.heap.size) aA u5 fun b _ h=>h.elim (fun h=>h.elim) id).go aA u6' fun b _ h=>h.elim (fun h=>.inr (.inr h)) id;have b6:=aK.go (F':=fun b=>F b∨b=mb∨b=w2.heap.size) (aK.go (F':=fun b=>F b∨b=mb∨b=w2.heap.size) b4 u5 fun b _ h=>h.elim (fun h=>h.elim) id) u6' fun b _ h=>h.elim (fun h=>.inr (.inr h)) id;have u6:Upd NoB w (w5.setCell ⟨w2.heap.size,0,none⟩ (.slice ja (ofC (m.1.st ++ M)).length jc)):=(u4.trans u5 fun _ _ h=>h).trans u6' fun b hb e=>by omega
 generalize w5.setCell ⟨w2.heap.size,0,none⟩ (.slice ja (ofC (m.1.st ++ M)).length jc)=w6 at *;subst hKs;rw[aC];have d6:Upd NoB w6 w6.drew:=Upd.drew;have lc : ∀{w':World},Upd NoB w6 w'→ldS Tryz.prog 37 (.pointer (some ⟨w2.heap.size,0,none⟩)) w'=some (.agg #[.slice ja (ofC (m.1.st ++ M)).length jc,.slice sa0 m.1.bas.steps.length sc0,.slice ta0 m.1.bas.taken.length tc0,.int .i64 m.1.life],w'):=fun u=>aJ (P:=Tryz.prog) (t:=37) (c6.upd u fun h=>h) (by kernel_rfl) (by kernel_rfl);simp(maxSteps:=3000000)(disch:=omega)only[push_cast,seval,↓aE,↓aF,lc d6];refine Ok.use (ZL (m6.q aA d6) (by omega)) ?_;rintro u w7 ⟨q7,f7,u7'⟩;have u67:=d6.trans u7' fun _ _ h=>h;have u7:=u6.trans u67 fun _ _ h=>h;obtain⟨ea,ec,rfl⟩:=bW q7;simp(maxSteps:=3000000)(disch:=omega)only[push_cast,seval,↓aE,↓aF,lc d6,lc u67];have sb:SlB w7 (fun b=>F b∨b=mb) (.slice ea (encRc (.ext M)).length ec) (encRc (.ext M)):=q7.slb fun g hg hh=>by
  have:=f7 g hg;have:w.heap.size≤w6.drew.heap.size:=(u6.trans d6 fun _ _ h=>h).size;rcases hh with hh | hh
  ·have:=hF g hh; omega
  ·omega
 have hR7:RW w7 F mb area room m:=hRW.go u7 nb fun b _ hh=>hh.elim (fun hh=>hh.elim) id;have j7:SlD eC w7 (fun b=>F b∨b=mb) (.slice ja (ofC (m.1.st ++ M)).length jc) (ofC (m.1.st ++ M)):=j6.go aA u67 fun b _ hh=>hh.elim (fun hh=>hh.elim) fun hh=>hh.elim .inl fun hh=>.inr (.inl hh);have b7:eB.C w7 (fun b=>F b∨b=mb) m.1.bas [.slice sa0 m.1.bas.steps.length sc0,.slice ta0 m.1.bas.taken.length tc0]:=aK.go b6 u67 fun b _ hh=>hh.elim (fun hh=>hh.elim) fun hh=>hh.elim .inl fun hh=>.inr (.inl hh);have n7:eN.C w7 (fun b=>F b∨b=mb) (joinN m.1 M) [.slice ja (ofC (m.1.st ++ M)).length jc,.slice sa0 m.1.bas.steps.length sc0,.slice ta0 m.1.bas.taken.length tc0,.int .i64 m.1.life]:=⟨_,_,_,rfl,j7,b7,k3.join hn.s hms⟩;refine Ok.use (nW hR7 (fun b hb=>Nat.lt_of_lt_of_le (hF b hb) u7.size) har hro sb n7 hl1 (by
  have:=aL (n:=1) (by decide);simp only[encRc,List.length_append];omega) hk) ?_
 rintro u w8 ⟨rfl,h8,u8⟩;simp(maxSteps:=3000000)(disch:=omega)only[push_cast,seval];exact⟨h8,(u7.mono fun _ _ h=>h.elim).trans u8 fun _ _ h=>h⟩
open Go
set_option maxRecDepth 100000
set_option maxHeartbeats 8000000 in
theorem aBb {w:World}{F:Nat→Prop}{n:Con}{cs bs:List Value}{b:Bas}(hc:eN.C w F n cs)(hb:eB.C w F b bs)(h1 : ∀x,x∈n.st→CmdS x)(h2 : ∀x,x∈b.taken→CmdS x)(hl:n.st.length+b.taken.length≤1000000)(hs1:n.bas.steps.length≤1000000)(hs2:b.steps.length≤1000000)
 (hm1:(confB n.bas).length≤1000000000) (hm2:(confB b).length≤1000000000) :
 Ok (den Tryz.prog 89 #[.agg cs.toArray,.agg bs.toArray] w) fun u w'=>∃cs',u = .agg cs'.toArray∧eN.C w' (fun b=>F b∧Old w b) (rebN n b) cs'∧Upd NoB w w':=by
 obtain⟨xa,xc,sa,sc,ta,tc,rfl,k1,k2,k3⟩:=aN hc;obtain⟨pa,pc,qa,qc,rfl,m1,m2,m3⟩:=bE hb;refine bX (args:=[.agg #[.slice xa n.st.length xc,.slice sa n.bas.steps.length sc,.slice ta n.bas.taken.length tc,.int .i64 n.life],.agg #[.slice pa b.steps.length pc,.slice qa b.taken.length qc]]) 4 37 Tryz.func89 rfl mixed (by kernel_rfl) QD rfl ?_;rw[aD];generalize hKs:KS _ _ _ _ _=Ks;simp(disch:=omega)only[push_cast,seval,nY];have c2:=((Blk.new (w:=w) (cs:=[.slice xa n.st.length xc,.slice sa n.bas.steps.length sc,.slice ta n.bas.taken.length tc,.int .i64 n.life]) (E:=37)).alloc (.cells #[.slice pa b.steps.length pc,.slice qa b.taken.length qc] 35 (0,0))).alloc (.cells #[Value.slice none 0 0,Value.slice none 0 0,Value.slice none 0 0,Value.int .i64 0] 37 (0,0));have d2:=(Blk.new (w:=w.alloc (.cells #[.slice xa n.st.length xc,.slice sa n.bas.steps.length sc,.slice ta n.bas.taken.length tc,.int .i64 n.life] 37 (0,0))) (cs:=[.slice pa b.steps.length pc,.slice qa b.taken.length qc]) (E:=35)).alloc (.cells #[Value.slice none 0 0,Value.slice none 0 0,Value.slice none 0 0,Value.int .i64 0] 37 (0,0));have z2:=Blk.new (w:=(w.alloc (.cells #[.slice xa n.st.length xc,.slice sa n.bas.steps.length sc,.slice ta n.bas.taken.length tc,.int .i64 n.life] 37 (0,0))).alloc (.cells #[.slice pa b.steps.length pc,.slice qa b.taken.length qc] 35 (0,0))) (cs:=[.slice none 0 0,.slice none 0 0,.slice none 0 0,.int .i64 0]) (E:=37);have u2:Upd NoB w (((w.alloc (.cells #[.slice xa n.st.length xc,.slice sa n.bas.steps.length sc,.slice ta n.bas.taken.length tc,.int .i64 n.life] 37 (0,0))).alloc (.cells #[.slice pa b.steps.length pc,.slice qa b.taken.length qc] 35 (0,0))).alloc (.cells #[Value.slice none 0 0,Value.slice none 0 0,Value.slice none 0 0,Value.int .i64 0] 37 (0,0))):=(Upd.alloc.alloc').alloc';rw[aI] at d2;rw[aI,aI] at z2;have gF : ∀b,b<w.heap.size→NoB b∨F3 F w b→F b:=fun b hb h=>h.elim (fun h=>h.elim) fun h=>by
  rcases h with h | h | h | h
  ·exact h.1
  all_goals omega
 have g2:=aH.go (F':=F3 F w) hc u2 gF;have gb2:=aK.go (F':=F3 F w) hb u2 gF;generalize ((w.alloc (.cells #[.slice xa n.st.length xc,.slice sa n.bas.steps.length sc,.slice ta n.bas.taken.length tc,.int .i64 n.life] 37 (0,0))).alloc (.cells #[.slice pa b.steps.length pc,.slice qa b.taken.length qc] 35 (0,0))).alloc (.cells #[Value.slice none 0 0,Value.slice none 0 0,Value.slice none 0 0,Value.int .i64 0] 37 (0,0))=w2 at *;rw[show w.heap.size+1+1=w.heap.size+2 from rfl] at *;have s2:w.heap.size+2<w2.heap.size:=z2.lt;subst hKs;rw[aC];obtain⟨_,_,_,_,eb,gm1,gm2,_⟩:=bE gb2;injection eb with q1 eb;injection eb with q2 _;rw[←q2] at gm2;obtain⟨_,_,_,_,_,_,e4,gn1,g4',_⟩:=aN g2;injection e4 with p1 e4;injection e4 with p2 e4;injection e4 with p3 _;rw[←p1] at gn1;rw[←p2,←p3] at g4';rw[aD];generalize hKs:KS _ _ _ _ _=Ks;simp(maxSteps:=3000000)(disch:=omega)only[push_cast,seval,c2.cell,d2.cell];refine Ok.use (tV gn1 gm2 h1 h2 hl) ?_;rintro u w3 ⟨r3,u3,_⟩;obtain⟨ra,rc,rfl⟩:=r3.form;have c3:=c2.upd u3 fun h=>h;have d3:=d2.upd u3 fun h=>h;have z3:=z2.upd u3 fun h=>h;have r3':SlD eC w3 (F3 F w) (.slice ra (ofC (n.st ++ b.taken)).length rc) (ofC (n.st ++ b.taken)):=(r3.slD aA).go aA (Upd.refl (F:=NoB)) fun b _ h=>h.elim (fun h=>h.elim) fun h=>⟨h,by
  show b<w2.heap.size;rcases h with h | h | h | h
  ·exact Nat.lt_of_lt_of_le h.2 u2.size
  all_goals omega⟩
 have k4:eB.C w3 (F3 F w) n.bas [.slice sa n.bas.steps.length sc,.slice ta n.bas.taken.length tc]:=aK.go g4' u3 fun _ _ h=>h.elim (fun h=>h.elim) id;have gb3:=aK.go (F':=F3 F w) gb2 u3 fun b _ h=>h.elim (fun h=>h.elim) id;simp(maxSteps:=3000000)(disch:=omega)only[push_cast,seval,c3.cell,c3.free];have c4:=c3.set 0 (.slice ra (ofC (n.st ++ b.taken)).length rc);have u4:Upd (fun b=>b=w.heap.size) w3 (w3.setCell ⟨w.heap.size,0,none⟩ (.slice ra (ofC (n.st ++ b.taken)).length rc)):=Upd.set rfl;simp only[List.set_cons_succ,List.set_cons_zero] at c4;have d4:=d3.upd u4 (by omega);have z4:=z3.upd u4 (by omega);have v4:Upd NoB w (w3.setCell ⟨w.heap.size,0,none⟩ (.slice ra (ofC (n.st ++ b.taken)).length rc)):=(u2.trans u3 fun _ _ h=>h).trans u4 fun b hb h=>by omega
 have j1:SlD eC _ (F3 F w) (.slice ra (ofC (n.st ++ b.taken)).length rc) (ofC (n.st ++ b.taken)):=r3'.go aA u4 fun b _ h=>h.elim (fun h=>.inr (.inl h)) id;have j2:=aK.go (F':=F3 F w) k4 u4 fun b _ h=>h.elim (fun h=>.inr (.inl h)) id;have gb4:=aK.go (F':=F3 F w) gb3 u4 fun b _ h=>h.elim (fun h=>.inr (.inl h)) id;generalize w3.setCell ⟨w.heap.size,0,none⟩ (.slice ra (ofC (n.st ++ b.taken)).length rc)=w4 at *;subst hKs;rw[aC];have j3:ConW (joinN n b.taken):=k3.join h1 h2;have cc : ∀{w':World},Upd NoB w4 w'→∀j,w'.cell? ⟨w.heap.size,j,none⟩ = [Value.slice ra (ofC (n.st ++ b.taken)).length rc,Value.slice sa n.bas.steps.length sc,Value.slice ta n.bas.taken.length tc,Value.int .i64 n.life][j]? :=fun u j=>(c4.upd u fun h=>h).cell j;have dd : ∀{w':World},Upd NoB w4 w'→∀j,w'.cell? ⟨w.heap.size+1,j,none⟩ = [Value.slice pa b.steps.length pc,Value.slice qa b.taken.length qc][j]? :=fun u j=>(d4.upd u fun h=>h).cell j;have hdr:Upd NoB w4 w4.drew:=Upd.drew;simp(maxSteps:=3000000)(disch:=omega)only[push_cast,seval,↓aE,↓aF,cc hdr,dd hdr];refine Ok.use (jP (aK.go (F':=F3 F w) gb4 hdr fun b _ h=>h.elim (fun h=>h.elim) id) hs2) ?_;rintro u w5 ⟨r5,u5'⟩;obtain⟨ra5,rc5,rfl,_⟩:=r5.form;have u5:Upd NoB w4 w5:=hdr.trans u5' fun _ _ h=>h;simp(maxSteps:=3000000)(disch:=omega)only[push_cast,seval,↓aE,↓aF,cc hdr,dd hdr,cc u5,dd u5];refine Ok.use (jP (aK.go (F':=F3 F w) j2 u5 fun b _ h=>h.elim (fun h=>h.elim) id) hs1) ?_;rintro u w6 ⟨r6,u6'⟩;obtain⟨ra',rc',rfl,_⟩:=r6.form;have u6:Upd NoB w4 w6:=u5.trans u6' fun _ _ h=>h;have c6:=c4.upd u6 fun h=>h;have d6:=d4.upd u6 fun h=>h;have z6:=z4.upd u6 fun h=>h;have v6:=v4.trans u6 fun _ _ h=>h;have j1':SlD eC w6 (F3 F w) (.slice ra (ofC (n.st ++ b.taken)).length rc) (ofC (n.st ++ b.taken)):=j1.go aA u6 fun b _ h=>h.elim (fun h=>h.elim) id;have j2':eB.C w6 (F3 F w) n.bas [.slice sa n.bas.steps.length sc,.slice ta n.bas.taken.length tc]:=aK.go j2 u6 fun b _ h=>h.elim (fun h=>h.elim) id;have gb6:eB.C w6 (F3 F w) b [.slice pa b.steps.length pc,.slice qa b.taken.length qc]:=aK.go gb4 u6 fun b _ h=>h.elim (fun h=>h.elim) id;by_cases hlt:(confB n.bas).length<(confB b).length
 ·have hlt':((confB n.bas).length:Int)<((confB b).length:Int):=by omega
  have c7:=(c6.set 1 (.slice pa b.steps.length pc)).set 2 (.slice qa b.taken.length qc);simp only[List.set_cons_succ,List.set_cons_zero] at c7;have u7:Upd (fun b=>b=w.heap.size) w6 ((w6.setCell ⟨w.heap.size,1,none⟩ (.slice pa b.steps.length pc)).setCell ⟨w.heap.size,2,none⟩ (.slice qa b.taken.length qc)):=(Upd.set (F:=fun b=>b=w.heap.size) rfl).setIn rfl;have z7:=z6.upd u7 (by omega);have z8:=z7.setRow (cs':=[.slice ra (ofC (n.st ++ b.taken)).length rc,.slice pa b.steps.length pc,.slice qa b.taken.length qc,.int .i64 n.life]);simp(maxSteps:=3000000)(disch:=omega)only[push_cast,seval,↓aE,↓aF,cc hdr,dd hdr,cc u5,dd u5,cc u6,dd u6,hlt',d6.cell,c6.cell,c6.free,aJ (P:=Tryz.prog) (t:=37) c7 (by kernel_rfl) (by kernel_rfl),aM (P:=Tryz.prog) (t:=37) (cs':=[.slice ra (ofC (n.st ++ b.taken)).length rc,.slice pa b.steps.length pc,.slice qa b.taken.length qc,.int .i64 n.life]) z7 (by kernel_rfl) rfl (fun u hu=>by simp at hu; rcases hu with rfl | rfl | rfl | rfl <;> rfl),aJ (P:=Tryz.prog) (t:=37) z8 (by kernel_rfl) (by kernel_rfl)];generalize (w6.setCell ⟨w.heap.size,1,none⟩ (.slice pa b.steps.length pc)).setCell ⟨w.heap.size,2,none⟩ (.slice qa b.taken.length qc)=w7 at *;have u8:Upd (fun b=>b=w.heap.size+2) w7 (w7.setRow (w.heap.size+2) #[.slice ra (ofC (n.st ++ b.taken)).length rc,.slice pa b.steps.length pc,.slice qa b.taken.length qc,.int .i64 n.life]):=Upd.setRow rfl;have er:rebN n b = {joinN n b.taken with bas:=b}:=by
   unfold rebN;rw[if_pos hlt]
  rw[er];have j1'':SlD eC w7 (F3 F w) (.slice ra (ofC (n.st ++ b.taken)).length rc) (ofC (n.st ++ b.taken)):=j1'.go aA u7 fun b _ h=>h.elim (fun h=>.inr (.inl h)) id;have gb7:eB.C w7 (F3 F w) b [.slice pa b.steps.length pc,.slice qa b.taken.length qc]:=aK.go gb6 u7 fun b _ h=>h.elim (fun h=>.inr (.inl h)) id;exact⟨_,rfl,⟨_,_,_,rfl,j1''.go aA u8 fun b _ h=>h.elim (fun h=>.inr (.inr (.inr h))) .inl,aK.go gb7 u8 fun b _ h=>h.elim (fun h=>.inr (.inr (.inr h))) .inl,⟨j3.1,m3,j3.2.2⟩⟩,(v6.trans u7 fun b hb h=>by omega).trans u8 fun b hb h=>by omega⟩
 ·have hlt' : ¬((confB n.bas).length:Int)<((confB b).length:Int):=by omega
  have z8:=z6.setRow (cs':=[.slice ra (ofC (n.st ++ b.taken)).length rc,.slice sa n.bas.steps.length sc,.slice ta n.bas.taken.length tc,.int .i64 n.life]);simp(maxSteps:=3000000)(disch:=omega)only[push_cast,seval,↓aE,↓aF,cc hdr,dd hdr,cc u5,dd u5,cc u6,dd u6,hlt',aJ (P:=Tryz.prog) (t:=37) c6 (by kernel_rfl) (by kernel_rfl),aM (P:=Tryz.prog) (t:=37) (cs':=[.slice ra (ofC (n.st ++ b.taken)).length rc,.slice sa n.bas.steps.length sc,.slice ta n.bas.taken.length tc,.int .i64 n.life]) z6 (by kernel_rfl) rfl (fun u hu=>by simp at hu; rcases hu with rfl | rfl | rfl | rfl <;> rfl),aJ (P:=Tryz.prog) (t:=37) z8 (by kernel_rfl) (by kernel_rfl)];have u8:Upd (fun b=>b=w.heap.size+2) w6 (w6.setRow (w.heap.size+2) #[.slice ra (ofC (n.st ++ b.taken)).length rc,.slice sa n.bas.steps.length sc,.slice ta n.bas.taken.length tc,.int .i64 n.life]):=Upd.setRow rfl;have er:rebN n b=joinN n b.taken:=by
   unfold rebN;rw[if_neg hlt];rfl
  rw[er];exact⟨_,rfl,⟨_,_,_,rfl,j1'.go aA u8 fun b _ h=>h.elim (fun h=>.inr (.inr (.inr h))) .inl,aK.go j2' u8 fun b _ h=>h.elim (fun h=>.inr (.inr (.inr h))) .inl,j3⟩,v6.trans u8 fun b hb h=>by omega⟩
end Go.Proofs.YtpgigkceoolgeaaGreatDoor.Fd
