import Derived.Test.YtpgigkceoolgeaaGreatDoorQ36
set_option linter.all false
namespace Go.Proofs.YtpgigkceoolgeaaGreatDoor.Fd
open Go
set_option maxRecDepth 100000
theorem aCX {w:World}{area room:Nat}{F:Nat→Prop}{cs:List Value}(hcs:cs = [.slice none 0 0,.slice none 0 0,.slice none 0 0,.int .i64 0,.slice none 0 0,.int .i64 (area:Int),.int .i64 (room:Int)]){mb:Nat}(h:Blk w mb cs 40):RW w F mb area room (con0,[]):=by
 subst hcs;exact⟨[.slice none 0 0,.slice none 0 0,.slice none 0 0,.int .i64 0],.slice none 0 0,h,⟨_,_,_,rfl,SlD.nil,⟨_,_,rfl,SlD.nil,SlD.nil,dB⟩,vS.w⟩,SlR.nil⟩
theorem Geo.area {N sz first count:Nat}(g:Geo N sz first count):areaG sz count≤250000∧roomG sz count≤410000:=
 ⟨Nat.le_trans (Nat.mul_le_mul_right _ (by omega)) g.ar,Nat.le_trans (Nat.mul_le_mul_right _ (by omega)) g.ar2⟩
open Go
set_option maxRecDepth 100000
theorem aCY {s:DS×CS}{b:List Int}(h:(csave s b).2=0):0<(csave s b).1.2.gen:=by
 unfold csave at *;split at h
 ·cases h
 ·rename_i h1;rw[if_neg h1];split at h
  ·cases h
  ·rename_i h2;rw[if_neg h2];split at h
   ·rename_i h3;rw[if_pos h3];exact Nat.succ_pos _
   ·cases h
theorem wN {s:LS}{n:Con}(h:(lsave s n).2=0):0<(lsave s n).1.c.gen:=by
 unfold lsave at *;split at h
 ·cases h
 ·rename_i h1;rw[if_neg h1];dsimp only at h ⊢;split at h
  ·rename_i h2;rw[if_pos h2];exact aCY h2
  ·rename_i h2;split at h
   ·cases h
   ·exact absurd h h2
theorem oA {N sz first count G:Nat}(g:Geo N sz first count){s:LS}{rs:List Rec}{n0:Con}(h:Up N sz first count G s rs n0){r:Rec}(hr:RecW r)(hn:ConS (applyR s.n r))(hG:G<4611686018427387904)(hc:s.d.cnt=none)(hrs:rs≠[])
 (h0:(rchange (areaG sz count) (roomG sz count) (s.n,rs.map encRc) (applyR s.n r) (encRc r)).1.2 = []):0<(lchange s (applyR s.n r) (encRc r)).1.c.gen:=by
 have em:(rs ++ [r]).map encRc=rs.map encRc ++ [encRc r]:=by rw[List.map_append]; rfl
 have hle:=nS h.cons hr;have ha:=vP g h hr hn;rw[em] at ha;unfold rchange at h0;dsimp only at h0;split at h0
 ·simp at h0
 rename_i hful;split at h0
 ·exact absurd (List.map_eq_nil_iff.1 h0) hrs
 rename_i hroom;rcases ha with ⟨_,e⟩ | ⟨hfit,_⟩
 ·unfold lchange;dsimp only;rw[e,if_pos rfl];have es:({s with d:=s.d,j:=s.j}:LS)=s:=rfl;dsimp only;rcases kB g h hn (fun x hx=>(h.fnd.abs x hx).mono hle.1) hG with ⟨hf2,_⟩ | ⟨_,⟨e0,_⟩ | ⟨_,_,_,hh⟩⟩
  ·exact absurd hf2 hroom
  ·have e0':(lsave ⟨s.d,s.j,s.c,s.n,s.dn⟩ (applyR s.n r)).2=0:=e0;rw[if_pos e0'];exact wN e0'
  ·exact absurd hc hh
 ·exact absurd hfit hful
theorem aCZ {N sz first count G t:Nat}(g:Geo N sz first count){s:LS}{rs:List Rec}{n0:Con}(h:Up N sz first count G s rs n0)(hG:G<4611686018427387904)(hs:SmN t s.n)(ht:t≤28){o:POp}(ho:POpB o)(hc:s.d.cnt=none)
 (h0:(rop (areaG sz count) (roomG sz count) (s.n,rs.map encRc) o).1.2 = []) (hw:rs≠[]∨(o = .cmp∧(rop (areaG sz count) (roomG sz count) (s.n,rs.map encRc) o).2=0)):0<(lop s o).1.c.gen:=by
 have hdn : ¬s.dn=true:=by rw[h.dn]; decide
 cases o with
 | ext l=>
  have hrs:rs≠[]:=hw.elim id fun hh=>by cases hh.1
  have h0:(rextend (areaG sz count) (roomG sz count) (s.n,rs.map encRc) l).1.2 = []:=h0;show 0<(lextend s l).1.c.gen;unfold rextend at h0;unfold lextend;rw[if_neg hdn];dsimp only at h0;split at h0
  ·exact absurd (List.map_eq_nil_iff.1 h0) hrs
  ·rename_i h1;rw[if_neg h1];exact oA g h (r:=.ext (minC l s.n.st)) ⟨fun x hm=>(ho.1 x (hP (fun x hx=>(ho.1 x hx).s) hm)).s,j9 fun x hx=>(ho.1 x hx).s,by have:=cU (l:=l) (m:=s.n.st); have:=ho.2; omega⟩ ((hs.join (iB ho.1) (by have:=cU (l:=l) (m:=s.n.st); have:=ho.2; omega)).cons (by omega)) hG hc hrs h0
 | reb b=>
  have hrs:rs≠[]:=hw.elim id fun hh=>by cases hh.1
  have h0:(rrebase (areaG sz count) (roomG sz count) (s.n,rs.map encRc) b).1.2 = []:=h0;have hx:=BasB.s ho;show 0<(lrebase s b).1.c.gen;unfold rrebase at h0;unfold lrebase;rw[if_neg hdn];dsimp only at h0;split at h0
  ·exact absurd (List.map_eq_nil_iff.1 h0) hrs
  ·rename_i h1;rw[if_neg h1];exact oA g h (r:=.reb b) ⟨hx.w,hx.ts,hx.to,by have:=hx.tl; omega,by have:=hx.bl; omega,hx.cl⟩ ((hs.reb ho).cons (by omega)) hG hc hrs h0
 | liv=>
  have hrs:rs≠[]:=hw.elim id fun hh=>by cases hh.1
  have h0:(rlive (areaG sz count) (roomG sz count) (s.n,rs.map encRc)).1.2 = []:=h0;show 0<(llive s).1.c.gen;unfold rlive at h0;unfold llive;rw[if_neg hdn];dsimp only at h0;split at h0
  ·exact absurd (List.map_eq_nil_iff.1 h0) hrs
  ·rename_i h1;rw[if_neg h1];have e:=vR (n:=s.n) hs.l0;have h2:=hs.l0;have h3:=hs.l1;have:=oA g h (r:=.liv (s.n.life.toNat+1)) (by show s.n.life.toNat+1≤_; omega) (by rw[e]; exact(hs.liv h1).cons (by omega)) hG hc hrs (by rw[e]; exact h0);rw[e] at this;exact this
 | cmp=>
  show 0<(lcompact s).1.c.gen;unfold lcompact;rw[if_neg hdn];have hfit : ¬roomG sz count<(encCn s.n).length:=by
   intro hh;have e:rop (areaG sz count) (roomG sz count) (s.n,rs.map encRc) .cmp=((s.n,rs.map encRc),7):=by
    show rcompact _ _=_;unfold rcompact;exact if_pos hh
   rw[e] at h0 hw;rcases hw with hw | ⟨_,hw⟩
   ·exact hw (List.map_eq_nil_iff.1 h0)
   ·cases hw
  rcases kB g h h.cons h.fnd.abs hG with ⟨hf2,_⟩ | ⟨_,⟨e0,_⟩ | ⟨_,_,_,hh⟩⟩
  ·exact absurd hf2 hfit
  ·exact wN e0
  ·exact absurd hc hh
theorem Up.newest {N sz first count G:Nat}{s:LS}{rs:List Rec}{n0:Con}(h:Up N sz first count G s rs n0)(h0:rs.map encRc = [])(hg:0<s.c.gen):s.c.newest=encCn s.n:=by
 have e:=List.map_eq_nil_iff.1 h0;subst e;have hr:n0=s.n:=h.fnd.rep;have hc:=h.fnd.cp;rw[←h.c] at hc;rcases hc with ⟨e,_⟩ | ⟨_,e,_⟩
 ·omega
 ·rw[e,hr]
theorem Up.openC {N sz first count G:Nat}{s:LS}{rs:List Rec}{n0:Con}(h:Up N sz first count G s rs n0):openC s.d first (count/2/2)=s.c:=by
 rw[h.c,uY];exact gZ fun a h1 h2=>eE h.cache
open Go
set_option maxRecDepth 100000
set_option maxHeartbeats 16000000 in
theorem aC0 {w:World}(hK:KT w){s:Nat}(hs:s<256){v:Value}{l:List OpS}(hv:SlD eO w (OLD w) v l) :
 Ok (den Tryz.prog 4 #[.int .u8 (s:Int),v] w) fun u w'=>u = .bool true∧Upd (fun _=>False) w w':=by
 obtain⟨va,vc,rfl,_⟩:=hv.form;have g:=aCV hs;have hsh:=fun {w:World}=>aCQ (w:=w) hs;obtain⟨C,hC⟩ : ∃C,C=8+s%64:=⟨_,rfl⟩;obtain⟨NS,hNS⟩ : ∃N,N=9+s%64:=⟨_,rfl⟩;obtain⟨sz,hsz⟩ : ∃z,z=szS s:=⟨_,rfl⟩;rw[←hC,←hNS,←hsz] at g hsh;have hC8:=g.c8;have hC71:C≤71:=by omega
 refine aB (args:=[.int .u8 (s:Int),.slice va l.length vc]) rs4 Tryz.func4 rfl mixed (by kernel_rfl) ok4 rfl ?_;simp(maxSteps:=3000000)(disch:=omega)only[push_cast,seval];refine Ok.use (aBi hK) ?_;rintro v w1 ⟨rfl,u1⟩;simp(maxSteps:=3000000)(disch:=omega)only[push_cast,seval];refine Ok.use hsh ?_;rintro v w2 ⟨p,rfl,hd2,u2⟩;have v2:=u1.trans u2 fun _ _ h=>h;simp(maxSteps:=3000000)(disch:=omega)only[push_cast,seval];refine Ok.use (aCK (hv.go (F':=NoB) dQ v2 fun _ _ h=>(h.elim id id).elim)) ?_;rintro v w3 ⟨⟨b,rfl,hb⟩,u3⟩;have v3:=v2.trans u3 fun _ _ h=>h;cases b
 ·simp(maxSteps:=3000000)(disch:=omega)only[push_cast,seval];exact v3
 obtain⟨hl24,hB⟩:=hb rfl;have hk1:=hK.1;have hs1:=u1.size;have hgr : ∀b,gr (fun _=>False) w1 w2 b→w.heap.size≤b:=fun b hb=>hb.elim (fun h=>h.elim) fun h=>by omega
 simp(maxSteps:=3000000)(disch:=omega)only[push_cast,seval];refine Ok.use (nV (hK.upd v3 fun h=>h) (hd2.upd u3 fun _ _ h=>h) (fun h=>by have:=hgr 1 h; omega) g WfD.new rfl (by decide) (vT g)) ?_;rintro v w4 ⟨lb,jb,cb,J,s4,rfl,hJ,hL,u4,hsd,hsn,hU⟩;have v4:=v3.trans u4 fun _ _ h=>h;have hcn4:s4.d.cnt=none:=by rw[hsd]; rfl
 have hsz4:s4.d.size=sz:=by rw[hsd]; rfl
 simp(maxSteps:=3000000)(disch:=omega)only[push_cast,seval];refine Ok.use (bM hL.jw.disk) ?_;rintro v w5 ⟨rfl,rfl⟩;rw[show(s4.d,s4.j).1.size=sz from hsz4];have hz2:=g.z2;simp(maxSteps:=3000000)(disch:=omega)only[push_cast,seval];have har:=g.area;refine Ok.use (aB9 (count:=C) (sz:=sz) (by omega) (by omega) hz2) ?_;rintro v w5 ⟨rfl,u5⟩;have h5:=hL.quiet u5;have v5:=v4.trans u5 fun _ _ h=>h;obtain⟨AR,hAR⟩ : ∃A,A=areaG sz C:=⟨_,rfl⟩;obtain⟨RO,hRO⟩ : ∃A,A=roomG sz C:=⟨_,rfl⟩;rw[←hAR,←hRO] at har ⊢;have b6:=Blk.new (w:=w5) (cs:=[.slice none 0 0,.slice none 0 0,.slice none 0 0,.int .i64 0,.slice none 0 0,.int .i64 0,.int .i64 0]) (E:=40);have b7:=b6.setRow (cs':=[.slice none 0 0,.slice none 0 0,.slice none 0 0,.int .i64 0,.slice none 0 0,.int .i64 (AR:Int),.int .i64 (RO:Int)]);have u7:Upd NoB w5 ((w5.alloc (.cells #[.slice none 0 0,.slice none 0 0,.slice none 0 0,.int .i64 0,.slice none 0 0,.int .i64 0,.int .i64 0] 40 (0,0))).setRow w5.heap.size #[.slice none 0 0,.slice none 0 0,.slice none 0 0,.int .i64 0,.slice none 0 0,.int .i64 (AR:Int),.int .i64 (RO:Int)]):=Upd.alloc.trans (Upd.setRow (F:=fun b=>b=w5.heap.size) rfl) fun b hb e=>by omega
 generalize hKs:KS _ _ _ _ _=Ks;simp(disch:=omega)only[push_cast,seval,vY,aM (P:=Tryz.prog) (t:=40) (cs':=[.slice none 0 0,.slice none 0 0,.slice none 0 0,.int .i64 0,.slice none 0 0,.int .i64 (AR:Int),.int .i64 (RO:Int)]) b6 (by kernel_rfl) rfl (fun u hu=>by simp at hu; rcases hu with rfl | rfl | rfl | rfl | rfl <;> rfl)];have s4':=v4.size;have s5:=v5.size;have mlt:=b7.lt;generalize (w5.alloc (.cells #[.slice none 0 0,.slice none 0 0,.slice none 0 0,.int .i64 0,.slice none 0 0,.int .i64 0,.int .i64 0] 40 (0,0))).setRow w5.heap.size #[.slice none 0 0,.slice none 0 0,.slice none 0 0,.int .i64 0,.slice none 0 0,.int .i64 (AR:Int),.int .i64 (RO:Int)]=w7 at *;have hX:LX w7 _ J (fun b=>b=w5.heap.size) p lb jb cb s4:=LX.of h5 h5.jw.jj h5.cw.jj u7 fun b hb=>by subst hb; exact⟨Nat.le_refl _,mlt⟩
 have hR:RW w7 (FF (gr (fun _=>False) w1 w2) J) w5.heap.size AR RO (con0,[]):=aCX rfl b7;have v7:=v5.trans u7 fun _ _ h=>h;have hmw:w.heap.size≤w5.heap.size:=by omega
 generalize w5.heap.size=mb at *;subst hKs;rw[aC];simp(maxSteps:=3000000)(disch:=omega)only[push_cast,seval];have hJw : ∀b,J b→w.heap.size≤b:=fun b hb=>Nat.le_trans v3.size (hJ b hb);refine aG (I:=fun k st w'=>Bx (∃(i:Nat) (D:Nat→Prop) (s':LS) (rs:List Rec) (n0:Con),k+i=l.length∧st = [.int .i64 (i:Int)]∧LX w' D J (fun b=>b=mb) p lb jb cb s'∧(∀b,D b→w.heap.size≤b)∧
  Up NS sz 1 C i s' rs n0∧SmN i s'.n∧s'.d.cnt=none∧RW w' (FF D J) mb AR RO (s'.n,rs.map encRc)∧Upd NoB w w') ⟨⟩) ?_ l.length ⟨0,_,s4,[],con0,by omega,rfl,hX,hgr,hU,by rw[hsn]; exact vX,hcn4,by rw[hsn]; exact hR,v7⟩
 clear hL hU hX hR hJw hsd hsn h5 hcn4 hsz4 b6 b7;rintro k st w8 ⟨i,D,s8,rs,n0,hk,rfl,hL,hD,hU,hsm,hcn,hR,v8⟩;by_cases hk0:k=0
 ·obtain rfl:i=l.length:=by omega
  simp(maxSteps:=3000000)(disch:=omega)only[push_cast,seval];exact v8
 have hi:i<l.length:=by omega
 have hi':(i:Int)<(l.length:Int):=by omega
 have hx:=List.getElem?_eq_getElem hi;generalize l[i]=o at hx;have hoB:=hB o (List.mem_of_getElem? hx);have ht28:i≤28:=by omega
 have hlb:=hU.lb g;have hJ' : ∀b,J b→w.heap.size≤b:=fun b hb=>Nat.le_trans v3.size (hJ b hb);have hFn : ∀b,FF D (JM J fun b=>b=mb) b→w.heap.size≤b:=fun b hb=>hb.elim (hD b) fun hb=>hb.elim (hJ' b) fun e=>by rw[e]; exact hmw
 obtain⟨og,oo,xc,cs,hvv,hog,hoF,hx1,hcell⟩:=(hv.go (F':=FF D (JM J fun b=>b=mb)) dQ v8 fun b _ h=>h.elim (fun h=>h.elim) (hFn b)).at_ hx;injection hvv with ev1 _ ev3;subst ev1 ev3;have kc:=dQ.len hx1;have es:eO.s=6:=rfl;rw[es] at hcell kc;have hcu : ∀{w':World} {G:Nat→Prop},Upd G w8 w'→¬G og→∀r,r<6→w'.cell? ⟨og,oo+i*6+r,none⟩=cs[r]? :=fun hu hG r hr=>by rw[World.cell?_of_block (hu.block og hog hG)]; exact hcell r hr
 have lO : ∀{w':World} {G:Nat→Prop},Upd G w8 w'→¬G og→ldS Tryz.prog 45 (.pointer (some ⟨og,oo+i*6,none⟩)) w'=some (.agg cs.toArray,w'):=fun hu hG=>cF (P:=Tryz.prog) (t:=45) (by kernel_rfl) (by rw[kc]; kernel_rfl) (by rw[kc]; exact hcu hu hG);have nbm : ¬NoB mb:=fun h=>h;have nbo : ¬NoB og:=fun h=>h;have hmb8:=hR.lt;obtain⟨lv,p1,p2,kv,rfl,hlist,hbase,hkeep,hi1,hi2⟩:=id hx1;have hc0 : ∀{w':World} {G:Nat→Prop},Upd G w8 w'→¬G og→w'.cell? ⟨og,oo+i*6,none⟩=some (.int .i64 o.kind):=fun hu hG=>by have:=hcu hu hG 0 (by omega); rw[Nat.add_zero] at this; exact this
 have hU':=hU.mono (show i≤i+1 by omega);have hsm':=hsm.mono (show i≤i+1 by omega);have hst:(stream (rs.map encRc)).length≤900000:=by
  have h1:=hU.fnd.fit;have h2:(C-C/2-1)*sz=areaG sz C:=rfl;rw[h2,←hAR] at h1;omega
 generalize hc25:Code.seq (Code.region 25 _ _) _=c25;generalize hc13:Code.seq (Code.seq (Code.region 13 _ _) _) c25=c13;simp(maxSteps:=3000000)(disch:=omega)only[push_cast,seval,hi'];subst hc13;rw[aD];generalize hK25:KS _ _ c25 _ _=K25;obtain⟨h,hh⟩ : ∃h,h=C/2:=⟨_,rfl⟩;obtain⟨f,hf⟩ : ∃f,f=1+h:=⟨_,rfl⟩;obtain⟨c2,hc2⟩ : ∃c2,c2=C-h:=⟨_,rfl⟩;have t1:(C:Int).tdiv 2=(h:Int):=by rw[hh,show(2:Int)=((2:Nat):Int) from rfl,←Int.ofNat_tdiv]
 have t2:IntKind.i64.wrap (h:Int)=h:=by rw[IntKind.wrap_i64]; omega
 have t3:(1:Int)+(h:Int)=(f:Int):=by omega
 have t4:(C:Int)-(h:Int)=(c2:Int):=by omega
 have t5:IntKind.i64.wrap (f:Int)=f:=by rw[IntKind.wrap_i64]; omega
 have t6:IntKind.i64.wrap (c2:Int)=c2:=by rw[IntKind.wrap_i64]; omega
 have h25 : ∀(ρ:Env) (w6:World) (D':Nat→Prop) (s6:LS) (rs6:List Rec) (m0:Con),ρ 5 = .pointer (some ⟨p,0,none⟩)→ρ 6 = .int .i64 (C:Int)→ρ 1 = .slice (some ⟨og,oo,none⟩) l.length vc→ρ 7 = .pointer (some ⟨lb,0,none⟩)→ρ 9 = .pointer (some ⟨mb,0,none⟩)→ρ 10 = .int .i64 (i:Int)→
  LX w6 D' J (fun b=>b=mb) p lb jb cb s6→(∀b,D' b→w.heap.size≤b)→Up NS sz 1 C (i+1) s6 rs6 m0→SmN (i+1) s6.n→s6.d.cnt=none→RW w6 (FF D' J) mb AR RO (s6.n,rs6.map encRc)→Upd NoB w w6→K25 (.normal,ρ,w6):=by
  intro ρ w6 D' s6 rs6 m0 e5 e6 e1 e7 e9 e10 h6 hD6 hU6 hs6 hc6 R6 v6;subst hK25;subst hc25;simp(maxSteps:=3000000)(disch:=omega)only[push_cast,seval,e5,e6,e1,e7,e9,e10,t1,t2,t3,t4,t5,t6];have hgd:=hU6.good;have hdm:=g.dims;have hw6:=hU6.wf;have hopen:=vG hgd hdm fun a ha=>by
   rw[hw6.sz.size];exact(hw6.content (by rw[←hw6.sz.dur]; exact ha)).1
  have hspl:=hgd.spl hdm;have hfit:=hU6.fnd.fit;have hrl:=hgd.rl;have hz1:=g.z1;have hn1:=g.n1;have hfc:=g.fc;have har1:=g.ar;rw[←hh,←hf,←hc2] at hopen;rw[←hh,←hc2] at har1 hfit;have hdur:(rs6.map encRc).length≤250000:=by
   have h1:=iA (ls:=rs6.map encRc);have h2:(c2-1)*sz≤c2*sz:=Nat.mul_le_mul_right _ (by omega);omega
  have hst6:(stream (rs6.map encRc)).length≤250000:=by
   have h2:(c2-1)*sz≤c2*sz:=Nat.mul_le_mul_right _ (by omega);omega
  refine Ok.use (rK h6.l.jw.disk hw6.sz (by decide) (by omega) (by omega) hw6.rng (by omega) (by omega) (by omega) har1) ?_;rintro v w9 ⟨ho,u9⟩;rw[hopen] at ho;obtain⟨jb2,rfl,hj1,hj2,hjo⟩:=ho;have v9:=v6.trans u9 fun _ _ h=>h;have h9:=h6.quiet u9;have hJW:JW w9 D' (fun b=>b=jb2) p jb2 (s6.d,jsOf f c2 sz (rs6.map encRc)):=by
   obtain⟨sv,j1,j2,j3⟩:=hjo;refine⟨h9.l.jw.disk,⟨sv,j1,j2.mono fun b _ hh=>?_,j3⟩,rfl,fun b e=>?_⟩
   ·exact hh.elim (fun hd=>.inl (h6.l.jw.disk.bd b hd)) .inr
   ·subst e;exact⟨fun hd=>by have:=h6.l.jw.disk.bd b hd; omega,hj2⟩
  simp(maxSteps:=3000000)(disch:=omega)only[push_cast,seval,e5,e6,e1,e7,e9,e10];refine Ok.use (rG hJW (by show(stream (rs6.map encRc)).length≤_; omega)) ?_;rintro v w10 ⟨hrec,u10⟩;rw[show(s6.d,jsOf f c2 sz (rs6.map encRc)).2.stream=stream (rs6.map encRc) from rfl,hspl] at hrec;dsimp only at hrec;have v10:=v9.trans u10 fun _ _ h=>h;have u610:=u9.trans u10 fun _ _ h=>h;obtain⟨ra,rc,rfl,_⟩:=id hrec;obtain⟨csm,rvm,hbm,hnm,hrm⟩:=id R6;have kcm:=aH.len hnm;have ens:eN.s=4:=rfl;rw[ens] at kcm;obtain⟨ma,mc,rfl,_⟩:=id hrm;have hm4 : ∀{w':World},Upd NoB w6 w'→w'.cell? ⟨mb,4,none⟩=some (.slice ma (rs6.map encRc).length mc):=fun u=>by
   rw[(hbm.upd u nbm).cell,List.getElem?_append_right (by omega),kcm];rfl
  simp(maxSteps:=3000000)(disch:=omega)only[push_cast,seval,e5,e6,e1,e7,e9,e10,hm4 u610];generalize hls:rs6.map encRc=ls at *;refine aG (I:=fun k2 st w'=>Bx (∃m:Nat,k2+m=ls.length∧st = [.int .i64 (m:Int)]∧Upd NoB w10 w') ⟨⟩) ?_ ls.length ⟨0,rfl,rfl,Upd.refl⟩;rintro k2 st w11 ⟨m,hk2,rfl,u11⟩;have u611:=u610.trans u11 fun _ _ h=>h;by_cases hk20:k2=0
  ·obtain rfl:m=ls.length:=by omega
   simp(maxSteps:=3000000)(disch:=omega)only[push_cast,seval,e5,e6,e1,e7,e9,e10];exact⟨k-1,by omega,i+1,D',s6,rs6,m0,by omega,rfl,h6.quiet u611,hD6,hU6,hs6,hc6,by rw[hls]; exact R6.go u611 nbm fun b _ hh=>hh.elim (fun hh=>hh.elim) id,v6.trans u611 fun _ _ h=>h⟩
  have hm:m<ls.length:=by omega
  have hm':(m:Int)<(ls.length:Int):=by omega
  have hy:=List.getElem?_eq_getElem hm;have ry:=hrl _ (List.getElem_mem hm);generalize ls[m]=y at hy ry;obtain⟨b,o',ea,ec,rfl,q0,s0⟩:=(hrec.go u11 (F':=NoB) fun b _ h=>h.elim False.elim fun h=>h.elim).at_ hy;obtain⟨b2,o2,ea2,ec2,rfl,q1,s1⟩:=(hrm.go u611 (F':=NoB) fun b _ h=>h.elim False.elim fun h=>h.elim).at_ hy;have hs:=gC ry ry;rw[decide_eq_true rfl] at hs;have t0:=s0.upd (Upd.drew (F:=fun _=>False)) (fun _ h=>h.elim);have t1':=s1.upd (Upd.drew (F:=fun _=>False)) (fun _ h=>h.elim);have d11:Upd NoB w11 w11.drew:=Upd.drew;simp(maxSteps:=3000000)(disch:=omega)only[push_cast,seval,e5,e6,e1,e7,e9,e10,hm',q0,q1,aR s0,aR s1,aR t0,aR t1',hs,hm4 u611,hm4 (u611.drew')];exact⟨k2-1,by omega,m+1,by omega,rfl,u11.drew'⟩
 clear hK25;by_cases kd:0≤o.kind∧o.kind≤3;rotate_left
 ·by_cases kd1:0≤o.kind
  ·have kd2 : ¬o.kind≤3:=fun h=>kd ⟨kd1,h⟩;simp(maxSteps:=3000000)(disch:=omega)only[push_cast,seval,hc0 (Upd.refl (F:=NoB)) nbo,hi',kd1,kd2];exact h25 _ w8 D s8 rs n0 rfl rfl rfl rfl rfl rfl hL hD hU' hsm' hcn hR v8
  ·simp(maxSteps:=3000000)(disch:=omega)only[push_cast,seval,hc0 (Upd.refl (F:=NoB)) nbo,hi',kd1];exact h25 _ w8 D s8 rs n0 rfl rfl rfl rfl rfl rfl hL hD hU' hsm' hcn hR v8
 obtain⟨kd1,kd2⟩:=kd;have hcalm:=fG g hU (by omega) hsm ht28 (wL hoB) hcn rfl;have hgen:=aCZ g hU (by omega) hsm ht28 (wL hoB) hcn;rw[←hAR,←hRO] at hcalm hgen;generalize hm:rop AR RO (s8.n,rs.map encRc) (opK o)=m at hcalm hgen;obtain⟨e1,en1,⟨rs1,k1,hU1,er1⟩,cn1,sm1⟩:=hcalm;obtain⟨csm,rvm,hbm,hnm,hrm⟩:=id hR;have kcm:=aH.len hnm;have ens:eN.s=4:=rfl;rw[ens] at kcm;obtain⟨ma,mc,rfl,_⟩:=id hrm;have hm4:w8.cell? ⟨mb,4,none⟩=some (.slice ma (rs.map encRc).length mc):=by
  rw[hbm.cell,List.getElem?_append_right (by omega),kcm];rfl
 have d8:Upd NoB w8 w8.drew:=Upd.drew;have hmlt:=hL.mlt (b:=mb) rfl;have noF : ¬FF D J og:=fun h=>hoF (h.elim .inl fun h=>.inr (.inl h));generalize hc16:Code.seq (Code.seq (Code.region 16 _ _) _) _=c16;simp(maxSteps:=3000000)(disch:=omega)only[push_cast,seval,hc0 (Upd.refl (F:=NoB)) nbo,hi',kd1,kd2,hm4,↓aE,↓aF,lO d8 nbo];refine Ok.use (aCW (hL.quiet d8) hlb (by decide) hsm ht28 (dQ.go hx1 d8 fun b _ hh=>hh.elim (fun hh=>hh.elim) id) hoB) ?_;rintro v w11 ⟨rfl,D11,h11,l11⟩;have R8d:=hR.go (F':=FF D J) d8 nbm fun b _ hh=>hh.elim (fun hh=>hh.elim) id;have R11:RW w11 (FF D11 J) mb AR RO (s8.n,rs.map encRc):=R8d.go l11.upd hmlt.1 fun b hb hh=>l11.back hb hh;have v8d:=v8.trans d8 fun _ _ h=>h;have v11:=l11.new_ hD hJ' v8d;have u11:Upd (FF D J) w8 w11:=(d8.mono (G:=FF D J) fun _ _ h=>h.elim).trans l11.upd fun _ _ h=>h;have hc11:eO.C w11 (fun b=>FF D11 J b∨b=mb) o _:=dQ.go hx1 u11 fun b hb hh=>by
  have up:FF D J b→FF D (JM J fun b=>b=mb) b:=fun h=>h.elim .inl fun h=>.inr (.inl h);rcases hh with hh | hh | hh
  ·exact up hh
  ·exact up (l11.back (Nat.lt_of_lt_of_le hb d8.size) (.inr hh))
  ·exact .inr (.inr hh)
 simp(maxSteps:=3000000)(disch:=omega)only[push_cast,seval,hi',↓aE,↓aF,lO d8 nbo,lO u11 noF];refine Ok.use (aCU R11 (fun b hb=>h11.lw.bd hb) (by omega) (by omega) hsm ht28 hst hc11 hoB) ?_;rintro v w12 ⟨rfl,R12,u12⟩;rw[hm] at R12 ⊢;have hogm : ¬og=mb:=fun e=>hoF (.inr (.inr e));have u812:Upd (fun b=>FF D J b∨b=mb) w8 w12:=(u11.mono (G:=fun b=>FF D J b∨b=mb) fun _ _ h=>.inl h).trans u12 fun _ _ h=>.inr h;have noF2 : ¬(FF D J og∨og=mb):=fun h=>h.elim noF hogm;have h12:=h11.side u12 fun _ h=>h;rw[e1];obtain⟨code,hcode⟩ : ∃c,c=m.2:=⟨_,rfl⟩;rw[←hcode];simp(maxSteps:=3000000)(disch:=omega)only[push_cast,seval,hi',↓aE,↓aF,lO d8 nbo,lO u11 noF,lO u812 noF2];subst hc16;generalize hc21:Code.seq (Code.region 21 _ _) _=c21;simp(maxSteps:=3000000)(disch:=omega)only[push_cast,seval];have v12:=v11.1.trans u12 fun b hb e=>by omega
 simp(maxSteps:=3000000)(disch:=omega)only[push_cast,seval,t1,t2];have hw1:=hU1.wf;have hz1:=g.z1;have hn1:=g.n1;have hfc:=g.fc;refine Ok.use (uV h12.l.cw.kt h12.l.jw.disk h12.l.cw.k0.1 hw1.sz (by decide) (by omega) (by omega) hz2 (first:=1) (count:=h) (by omega) (by omega) (by omega) (by omega) (fun y hy=>hw1.content hy)) ?_
 rintro v w13 ⟨hcp,u13⟩;rw[show((lop s8 (opK o)).1.d,(lop s8 (opK o)).1.j).1=(lop s8 (opK o)).1.d from rfl,hU1.off] at hcp;rw[if_neg (by decide)] at hcp;obtain⟨cb2,hcb2,rfl,hCW⟩:=hcp;have hoc:openC (lop s8 (opK o)).1.d 1 (h/2)=(lop s8 (opK o)).1.c:=by rw[hh]; exact hU1.openC
 rw[hoc] at hCW;have h13:=h12.quiet u13;have v13:=v12.trans u13 fun _ _ h=>h;have R13:=R12.go (F':=FF D11 J) u13 nbm fun b _ hh=>hh.elim (fun hh=>hh.elim) id;obtain⟨csn,rvn,hbn,hnn,hrn⟩:=id R13;have kcn:=aH.len hnn;rw[ens] at kcn;obtain⟨na,nc,rfl,_⟩:=id hrn;have hn4 : ∀{w':World},Upd NoB w13 w'→w'.cell? ⟨mb,4,none⟩=some (.slice na m.1.2.length nc):=fun u=>by
  rw[(hbn.upd u nbm).cell,List.getElem?_append_right (by omega),kcn];rfl
 have lcn : ∀{w':World},Upd NoB w13 w'→ldS Tryz.prog 37 (.pointer (some ⟨mb,0,none⟩)) w'=some (.agg csn.toArray,w'):=fun u=>iC (hbn.upd u nbm) kcn;simp(maxSteps:=3000000)(disch:=omega)only[push_cast,seval];subst hc21;have hc0':w13.cell? ⟨og,oo+i*6,none⟩=some (.int .i64 o.kind):=hc0 (u812.trans u13 fun _ _ h=>h.elim) noF2;have hrs1:rs1.map encRc=m.1.2:=er1;have fin : ∀{w':World},Upd NoB w13 w'→RW w' (FF D11 J) mb AR RO ((lop s8 (opK o)).1.n,rs1.map encRc)∧LX w' D11 J (fun b=>b=mb) p lb jb cb (lop s8 (opK o)).1∧Upd NoB w w':=fun u=>⟨by rw[en1,er1]; exact R13.go u nbm fun b _ hh=>hh.elim (fun hh=>hh.elim) id,h13.quiet u,v13.trans u fun _ _ h=>h⟩;have f13:=fin (Upd.refl (F:=NoB));by_cases hA:m.1.2 = [];rotate_left
 ·have hA' : ¬(m.1.2.length:Int)=0:=fun e=>hA (List.eq_nil_of_length_eq_zero (by omega));simp(maxSteps:=3000000)(disch:=omega)only[push_cast,seval,hi',hn4 (Upd.refl (F:=NoB)),hA',hc0'];exact h25 _ w13 D11 _ rs1 k1 rfl rfl rfl rfl rfl rfl f13.2.1 v11.2 hU1 sm1 cn1 f13.1 f13.2.2
 have hA':(m.1.2.length:Int)=0:=by rw[hA]; rfl
 have hgl:=hU1.lb g;have hl1:=sm1.len (by omega);have hbytes:Rng (encCn (lop s8 (opK o)).1.n):=gM hU1.cons.w;have hskip : ∀{ρ:Env},ρ 5 = .pointer (some ⟨p,0,none⟩)→ρ 6 = .int .i64 (C:Int)→ρ 1 = .slice (some ⟨og,oo,none⟩) l.length vc→ρ 7 = .pointer (some ⟨lb,0,none⟩)→ρ 9 = .pointer (some ⟨mb,0,none⟩)→ρ 10 = .int .i64 (i:Int)→∀{w':World},Upd NoB w13 w'→K25 (.normal,ρ,w'):=fun e5 e6 e1 e7 e9 e10 _ u=>h25 _ _ D11 _ rs1 k1 e5 e6 e1 e7 e9 e10 (fin u).2.1 v11.2 hU1 sm1 cn1 (fin u).1 (fin u).2.2;have hgen':rs≠[]∨(o.kind=3∧code=0)→0<(lop s8 (opK o)).1.c.gen:=fun hh=>hgen hA (hh.imp id fun hh=>⟨by unfold opK; rw[if_neg (by omega),if_neg (by omega),if_neg (by omega)],by rw[←hcode]; exact hh.2⟩);generalize hc22:Code.seq (Code.region 22 _ _) _=c22;by_cases hw:rs≠[]∨(o.kind=3∧code=0);rotate_left
 ·have hn0:rs = []:=Classical.byContradiction fun h=>hw (.inl h);subst hn0;by_cases k3:o.kind=3
  ·have kz : ¬code=0:=fun h=>hw (.inr ⟨k3,h⟩);simp(maxSteps:=3000000)(disch:=omega)only[push_cast,seval,hi',hn4 (Upd.refl (F:=NoB)),hA',hc0',k3,kz];exact hskip rfl rfl rfl rfl rfl rfl Upd.refl
  ·simp(maxSteps:=3000000)(disch:=omega)only[push_cast,seval,hi',hn4 (Upd.refl (F:=NoB)),hA',hc0',k3];exact hskip rfl rfl rfl rfl rfl rfl Upd.refl
 have hgp:=hgen' hw;have hnw:=hU1.newest (by rw[hrs1,hA]) hgp;have hl:(rs.map encRc).length=rs.length:=List.length_map ..;by_cases hn0:rs = [];obtain⟨k3,kz⟩:=hw.elim (fun h=>absurd hn0 h) id;subst hn0;simp(maxSteps:=3000000)(disch:=omega)only[push_cast,seval,hi',hn4 (Upd.refl (F:=NoB)),hA',hc0',k3,kz];rotate_left
 have hn1':(0:Int)<((rs.map encRc).length:Int):=by have:=List.length_pos_iff.2 hn0; omega
 simp(maxSteps:=3000000)(disch:=omega)only[push_cast,seval,hi',hn4 (Upd.refl (F:=NoB)),hA',hc0',hn1'];rotate_left
 all_goals
  subst hc22
  simp(maxSteps:=3000000)(disch:=omega)only[push_cast,seval]
  refine Ok.use (uT hCW (by show(lop s8 (opK o)).1.c.newest.length≤_; rw[hnw]; omega) hgl.cg) ?_
  rintro v w14 ⟨u,rfl,hfr⟩
  unfold cload at hfr
  dsimp only at hfr
  rw[if_neg (by omega),hnw] at hfr
  have u14:Upd NoB w13 w14:=hfr.upd
  obtain⟨ua,uc,rfl,_⟩:=hfr.own.form
  have b14:SlB w14 NoB (.slice ua (encCn (lop s8 (opK o)).1.n).length uc) (encCn (lop s8 (opK o)).1.n):=hfr.slb fun _ h=>h.elim
  have d14:Upd NoB w14 w14.drew:=Upd.drew
  have b14d:=b14.upd d14 fun _ h=>h.elim
  have u14d:=u14.drew'
  simp(maxSteps:=3000000)(disch:=omega)only[push_cast,seval,aR b14d,aR b14,lcn u14d]
  have hnn':eN.C w14.drew NoB (lop s8 (opK o)).1.n csn:=by rw[en1]; exact aH.q hnn u14d
  refine Ok.use (mU hnn' (by omega)) ?_
  rintro v w15 ⟨q15,f15,u15⟩
  obtain⟨ea,ec,rfl,_⟩:=q15.form
  have b15:=q15.slb (F:=NoB) fun _ _ h=>h
  have b14e:=b14d.upd u15 fun _ h=>h.elim
  have hs2:=gC hbytes hbytes
  rw[decide_eq_true rfl] at hs2
  have u1315:Upd NoB w13 w15:=u14d.trans u15 fun _ _ h=>h
  simp(maxSteps:=3000000)(disch:=omega)only[push_cast,seval,aR b14d,aR b14,aR b14e,aR b15,lcn u14d,lcn u1315,hs2]
  exact hskip rfl rfl rfl rfl rfl rfl u1315
theorem statelogRecords_law {w:World}(hK:KT w)(shape:Int)(w1:(Lit.int .u8 shape).wf=true){v:Value}(hv : ∃l,SlD eO w (OLD w) v l) :
 Ok (den Tryz.prog 4 #[.int .u8 shape,v] w) fun v w'=>v = .bool true∧Upd (fun _=>False) w w':=by
 obtain⟨s,rfl,hs⟩:=aCL w1;obtain⟨l,hv⟩:=hv;exact aC0 hK hs hv
end Go.Proofs.YtpgigkceoolgeaaGreatDoor.Fd
