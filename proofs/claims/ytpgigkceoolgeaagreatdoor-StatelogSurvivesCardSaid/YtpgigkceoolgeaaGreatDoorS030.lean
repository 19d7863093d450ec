import Derived.Test.YtpgigkceoolgeaaGreatDoorS029
set_option linter.all false
namespace Go.Proofs.YtpgigkceoolgeaaGreatDoor.Fd
open Go
set_option maxRecDepth 100000
structure LS where
 d:DS
 j:JS
 c:CS
 n:Con
 dn:Bool
structure LW (w : World) (D J : Nat → Prop) (p lb jb cb : Nat) (s : LS) : Prop where
 jw:JW w D J p jb (s.d,s.j)
 cw:CW w D J p cb (s.d,s.c)
 box : ∃cs,Blk w lb (.pointer (some ⟨jb,0,none⟩) :: .pointer (some ⟨cb,0,none⟩) :: (cs ++ [.bool s.dn])) 92∧eN.C w (FF D J) s.n cs
 ll:J lb
 ne:jb≠cb∧lb≠jb∧lb≠cb
structure LT (w w' : World) (D D' J : Nat → Prop) : Prop where
 new : ∀b,D' b→gr D w w' b
 old : ∀b,D b→D' b
 upd:Upd (FF D J) w w'
theorem LT.quiet {w w':World}{D J:Nat→Prop}(hu:Upd NoB w w'):LT w w' D D J:=⟨fun _ h=>.inl h,fun _ h=>h,hu.mono fun _ _ h=>h.elim⟩
theorem LT.refl {w:World}{D J:Nat→Prop}:LT w w D D J:=.quiet Upd.refl
theorem JT.lt {w w':World}{D D' J:Nat→Prop}{jb:Nat}(h:JT w w' D D' jb)(hj:J jb):LT w w' D D' J:=⟨h.new,h.old,h.upd.mono fun b _ h=>h.elim .inl fun e=>.inr (by rw [e]; exact hj)⟩
theorem LT.trans {w w' w'':World}{D D' D'' J:Nat→Prop}(h1:LT w w' D D' J)(h2:LT w' w'' D' D'' J):LT w w'' D D'' J:=by
 have s1:=h1.upd.size;have s2:=h2.upd.size;refine⟨fun b hb=>?_,fun b hb=>h2.old b (h1.old b hb),h1.upd.trans h2.upd fun b hb h=>?_⟩
 ·rcases h2.new b hb with h | h
  ·rcases h1.new b h with h | h
   ·exact .inl h
   ·exact .inr ⟨h.1,by omega⟩
  ·exact .inr ⟨by omega,h.2⟩
 ·rcases h with h | h
  ·rcases h1.new b h with h | h
   ·exact .inl h
   ·omega
  ·exact .inr h
theorem LT.back {w w':World}{D D' J:Nat→Prop}(h:LT w w' D D' J){b:Nat}(hb:b<w.heap.size)(hh:FF D J b∨FF D' J b):FF D J b:=by
 rcases hh with hh | hh | hh
 ·exact hh
 ·rcases h.new b hh with h | h
  ·exact .inl h
  ·omega
 ·exact .inr hh
theorem LT.eN {w w':World}{D D' J:Nat→Prop}(h:LT w w' D D' J){n:Con}{cs:List Value}(hn:eN.C w (FF D J) n cs):eN.C w' (FF D' J) n cs:=aH.go hn h.upd fun _ hb hh=>h.back hb hh
theorem LT.eB {w w':World}{D D' J:Nat→Prop}(h:LT w w' D D' J){n:Bas}{cs:List Value}(hn:eB.C w (FF D J) n cs):eB.C w' (FF D' J) n cs:=aK.go hn h.upd fun _ hb hh=>h.back hb hh
theorem LT.slD {w w':World}{D D' J:Nat→Prop}(h:LT w w' D D' J){v:Value}{l:List Cmd}(hn:SlD eC w (FF D J) v l):SlD eC w' (FF D' J) v l:=hn.go aA h.upd fun _ hb hh=>h.back hb hh
theorem LW.quiet {w w':World}{D J:Nat→Prop}{p lb jb cb:Nat}{s:LS}(h:LW w D J p lb jb cb s)(hu:Upd NoB w w'):LW w' D J p lb jb cb s:=by
 obtain⟨cs,h1,h2⟩:=h.box;exact⟨h.jw.quiet hu,h.cw.quiet hu,⟨cs,h1.upd hu fun h=>h,aH.go h2 hu fun _ _ h=>h.elim (fun h=>h.elim) id⟩,h.ll,h.ne⟩
theorem LW.jour {w w':World}{D D' J:Nat→Prop}{p lb jb cb:Nat}{s:LS}(h:LW w D J p lb jb cb s){d':DS}{j':JS}(hj:JW w' D' J p jb (d',j'))(ht:JT w w' D D' jb):LW w' D' J p lb jb cb {s with d:=d',j:=j'}:=by
 obtain⟨cs,h1,h2⟩:=h.box;obtain⟨nv,c1,c2,c3⟩:=h.cw.obj;have hk:=h.cw.k0;have hnb : ∀b,b<w.heap.size→¬D b→¬D' b:=fun b hb hd h'=>(ht.new b h').elim hd fun h=>by omega
 exact⟨hj,⟨hj.disk,⟨nv,c1.upd ht.upd fun hh=>hh.elim (h.jw.sep cb h.cw.jj).1 fun e=>h.ne.1 e.symm,ht.slc h.jw.jj c2,c3⟩,h.cw.jj,hj.sep,h.cw.kt.upd ht.upd fun hh=>hh.elim hk.1 fun e=>hk.2 (by rw[e]; exact h.jw.jj),hnb 1 h.cw.kt.1 hk.1,hk.2⟩,
  ⟨cs,h1.upd ht.upd fun hh=>hh.elim (h.jw.sep lb h.ll).1 h.ne.2.1,(ht.lt h.jw.jj).eN h2⟩,h.ll,h.ne⟩
theorem LW.ckpt {w w':World}{D D' J:Nat→Prop}{p lb jb cb:Nat}{s:LS}(h:LW w D J p lb jb cb s){d':DS}{c':CS}(hj:CW w' D' J p cb (d',c'))(ht:JT w w' D D' cb):LW w' D' J p lb jb cb {s with d:=d',c:=c'}:=by
 obtain⟨cs,h1,h2⟩:=h.box;exact⟨⟨hj.disk,ht.other h.cw.jj h.jw.obj h.ne.1 (h.jw.sep jb h.jw.jj).1,h.jw.jj,hj.sep⟩,hj,⟨cs,h1.upd ht.upd fun hh=>hh.elim (h.jw.sep lb h.ll).1 h.ne.2.2,(ht.lt h.cw.jj).eN h2⟩,h.ll,h.ne⟩
theorem LW.lt {w:World}{D J:Nat→Prop}{p lb jb cb:Nat}{s:LS}(h:LW w D J p lb jb cb s):lb<w.heap.size:=(h.jw.sep lb h.ll).2
theorem LW.own {w w':World}{D J:Nat→Prop}{p lb jb cb:Nat}{s:LS}(h:LW w D J p lb jb cb s)(hu:Upd (fun b=>b=lb) w w'){n:Con}{dn:Bool}{cs:List Value}(hb:Blk w' lb (.pointer (some ⟨jb,0,none⟩) :: .pointer (some ⟨cb,0,none⟩) :: (cs ++ [.bool dn])) 92)(hn:eN.C w' (FF D J) n cs) :
 LW w' D J p lb jb cb {s with n:=n,dn:=dn}:=by
 obtain⟨sv,j1,j2,j3⟩:=h.jw.obj;obtain⟨nv,c1,c2,c3⟩:=h.cw.obj;have hl:=(h.jw.sep lb h.ll).1;have hsep : ∀b,J b→¬D b∧b<w'.heap.size:=fun b hb=>⟨(h.jw.sep b hb).1,Nat.lt_of_lt_of_le (h.jw.sep b hb).2 hu.size⟩;have hd:IsDisk w' D p s.d:=h.jw.disk.upd hu fun b hb e=>hl (by rw[←e]; exact hb);exact⟨⟨hd,⟨sv,j1.upd hu fun e=>h.ne.2.1 e.symm,j2.upd hu fun b e=>.inr (by rw[e]; exact h.ll),j3⟩,h.jw.jj,hsep⟩,
  ⟨hd,⟨nv,c1.upd hu fun e=>h.ne.2.2 e.symm,c2.upd hu fun b e=>.inr (by rw[e]; exact h.ll),c3⟩,h.cw.jj,hsep,h.cw.kt.upd hu fun e=>h.cw.k0.2 (by rw[e]; exact h.ll),h.cw.k0⟩,⟨cs,hb,hn⟩,h.ll,h.ne⟩
theorem LT.own {w w':World}{D J:Nat→Prop}{lb:Nat}(hl:J lb)(hu:Upd (fun b=>b=lb) w w'):LT w w' D D J:=⟨fun _ h=>.inl h,fun _ h=>h,hu.mono fun b _ e=>.inr (by rw [e]; exact hl)⟩
def lfail (s:LS)(e:Int):LS:={s with dn:=s.dn || decide (e≠0)}
theorem nU {w:World}{D J:Nat→Prop}{p lb jb cb:Nat}{s:LS}(h:LW w D J p lb jb cb s){e:Int} :
 Ok (den Tryz.prog 113 #[.pointer (some ⟨lb,0,none⟩),.int .i64 e] w) fun u w'=>u = .int .i64 e∧LW w' D J p lb jb cb (lfail s e)∧LT w w' D D J:=by
 obtain⟨cs,hb,hn⟩:=h.box;obtain⟨xa,xc,sa,sc,ta,tc,rfl,k1,k2,k3⟩:=aO hn;simp only[List.cons_append,List.nil_append] at hb;refine aB (args:=[.pointer (some ⟨lb,0,none⟩),.int .i64 e]) rs113 Tryz.func113 rfl mixed (by kernel_rfl) RR rfl ?_;by_cases he:e=0
 ·subst he;simp(maxSteps:=3000000)(disch:=omega)only[push_cast,seval];exact⟨by rw[show lfail s 0=s by unfold lfail; simp]; exact h,LT.refl⟩
 ·have hu:Upd (fun b=>b=lb) w (w.setCell ⟨lb,6,none⟩ (.bool true)):=Upd.set (F:=fun b=>b=lb) rfl;have hs:lfail s e = {s with n:=s.n,dn:=true}:=by unfold lfail; simp[he]
  rw[hs];simp(maxSteps:=3000000)(disch:=omega)only[push_cast,seval,he,hb.free,hb.cell];exact⟨h.own hu (cs:=[.slice xa s.n.st.length xc,.slice sa s.n.bas.steps.length sc,.slice ta s.n.bas.taken.length tc,.int .i64 s.n.life]) (hb.set 6 (.bool true)) (aH.go hn hu fun b _ h'=>h'.elim (fun e=>.inr (by rw[e]; exact h.ll)) id),LT.own h.ll hu⟩
open Go
set_option maxRecDepth 100000
def lsave (s:LS)(n:Con):LS×Int:=
 if (s.c.n-1)*s.d.size<(encCn n).length then (s,7) else
 let r:=csave (s.d,s.c) (encCn n)
 let s1:LS:={s with d:=r.1.1,c:=r.1.2}
 if r.2=0 then
  let q:=jreset (s1.d,s1.j)
  (lfail {s1 with d:=q.1.1,j:=q.1.2} q.2,q.2)
 else if r.2=6 then (s1,7) else (lfail s1 r.2,r.2)
structure LB (N sz i : Nat) (s : LS) : Prop where
 wf:WfD N sz i s.d
 z1:64≤sz
 z2:sz≤4096
 cf:s.c.first≤60000
 c1:1≤s.c.n
 cn:s.c.n≤60000
 cg:s.c.gen≤4611686018427387904
 jf:s.j.first≤100000
 ja:s.j.area≤250000
 js:s.j.stream.length≤s.j.area
theorem aB3 {s:DS×CS}{b:List Int}:(csave s b).2=8∨(csave s b).2=6∨(csave s b).2=0:=by
 unfold csave;split
 ·exact .inl rfl
 ·split
  ·exact .inr (.inl rfl)
  ·split
   ·exact .inr (.inr rfl)
   ·exact .inl rfl
set_option maxHeartbeats 4000000 in
theorem vV {w:World}{D J:Nat→Prop}{p lb jb cb:Nat}{s:LS}(h:LW w D J p lb jb cb s){N sz i:Nat}(hb:LB N sz i s)(hi:i≤300000){n':Con}{cs':List Value}(hc:eN.C w (FF D J) n' cs')(hl:(encCn n').length≤1000000) :
 Ok (den Tryz.prog 74 #[.pointer (some ⟨lb,0,none⟩),.agg cs'.toArray] w) fun u w'=>u = .int .i64 (lsave s n').2∧∃D',LW w' D' J p lb jb cb (lsave s n').1∧LT w w' D D' J:=by
 obtain⟨xa,xc,sa,sc,ta,tc,rfl,k1,k2,k3⟩:=aO hc;have hbd : ∀b,FF D J b→b<w.heap.size:=fun b h'=>h'.elim (fun hd=>by
  obtain⟨_,_,_,_,_,_,hD⟩:=h.jw.disk;exact hD.bd b hd) fun hj=>(h.jw.sep b hj).2
 refine aB (args:=[.pointer (some ⟨lb,0,none⟩),.agg #[.slice xa n'.st.length xc,.slice sa n'.bas.steps.length sc,.slice ta n'.bas.taken.length tc,.int .i64 n'.life]]) rs74 Tryz.func74 rfl mixed (by kernel_rfl) QP rfl ?_;rw[aD];generalize hKs:KS _ _ _ _ _=Ks;simp(disch:=omega)only[push_cast,seval];have u0:Upd NoB w (w.alloc (.cells [.slice xa n'.st.length xc,.slice sa n'.bas.steps.length sc,.slice ta n'.bas.taken.length tc,.int .i64 n'.life].toArray 90 (0,0))):=Upd.alloc;have b0:=Blk.new (w:=w) (cs:=[.slice xa n'.st.length xc,.slice sa n'.bas.steps.length sc,.slice ta n'.bas.taken.length tc,.int .i64 n'.life]) (E:=90);generalize w.alloc (.cells [.slice xa n'.st.length xc,.slice sa n'.bas.steps.length sc,.slice ta n'.bas.taken.length tc,.int .i64 n'.life].toArray 90 (0,0))=w0 at *;have hc0:eN.C w0 (FF D J) n' _:=(LT.quiet (D:=D) (J:=J) u0).eN hc;subst hKs;rw[aC];simp(maxSteps:=3000000)(disch:=omega)only[push_cast,seval,aJ (P:=Tryz.prog) (t:=90) b0 (by kernel_rfl) (by kernel_rfl)];refine Ok.use (sZ hc0 (by omega)) ?_;rintro u w1 ⟨q1,f1,u1⟩;obtain⟨ya,yc,rfl,_⟩:=q1.form;have v1:=u0.trans u1 fun _ _ h=>h;have h1:=h.quiet v1;obtain⟨cs1,hb1,hn1⟩:=h1.box;obtain⟨xa',xc',sa',sc',ta',tc',rfl,_⟩:=aO hn1;simp only[List.cons_append,List.nil_append] at hb1;simp(maxSteps:=3000000)(disch:=omega)only[push_cast,seval,hb1.cell];have hsz:=hb.wf.sz.size;have z1:=hb.z1;have z2:=hb.z2;have hcf:=hb.cf;have hcn:=hb.cn;have hc1:=hb.c1;have hcg:=hb.cg;refine Ok.use (nG h1.cw hb.c1 (by show s.c.n≤100000; omega) (by show s.d.size≤4096; omega)) ?_;rintro u w2 ⟨rfl,u2⟩;have h2:=h1.quiet u2;have v2:=v1.trans u2 fun _ _ h=>h;have hb2:=hb1.upd u2 fun h=>h;have q2:=q1.upd u2 fun _ _ h=>h;obtain⟨m,hm⟩ : ∃m,m=(s.c.n-1)*s.d.size:=⟨_,rfl⟩;have hlt:lsave s n'=if m<(encCn n').length then (s,7) else (let r:=csave (s.d,s.c) (encCn n'); let s1:LS:={s with d:=r.1.1,c:=r.1.2}; if r.2=0 then (let q:=jreset (s1.d,s1.j); (lfail {s1 with d:=q.1.1,j:=q.1.2} q.2,q.2)) else if r.2=6 then (s1,7) else (lfail s1 r.2,r.2)):=by rw[hm]; rfl
 rw[←hm];rw[hlt];by_cases hg:m<(encCn n').length
 ·have hg':(m:Int)<((encCn n').length:Int):=by omega
  rw[if_pos hg];simp(maxSteps:=3000000)(disch:=omega)only[push_cast,seval,hg'];exact⟨D,h2,LT.quiet v2⟩
 have hg' : ¬(m:Int)<((encCn n').length:Int):=by omega
 rw[if_neg hg];clear hlt;simp(maxSteps:=3000000)(disch:=omega)only[push_cast,seval,hg',hb2.cell];refine Ok.use (aAt h2.cw hb.wf.sz (by omega) (by omega) hb.z2 hb.cf hb.cn hb.c1 hb.cg (q2.slc fun g hg h'=>by have:=f1 g hg; have:=hbd g h'; have:=u0.size; omega) (jE k3)) ?_;rintro u w3 ⟨rfl,D3,h3',t3⟩;have h3:=h2.ckpt h3' t3;have l3:=(LT.quiet (D:=D) (J:=J) v2).trans (t3.lt h.cw.jj);have hwf:=vM (c:=s.c) hb.wf (jE k3) (k:=70000) fun at_ g=>by
  rw[vN (by omega),hsz];have:=j8 (sz:=sz) (len:=(encCn n').length) (m:=s.c.n-1) (by omega) (by rw[←hsz,←hm]; omega);omega
 obtain⟨r,hr⟩ : ∃r,r=csave (s.d,s.c) (encCn n'):=⟨_,rfl⟩;have herr:=aB3 (s:=(s.d,s.c)) (b:=encCn n');rw[←hr] at h3 h3' hwf herr ⊢;obtain⟨cs3,hb3,hn3⟩:=h3.box;obtain⟨xa3,xc3,sa3,sc3,ta3,tc3,rfl,_⟩:=aO hn3;simp only[List.cons_append,List.nil_append] at hb3;obtain⟨r1,r2⟩:=r;dsimp only at h3 h3' hwf herr hb3 hn3 ⊢;rcases herr with rfl | rfl | rfl
 ·simp(maxSteps:=3000000)(disch:=omega)only[push_cast,seval,errV];refine Ok.use (nU h3) ?_;rintro u w4 ⟨rfl,h4,l4⟩;simp(maxSteps:=3000000)(disch:=omega)only[push_cast,seval];exact⟨D3,h4,l3.trans l4⟩
 ·simp(maxSteps:=3000000)(disch:=omega)only[push_cast,seval,errV];exact⟨D3,h3,l3⟩
 ·simp(maxSteps:=3000000)(disch:=omega)only[push_cast,seval,errV,hb3.cell];refine Ok.use (VV h3.jw hwf.sz (by omega) (by omega) hb.z2 hb.jf) ?_;rintro u w4 ⟨rfl,D4,h4',t4⟩;have h4:=h3.jour h4' t4;have l4:=l3.trans (t4.lt h.jw.jj);simp(maxSteps:=3000000)(disch:=omega)only[push_cast,seval];refine Ok.use (nU h4) ?_;rintro u w5 ⟨rfl,h5,l5⟩;simp(maxSteps:=3000000)(disch:=omega)only[push_cast,seval];exact⟨D4,h5,l4.trans l5⟩
open Go
set_option maxRecDepth 100000
theorem nV {w w1 w2:World}{S:Nat→Prop}{p:Nat}{l1 l2:List Int}(h1:WrI w1 (gr S w w1) p l1)(u1:Upd S w w1)(h2:WrI w2 (gr (gr S w w1) w1 w2) p l2)(u2:Upd (gr S w w1) w1 w2):WrI w2 (gr S w w2) p l2∧Upd S w w2:=by
 have e:gr (gr S w w1) w1 w2=gr S w w2:=by
  funext b;have s1:=u1.size;have s2:=u2.size;apply propext;unfold gr;constructor
  ·rintro((h | h) | h)
   ·exact .inl h
   ·exact .inr ⟨h.1,by omega⟩
   ·exact .inr ⟨by omega,h.2⟩
  ·rintro(h | h)
   ·exact .inl (.inl h)
   ·by_cases hb:b<w1.heap.size
    ·exact .inl (.inr ⟨h.1,hb⟩)
    ·exact .inr ⟨by omega,h.2⟩
 exact⟨by rw[←e]; exact h2,u1.trans u2 fun b hb h=>h.elim id fun h=>by omega⟩
theorem aB4 {w:World}{S:Nat→Prop}{p k:Nat}(h:WrI w S p []){a:Option Addr}{c:Nat}{l:List Cmd}(hb:Blk w k [.slice a l.length c] 32)(hk : ¬S k)(hs:SlD eC w S (.slice a l.length c) l)(hl:(encL l).length≤1000000) :
 Ok (den Tryz.prog 68 #[.pointer (some ⟨p,0,none⟩),.pointer (some ⟨k,0,none⟩)] w) fun u w'=>WrI w' (gr S w w') p (encRc (.ext l))∧Upd S w w':=by
 have hS:=h.bd;refine aB (args:=[.pointer (some ⟨p,0,none⟩),.pointer (some ⟨k,0,none⟩)]) rs68 Tryz.func68 rfl mixed (by kernel_rfl) QJ rfl ?_;simp(maxSteps:=3000000)(disch:=omega)only[push_cast,seval];refine Ok.use (bM h (n:=1) (by decide) (by simp)) ?_;rintro u w1 ⟨h1,u1⟩;have hb1:=hb.upd u1 hk;simp(maxSteps:=3000000)(disch:=omega)only[push_cast,seval,hb1.cell];refine Ok.use (lY h1 (hs.go aA u1 a7) (by rw[List.nil_append]; have:=aL (n:=1) (by decide); omega)) ?_;rintro u w2 ⟨h2,u2⟩;simp(maxSteps:=3000000)(disch:=omega)only[push_cast,seval];exact nV h1 u1 h2 u2
theorem aB5 {w:World}{S:Nat→Prop}{p k:Nat}(h:WrI w S p []){b:Bas}{cs:List Value}(hb:Blk w k cs 35)(hk : ¬S k)(hs:eB.C w S b cs)(hl:(encBs b).length≤1000000) :
 Ok (den Tryz.prog 72 #[.pointer (some ⟨p,0,none⟩),.pointer (some ⟨k,0,none⟩)] w) fun u w'=>WrI w' (gr S w w') p (encRc (.reb b))∧Upd S w w':=by
 have hS:=h.bd;obtain⟨pa,pc,qa,qc,rfl,_⟩:=a8 hs;refine aB (args:=[.pointer (some ⟨p,0,none⟩),.pointer (some ⟨k,0,none⟩)]) rs72 Tryz.func72 rfl mixed (by kernel_rfl) QN rfl ?_;simp(maxSteps:=3000000)(disch:=omega)only[push_cast,seval];refine Ok.use (bM h (n:=2) (by decide) (by simp)) ?_;rintro u w1 ⟨h1,u1⟩;have hb1:=hb.upd u1 hk;simp(maxSteps:=3000000)(disch:=omega)only[push_cast,seval,hb1.cell];refine Ok.use (sX h1 (aK.go hs u1 a7) (by rw[List.nil_append]; have:=aL (n:=2) (by decide); omega)) ?_;rintro u w2 ⟨h2,u2⟩;simp(maxSteps:=3000000)(disch:=omega)only[push_cast,seval];exact nV h1 u1 h2 u2
theorem aB6 {w:World}{S:Nat→Prop}{p k:Nat}(h:WrI w S p []){n:Nat}{x y z:Value}(hb:Blk w k [x,y,z,.int .i64 (n:Int)] 90)(hk : ¬S k)(hl:n≤4611686018427387904) :
 Ok (den Tryz.prog 64 #[.pointer (some ⟨p,0,none⟩),.pointer (some ⟨k,0,none⟩)] w) fun u w'=>WrI w' (gr S w w') p (encRc (.liv n))∧Upd S w w':=by
 have hS:=h.bd;refine aB (args:=[.pointer (some ⟨p,0,none⟩),.pointer (some ⟨k,0,none⟩)]) rs64 Tryz.func64 rfl mixed (by kernel_rfl) QF rfl ?_;simp(maxSteps:=3000000)(disch:=omega)only[push_cast,seval];refine Ok.use (bM h (n:=3) (by decide) (by simp)) ?_;rintro u w1 ⟨h1,u1⟩;have hb1:=hb.upd u1 hk;have e:IntKind.u64.wrap (n:Int)=(n:Int):=by rw[IntKind.wrap_u64]; omega
 simp(maxSteps:=3000000)(disch:=omega)only[push_cast,seval,hb1.cell,e];refine Ok.use (bM h1 (n:=n) (by omega) (by rw[List.nil_append]; have:=aL (n:=3) (by decide); omega)) ?_;rintro u w2 ⟨h2,u2⟩;simp(maxSteps:=3000000)(disch:=omega)only[push_cast,seval];exact nV h1 u1 h2 u2
theorem aB7 {w:World}{lb:Nat}{a b dn:Value}{cs cs':List Value}(h:Blk w lb (a :: b :: (cs ++ [dn])) 92)(h1:cs.length=4)(h2:cs'.length=4)(h3 : ∀u∈cs',u.oneCell'=true) :
 stS Tryz.prog 90 (.pointer (some ⟨lb,2,none⟩)) (.agg cs'.toArray) w=some (undef,w.setRow lb (a :: b :: (cs' ++ [dn])).toArray):=by
 refine fX (by simp only[Value.cells,List.size_toArray]; rw[h2]; kernel_rfl) ?_;have:=jF (l:=cs') (o:=2) h (by simp; omega) h3;rw[show(a :: b :: (cs ++ [dn])).take 2 = [a,b] from rfl,show(a :: b :: (cs ++ [dn])).drop (2+cs'.length) = [dn] by rw[h2]; show(cs ++ [dn]).drop 4 = [dn]; rw[←h1,List.drop_left]] at this;simpa[Value.cells] using this
theorem LW.store {w:World}{D J:Nat→Prop}{p lb jb cb:Nat}{s:LS}(h:LW w D J p lb jb cb s){n:Con}{cs:List Value}(hn:eN.C w (FF D J) n cs) :
 ∃w',stS Tryz.prog 90 (.pointer (some ⟨lb,2,none⟩)) (.agg cs.toArray) w=some (undef,w')∧LW w' D J p lb jb cb {s with n:=n}∧LT w w' D D J∧Upd (fun b=>b=lb) w w':=by
 obtain⟨cs0,hb,hn0⟩:=h.box;have hu:Upd (fun b=>b=lb) w (w.setRow lb (.pointer (some ⟨jb,0,none⟩) :: .pointer (some ⟨cb,0,none⟩) :: (cs ++ [.bool s.dn])).toArray):=Upd.setRow rfl;exact⟨_,aB7 hb (aH.len hn0) (aH.len hn) (aH.one hn),h.own hu (dn:=s.dn) hb.setRow (aH.go hn hu fun b _ h'=>h'.elim (fun e=>.inr (by rw[e]; exact h.ll)) id),LT.own h.ll hu,hu⟩
theorem LW.bd {w:World}{D J:Nat→Prop}{p lb jb cb:Nat}{s:LS}(h:LW w D J p lb jb cb s){b:Nat}(h':FF D J b):b<w.heap.size:=h'.elim (fun hd=>by
 obtain⟨_,_,_,_,_,_,hD⟩:=h.jw.disk;exact hD.bd b hd) fun hj=>(h.jw.sep b hj).2
def lchange (s:LS)(n:Con)(rec:List Int):LS×Int:=
 let r:=jappend (s.d,s.j) [rec]
 let s1:LS:={s with d:=r.1.1,j:=r.1.2}
 let q:=if r.2=7 then lsave s1 n else (lfail s1 r.2,r.2)
 if q.2=0 then ({q.1 with n:=n},0) else q
theorem aB8 {s:DS×JS}{recs:List (List Int)}(h:(jappend s recs).2=7):(jappend s recs).1=jready s:=by
 unfold jappend at h ⊢;split
 ·rename_i hh; rw[if_pos hh] at h
 ·rename_i hh;rw[if_neg hh] at h;split
  ·rename_i h2; rw[if_pos h2] at h
  ·rename_i h2;rw[if_neg h2] at h;split
   ·rfl
   ·rename_i h3;rw[if_neg h3] at h;dsimp only at h ⊢;split at h
    ·cases h
    ·split at h
     ·cases h
     ·split at h <;> cases h
set_option maxHeartbeats 4000000 in
theorem nW {w:World}{D J:Nat→Prop}{p lb jb cb:Nat}{s:LS}(h:LW w D J p lb jb cb s){N sz i:Nat}(hb:LB N sz i s)(hi:i≤300000){n':Con}{cs':List Value}(hc:eN.C w (FF D J) n' cs')(hl:(encCn n').length≤1000000)(hs1:SrtC n'.st)(hs2:SrtC n'.bas.taken){r:Rec}(hr:RecW r)(hrl:(encRc r).length≤900000)
 {f k:Nat} (hbf:hasB Tryz.prog f=true) (hf : ∀(w1:World) (S:Nat→Prop) (pb:Nat),WrI w1 S pb []→(∀b,S b→w.heap.size≤b)→Upd NoB w w1→Ok (den Tryz.prog f #[.pointer (some ⟨pb,0,none⟩),.pointer (some ⟨k,0,none⟩)] w1) fun _ w'=>WrI w' (gr S w1 w') pb (encRc r)∧Upd S w1 w') :
 Ok (den Tryz.prog 63 #[.pointer (some ⟨lb,0,none⟩),.agg cs'.toArray,.func (.func f) #[] #[.pointer (some ⟨k,0,none⟩)]] w) fun u w'=>u = .int .i64 (lchange s n' (encRc r)).2∧∃D',LW w' D' J p lb jb cb (lchange s n' (encRc r)).1∧LT w w' D D' J:=by
 obtain⟨xa,xc,sa,sc,ta,tc,rfl,k1,k2,k3⟩:=aO hc;have hbd : ∀b,FF D J b→b<w.heap.size:=fun b h'=>h.bd h';refine aB (args:=[.pointer (some ⟨lb,0,none⟩),.agg #[.slice xa n'.st.length xc,.slice sa n'.bas.steps.length sc,.slice ta n'.bas.taken.length tc,.int .i64 n'.life],.func (.func f) #[] #[.pointer (some ⟨k,0,none⟩)]]) rs63 Tryz.func63 rfl mixed (by kernel_rfl) QE rfl ?_;rw[aD];generalize hKs:KS _ _ _ _ _=Ks;simp(disch:=omega)only[push_cast,seval];have u0:Upd NoB w (w.alloc (.cells [.slice xa n'.st.length xc,.slice sa n'.bas.steps.length sc,.slice ta n'.bas.taken.length tc,.int .i64 n'.life].toArray 90 (0,0))):=Upd.alloc;have b0:=Blk.new (w:=w) (cs:=[.slice xa n'.st.length xc,.slice sa n'.bas.steps.length sc,.slice ta n'.bas.taken.length tc,.int .i64 n'.life]) (E:=90);generalize w.alloc (.cells [.slice xa n'.st.length xc,.slice sa n'.bas.steps.length sc,.slice ta n'.bas.taken.length tc,.int .i64 n'.life].toArray 90 (0,0))=w0 at *;subst hKs;rw[aC];rw[aD];generalize hKs:KS _ _ _ _ _=Ks;simp(disch:=omega)only[push_cast,seval,sY];have h1:=WrI.new (w:=w0);have u1:Upd NoB w0 (w0.alloc (.cells #[.slice none 0 0] 165 (0,0))):=Upd.alloc;have s0:w.heap.size<w0.heap.size:=b0.lt;have b1:=b0.upd u1 (fun h=>h);have v1:=u0.trans u1 fun _ _ h=>h;generalize w0.alloc (.cells #[.slice none 0 0] 165 (0,0))=w1 at *;subst hKs;rw[aC];simp(maxSteps:=3000000)(disch:=omega)only[push_cast,seval,hbf];refine Ok.use (hf w1 _ _ h1 (fun b e=>by omega) v1) ?_;rintro u w2 ⟨h2,u2⟩;have v2:=v1.trans u2 fun b hb e=>by omega
 have b2:=b1.upd u2 (by omega);have hL2:=h.quiet v2;obtain⟨cs2,hb2,hn2⟩:=hL2.box;obtain⟨xa2,xc2,sa2,sc2,ta2,tc2,rfl,_⟩:=aO hn2;simp only[List.cons_append,List.nil_append] at hb2;have hdr:Upd NoB w2 w2.drew:=Upd.drew;have cc : ∀{w':World},Upd NoB w2 w'→∀j,w'.cell? ⟨lb,j,none⟩ = [Value.pointer (some ⟨jb,0,none⟩),.pointer (some ⟨cb,0,none⟩),.slice xa2 s.n.st.length xc2,.slice sa2 s.n.bas.steps.length sc2,.slice ta2 s.n.bas.taken.length tc2,.int .i64 s.n.life,.bool s.dn][j]? :=fun u j=>(hb2.upd u fun h=>h).cell j;simp(maxSteps:=3000000)(disch:=omega)only[push_cast,seval,↓aE,↓aF,cc hdr];refine Ok.use (eF (h2.upd hdr fun _ _ h=>h) (by omega)) ?_;rintro u w3 ⟨q3,f3,u3'⟩;obtain⟨ya,yc,rfl,_⟩:=q3.form;have u3:Upd NoB w2 w3:=hdr.trans u3' fun _ _ h=>h;simp(maxSteps:=3000000)(disch:=omega)only[push_cast,seval,↓aE,↓aF,cc hdr,cc u3];have b4:=Blk.new (w:=w3) (cs:=[.slice ya (encRc r).length yc]) (E:=55);have u4:Upd NoB w3 (w3.alloc (.cells #[.slice ya (encRc r).length yc] 55 (0,0))):=Upd.alloc;have v3:=v2.trans u3 fun _ _ h=>h;have hs3:=v3.size;have u24:=u3.trans u4 fun _ _ h=>h;have v4:=v3.trans u4 fun _ _ h=>h;have q4:=q3.upd u4 fun _ _ h=>h;have hL4:=h.quiet v4;have hrg:=jQ hr;have y4:SlR (w3.alloc (.cells #[.slice ya (encRc r).length yc] 55 (0,0))) (FF D J) (.slice (some ⟨w3.heap.size,0,none⟩) 1 1) [encRc r]:=⟨_,_,rfl,fun _=>⟨w3.heap.size,0,rfl,b4.lt,fun hh=>by have:=hbd _ hh; omega,fun j l hj=>by
  cases j with
  | succ j=>simp at hj
  | zero=>
   simp at hj;subst hj;exact⟨_,b4.cell 0,(q4.slc fun g hg h'=>by have:=f3 g hg; have:=hbd g h'; have:=v2.size; have:w2.drew.heap.size=w2.heap.size:=rfl; omega).1⟩⟩⟩
 have hsl:(stream [encRc r]).length≤1000000:=by
  rw[eE,cA,List.append_nil];have:=aL (n:=(encRc r).length) (by omega);simp[encB];omega
 simp(maxSteps:=3000000)(disch:=omega)only[push_cast,seval,↓aE,↓aF,cc hdr,cc u3,cc u24];refine Ok.use (VU hL4.jw hb.wf.sz (by omega) (by have:=hb.z1; omega) hb.z2 hb.jf hb.js hb.ja y4 (fun l hl=>by simp at hl; subst hl; exact hrg) hsl) ?_;generalize w3.alloc (.cells #[.slice ya (encRc r).length yc] 55 (0,0))=w4 at *;rintro u w5 ⟨rfl,D5,h5',t5⟩;have h5:=hL4.jour h5' t5;have l5:=(LT.quiet (D:=D) (J:=J) v4).trans (t5.lt h.jw.jj);obtain⟨cs5,hb5,hn5⟩:=h5.box;obtain⟨xa5,xc5,sa5,sc5,ta5,tc5,rfl,_⟩:=aO hn5;simp only[List.cons_append,List.nil_append] at hb5;have hc5:=l5.eN hc;have b5:Blk w5 w.heap.size _ 90:=((b2.upd u24 fun h=>h).upd t5.upd fun hh=>hh.elim (fun hd=>by have:=hbd _ (.inl hd); omega) fun e=>by have:=(h.jw.sep jb h.jw.jj).2; omega);simp(maxSteps:=3000000)(disch:=omega)only[push_cast,seval,↓aE,↓aF,cc hdr,cc u3,cc u24,hb5.cell];obtain⟨r1,hr1⟩ : ∃r1,r1=jappend (s.d,s.j) [encRc r]:=⟨_,rfl⟩;have h7:=aB8 (s:=(s.d,s.j)) (recs:=[encRc r]);unfold lchange;rw[←hr1] at h5 h5' h7 ⊢;obtain⟨⟨d1,j1⟩,e1⟩:=r1;dsimp only at h5 h5' h7 ⊢;generalize hKs:KS _ _ _ _ _=Ks;have hend : ∀(ρ:Env) (w6:World) (D6:Nat→Prop) (s6:LS) (e6:Int),ρ 0 = .pointer (some ⟨lb,0,none⟩)→ρ 4 = .pointer (some ⟨w.heap.size,0,none⟩)→ρ 8 = .int .i64 e6→LW w6 D6 J p lb jb cb s6→LT w w6 D D6 J→Blk w6 w.heap.size [.slice xa n'.st.length xc,.slice sa n'.bas.steps.length sc,.slice ta n'.bas.taken.length tc,.int .i64 n'.life] 90→
  (if e1=7 then lsave {s with d:=d1,j:=j1} n' else (lfail {s with d:=d1,j:=j1} e1,e1))=(s6,e6)→Ks (.normal,ρ,w6):=by
  intro ρ w6 D6 s6 e6 p0 p4 p8 h6 l6 b6 heq;subst hKs;rw[heq];by_cases he:e6=0
  ·subst he;have l6s:=l6.upd.size;simp(maxSteps:=3000000)(disch:=omega)only[push_cast,seval,p0,p4,p8,aJ (P:=Tryz.prog) (t:=90) b6 (by kernel_rfl) (by kernel_rfl)];refine Ok.use (mF (l6.eN hc) hs1 hs2 hl) ?_;rintro u w7 ⟨cs7,rfl,n7,u7⟩;have h7:=h6.quiet u7;obtain⟨w8,hst,h8,l8,u8⟩:=h7.store (n:=n') (cs:=cs7) (aH.go n7 (Upd.refl (F:=NoB)) fun b _ hh=>hh.elim (fun hh=>hh.elim) fun hh=>h6.bd hh);simp(maxSteps:=3000000)(disch:=omega)only[push_cast,seval,p0,p4,p8,hst];exact⟨D6,h8,(l6.trans (LT.quiet u7)).trans l8⟩
  ·simp(maxSteps:=3000000)(disch:=omega)only[push_cast,seval,p0,p4,p8,he];exact⟨D6,h6,l6⟩
 have hnw : ∀{w6:World},Upd (FF D5 J) w5 w6→Blk w6 w.heap.size [.slice xa n'.st.length xc,.slice sa n'.bas.steps.length sc,.slice ta n'.bas.taken.length tc,.int .i64 n'.life] 90:=fun u=>b5.upd u fun hh=>by
  have:=u1.size;have:=u2.size;have:=u24.size;rcases hh with hd | hj
  ·rcases t5.new _ hd with hh | hh
   ·have:=hbd _ (.inl hh); omega
   ·omega
  ·have:=(h.jw.sep _ hj).2; omega
 by_cases he:e1=7
 ·subst he;have hq:=h7 rfl;have hq1:d1=s.d:=congrArg Prod.fst hq;have hq2:j1=(jready (s.d,s.j)).2:=congrArg Prod.snd hq;subst hq1;have hb5':LB N sz i {s with d:=s.d,j:=j1}:=by
   rw[hq2];exact⟨hb.wf,hb.z1,hb.z2,hb.cf,hb.c1,hb.cn,hb.cg,hb.jf,hb.ja,hb.js⟩
  simp(maxSteps:=3000000)(disch:=omega)only[push_cast,seval,b5.cell];refine Ok.use (vV h5 hb5' hi hc5 hl) ?_;rintro u w6 ⟨rfl,D6,h6,l6⟩;simp(maxSteps:=3000000)(disch:=omega)only[push_cast,seval];exact hend _ _ D6 _ _ rfl rfl rfl h6 (l5.trans l6) (hnw l6.upd) (by rw[if_pos rfl])
 ·simp(maxSteps:=3000000)(disch:=omega)only[push_cast,seval,he];refine Ok.use (nU h5) ?_;rintro u w6 ⟨rfl,h6,l6⟩;simp(maxSteps:=3000000)(disch:=omega)only[push_cast,seval];exact hend _ _ D5 _ _ rfl rfl rfl h6 (l5.trans l6) (hnw l6.upd) (by rw[if_neg he])
end Go.Proofs.YtpgigkceoolgeaaGreatDoor.Fd
