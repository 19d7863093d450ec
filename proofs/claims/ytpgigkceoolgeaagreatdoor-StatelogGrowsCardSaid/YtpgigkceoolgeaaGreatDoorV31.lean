import Derived.Test.YtpgigkceoolgeaaGreatDoorV30
set_option linter.all false
namespace Go.Proofs.YtpgigkceoolgeaaGreatDoor.Fd
open Go
set_option maxRecDepth 100000
theorem mZ {w w1 w2:World}{S:Nat→Prop}{p:Nat}{l1 l2:List Int}(h1:WrI w1 (gr S w w1) p l1)(u1:Upd S w w1)(h2:WrI w2 (gr (gr S w w1) w1 w2) p l2)(u2:Upd (gr S w w1) w1 w2):WrI w2 (gr S w w2) p l2∧Upd S w w2:=by
 have e:gr (gr S w w1) w1 w2=gr S w w2:=by
  funext b;have s1:=u1.size;have s2:=u2.size;apply propext;unfold gr;constructor
  ·rintro((h | h) | h)
   ·exact .inl h
   ·exact .inr ⟨h.1,by omega⟩
   ·exact .inr ⟨by omega,h.2⟩
  ·rintro(h | h)
   ·exact .inl (.inl h)
   ·by_cases hb:b<w1.heap.size
    ·exact .inl (.inr ⟨h.1,hb⟩)
    ·exact .inr ⟨by omega,h.2⟩
 exact⟨by rw[←e]; exact h2,u1.trans u2 fun b hb h=>h.elim id fun h=>by omega⟩
theorem ZX {w:World}{S:Nat→Prop}{p k:Nat}(h:WrI w S p []){a:Option Addr}{c:Nat}{l:List Cmd}(hb:Blk w k [.slice a l.length c] 32)(hk : ¬S k)(hs:SlD eC w S (.slice a l.length c) l)(hl:(encL l).length≤1000000) :
 Ok (den Tryz.prog 68 #[.pointer (some ⟨p,0,none⟩),.pointer (some ⟨k,0,none⟩)] w) fun u w'=>WrI w' (gr S w w') p (encRc (.ext l))∧Upd S w w':=by
 have hS:=h.bd;refine aB (args:=[.pointer (some ⟨p,0,none⟩),.pointer (some ⟨k,0,none⟩)]) rs68 Tryz.func68 rfl mixed (by kernel_rfl) NX rfl ?_;simp(maxSteps:=3000000)(disch:=omega)only[push_cast,seval];refine Ok.use (bG h (n:=1) (by decide) (by simp)) ?_;rintro u w1 ⟨h1,u1⟩;have hb1:=hb.upd u1 hk;simp(maxSteps:=3000000)(disch:=omega)only[push_cast,seval,hb1.cell];refine Ok.use (lC h1 (hs.go aA u1 aX) (by rw[List.nil_append]; have:=aK (n:=1) (by decide); omega)) ?_;rintro u w2 ⟨h2,u2⟩;simp(maxSteps:=3000000)(disch:=omega)only[push_cast,seval];exact mZ h1 u1 h2 u2
theorem ZY {w:World}{S:Nat→Prop}{p k:Nat}(h:WrI w S p []){b:Bas}{cs:List Value}(hb:Blk w k cs 35)(hk : ¬S k)(hs:eB.C w S b cs)(hl:(encBs b).length≤1000000) :
 Ok (den Tryz.prog 72 #[.pointer (some ⟨p,0,none⟩),.pointer (some ⟨k,0,none⟩)] w) fun u w'=>WrI w' (gr S w w') p (encRc (.reb b))∧Upd S w w':=by
 have hS:=h.bd;obtain⟨pa,pc,qa,qc,rfl,_⟩:=cA hs;refine aB (args:=[.pointer (some ⟨p,0,none⟩),.pointer (some ⟨k,0,none⟩)]) rs72 Tryz.func72 rfl mixed (by kernel_rfl) N1 rfl ?_;simp(maxSteps:=3000000)(disch:=omega)only[push_cast,seval];refine Ok.use (bG h (n:=2) (by decide) (by simp)) ?_;rintro u w1 ⟨h1,u1⟩;have hb1:=hb.upd u1 hk;simp(maxSteps:=3000000)(disch:=omega)only[push_cast,seval,hb1.cell];refine Ok.use (rM h1 (aP.go hs u1 aX) (by rw[List.nil_append]; have:=aK (n:=2) (by decide); omega)) ?_;rintro u w2 ⟨h2,u2⟩;simp(maxSteps:=3000000)(disch:=omega)only[push_cast,seval];exact mZ h1 u1 h2 u2
theorem ZZ {w:World}{S:Nat→Prop}{p k:Nat}(h:WrI w S p []){n:Nat}{x y z:Value}(hb:Blk w k [x,y,z,.int .i64 (n:Int)] 90)(hk : ¬S k)(hl:n≤4611686018427387904) :
 Ok (den Tryz.prog 64 #[.pointer (some ⟨p,0,none⟩),.pointer (some ⟨k,0,none⟩)] w) fun u w'=>WrI w' (gr S w w') p (encRc (.liv n))∧Upd S w w':=by
 have hS:=h.bd;refine aB (args:=[.pointer (some ⟨p,0,none⟩),.pointer (some ⟨k,0,none⟩)]) rs64 Tryz.func64 rfl mixed (by kernel_rfl) NT rfl ?_;simp(maxSteps:=3000000)(disch:=omega)only[push_cast,seval];refine Ok.use (bG h (n:=3) (by decide) (by simp)) ?_;rintro u w1 ⟨h1,u1⟩;have hb1:=hb.upd u1 hk;have e:IntKind.u64.wrap (n:Int)=(n:Int):=by rw[IntKind.wrap_u64]; omega
 simp(maxSteps:=3000000)(disch:=omega)only[push_cast,seval,hb1.cell,e];refine Ok.use (bG h1 (n:=n) (by omega) (by rw[List.nil_append]; have:=aK (n:=3) (by decide); omega)) ?_;rintro u w2 ⟨h2,u2⟩;simp(maxSteps:=3000000)(disch:=omega)only[push_cast,seval];exact mZ h1 u1 h2 u2
theorem Z0 {w:World}{lb:Nat}{a b dn:Value}{cs cs':List Value}(h:Blk w lb (a :: b :: (cs ++ [dn])) 92)(h1:cs.length=4)(h2:cs'.length=4)(h3 : ∀u∈cs',u.oneCell'=true) :
 stS Tryz.prog 90 (.pointer (some ⟨lb,2,none⟩)) (.agg cs'.toArray) w=some (undef,w.setRow lb (a :: b :: (cs' ++ [dn])).toArray):=by
 refine iB (by simp only[Value.cells,List.size_toArray]; rw[h2]; kernel_rfl) ?_;have:=lM (l:=cs') (o:=2) h (by simp; omega) h3;rw[show(a :: b :: (cs ++ [dn])).take 2 = [a,b] from rfl,show(a :: b :: (cs ++ [dn])).drop (2+cs'.length) = [dn] by rw[h2]; show(cs ++ [dn]).drop 4 = [dn]; rw[←h1,List.drop_left]] at this;simpa[Value.cells] using this
theorem LW.store {w:World}{D J:Nat→Prop}{p lb jb cb:Nat}{s:LS}(h:LW w D J p lb jb cb s){n:Con}{cs:List Value}(hn:eN.C w (FF D J) n cs) :
 ∃w',stS Tryz.prog 90 (.pointer (some ⟨lb,2,none⟩)) (.agg cs.toArray) w=some (undef,w')∧LW w' D J p lb jb cb {s with n:=n}∧LT w w' D D J∧Upd (fun b=>b=lb) w w':=by
 obtain⟨cs0,hb,hn0⟩:=h.box;have hu:Upd (fun b=>b=lb) w (w.setRow lb (.pointer (some ⟨jb,0,none⟩) :: .pointer (some ⟨cb,0,none⟩) :: (cs ++ [.bool s.dn])).toArray):=Upd.setRow rfl;exact⟨_,Z0 hb (aJ.len hn0) (aJ.len hn) (aJ.one hn),h.own hu (dn:=s.dn) hb.setRow (aJ.go hn hu fun b _ h'=>h'.elim (fun e=>.inr (by rw[e]; exact h.ll)) id),LT.own h.ll hu,hu⟩
theorem LW.bd {w:World}{D J:Nat→Prop}{p lb jb cb:Nat}{s:LS}(h:LW w D J p lb jb cb s){b:Nat}(h':FF D J b):b<w.heap.size:=h'.elim (fun hd=>by
 obtain⟨_,_,_,_,_,_,hD⟩:=h.jw.disk;exact hD.bd b hd) fun hj=>(h.jw.sep b hj).2
def lchange (s:LS)(n:Con)(rec:List Int):LS×Int:=
 let r:=jappend (s.d,s.j) [rec]
 let s1:LS:={s with d:=r.1.1,j:=r.1.2}
 let q:=if r.2=7 then lsave s1 n else (lfail s1 r.2,r.2)
 if q.2=0 then ({q.1 with n:=n},0) else q
theorem Z1 {s:DS×JS}{recs:List (List Int)}(h:(jappend s recs).2=7):(jappend s recs).1=jready s:=by
 unfold jappend at h ⊢;split
 ·rename_i hh; rw[if_pos hh] at h
 ·rename_i hh;rw[if_neg hh] at h;split
  ·rename_i h2; rw[if_pos h2] at h
  ·rename_i h2;rw[if_neg h2] at h;split
   ·rfl
   ·rename_i h3;rw[if_neg h3] at h;dsimp only at h ⊢;split at h
    ·cases h
    ·split at h
     ·cases h
     ·split at h <;> cases h
set_option maxHeartbeats 4000000 in
theorem m0 {w:World}{D J:Nat→Prop}{p lb jb cb:Nat}{s:LS}(h:LW w D J p lb jb cb s){N sz i:Nat}(hb:LB N sz i s)(hi:i≤300000){n':Con}{cs':List Value}(hc:eN.C w (FF D J) n' cs')(hl:(encCn n').length≤1000000)(hs1:SrtC n'.st)(hs2:SrtC n'.bas.taken){r:Rec}(hr:RecW r)(hrl:(encRc r).length≤900000)
 {f k:Nat} (hbf:hasB Tryz.prog f=true) (hf : ∀(w1:World) (S:Nat→Prop) (pb:Nat),WrI w1 S pb []→(∀b,S b→w.heap.size≤b)→Upd NoB w w1→Ok (den Tryz.prog f #[.pointer (some ⟨pb,0,none⟩),.pointer (some ⟨k,0,none⟩)] w1) fun _ w'=>WrI w' (gr S w1 w') pb (encRc r)∧Upd S w1 w') :
 Ok (den Tryz.prog 63 #[.pointer (some ⟨lb,0,none⟩),.agg cs'.toArray,.func (.func f) #[] #[.pointer (some ⟨k,0,none⟩)]] w) fun u w'=>u = .int .i64 (lchange s n' (encRc r)).2∧∃D',LW w' D' J p lb jb cb (lchange s n' (encRc r)).1∧LT w w' D D' J:=by
 obtain⟨xa,xc,sa,sc,ta,tc,rfl,k1,k2,k3⟩:=aQ hc;have hbd : ∀b,FF D J b→b<w.heap.size:=fun b h'=>h.bd h';refine aB (args:=[.pointer (some ⟨lb,0,none⟩),.agg #[.slice xa n'.st.length xc,.slice sa n'.bas.steps.length sc,.slice ta n'.bas.taken.length tc,.int .i64 n'.life],.func (.func f) #[] #[.pointer (some ⟨k,0,none⟩)]]) rs63 Tryz.func63 rfl mixed (by kernel_rfl) NS rfl ?_;rw[aD];generalize hKs:KS _ _ _ _ _=Ks;simp(disch:=omega)only[push_cast,seval];have u0:Upd NoB w (w.alloc (.cells [.slice xa n'.st.length xc,.slice sa n'.bas.steps.length sc,.slice ta n'.bas.taken.length tc,.int .i64 n'.life].toArray 90 (0,0))):=Upd.alloc;have b0:=Blk.new (w:=w) (cs:=[.slice xa n'.st.length xc,.slice sa n'.bas.steps.length sc,.slice ta n'.bas.taken.length tc,.int .i64 n'.life]) (E:=90);generalize w.alloc (.cells [.slice xa n'.st.length xc,.slice sa n'.bas.steps.length sc,.slice ta n'.bas.taken.length tc,.int .i64 n'.life].toArray 90 (0,0))=w0 at *;subst hKs;rw[aC];rw[aD];generalize hKs:KS _ _ _ _ _=Ks;simp(disch:=omega)only[push_cast,seval,rN];have h1:=WrI.new (w:=w0);have u1:Upd NoB w0 (w0.alloc (.cells #[.slice none 0 0] 165 (0,0))):=Upd.alloc;have s0:w.heap.size<w0.heap.size:=b0.lt;have b1:=b0.upd u1 (fun h=>h);have v1:=u0.trans u1 fun _ _ h=>h;generalize w0.alloc (.cells #[.slice none 0 0] 165 (0,0))=w1 at *;subst hKs;rw[aC];simp(maxSteps:=3000000)(disch:=omega)only[push_cast,seval,hbf];refine Ok.use (hf w1 _ _ h1 (fun b e=>by omega) v1) ?_;rintro u w2 ⟨h2,u2⟩;have v2:=v1.trans u2 fun b hb e=>by omega
 have b2:=b1.upd u2 (by omega);have hL2:=h.quiet v2;obtain⟨cs2,hb2,hn2⟩:=hL2.box;obtain⟨xa2,xc2,sa2,sc2,ta2,tc2,rfl,_⟩:=aQ hn2;simp only[List.cons_append,List.nil_append] at hb2;have hdr:Upd NoB w2 w2.drew:=Upd.drew;have cc : ∀{w':World},Upd NoB w2 w'→∀j,w'.cell? ⟨lb,j,none⟩ = [Value.pointer (some ⟨jb,0,none⟩),.pointer (some ⟨cb,0,none⟩),.slice xa2 s.n.st.length xc2,.slice sa2 s.n.bas.steps.length sc2,.slice ta2 s.n.bas.taken.length tc2,.int .i64 s.n.life,.bool s.dn][j]? :=fun u j=>(hb2.upd u fun h=>h).cell j;simp(maxSteps:=3000000)(disch:=omega)only[push_cast,seval,↓aG,↓aH,cc hdr];refine Ok.use (dU (h2.upd hdr fun _ _ h=>h) (by omega)) ?_;rintro u w3 ⟨q3,f3,u3'⟩;obtain⟨ya,yc,rfl,_⟩:=q3.form;have u3:Upd NoB w2 w3:=hdr.trans u3' fun _ _ h=>h;simp(maxSteps:=3000000)(disch:=omega)only[push_cast,seval,↓aG,↓aH,cc hdr,cc u3];have b4:=Blk.new (w:=w3) (cs:=[.slice ya (encRc r).length yc]) (E:=55);have u4:Upd NoB w3 (w3.alloc (.cells #[.slice ya (encRc r).length yc] 55 (0,0))):=Upd.alloc;have v3:=v2.trans u3 fun _ _ h=>h;have hs3:=v3.size;have u24:=u3.trans u4 fun _ _ h=>h;have v4:=v3.trans u4 fun _ _ h=>h;have q4:=q3.upd u4 fun _ _ h=>h;have hL4:=h.quiet v4;have hrg:=jF hr;have y4:SlR (w3.alloc (.cells #[.slice ya (encRc r).length yc] 55 (0,0))) (FF D J) (.slice (some ⟨w3.heap.size,0,none⟩) 1 1) [encRc r]:=⟨_,_,rfl,fun _=>⟨w3.heap.size,0,rfl,b4.lt,fun hh=>by have:=hbd _ hh; omega,fun j l hj=>by
  cases j with
  | succ j=>simp at hj
  | zero=>
   simp at hj;subst hj;exact⟨_,b4.cell 0,(q4.slc fun g hg h'=>by have:=f3 g hg; have:=hbd g h'; have:=v2.size; have:w2.drew.heap.size=w2.heap.size:=rfl; omega).1⟩⟩⟩
 have hsl:(stream [encRc r]).length≤1000000:=by
  rw[fT,cH,List.append_nil];have:=aK (n:=(encRc r).length) (by omega);simp[encB];omega
 simp(maxSteps:=3000000)(disch:=omega)only[push_cast,seval,↓aG,↓aH,cc hdr,cc u3,cc u24];refine Ok.use (SS hL4.jw hb.wf.sz (by omega) (by have:=hb.z1; omega) hb.z2 hb.jf hb.js hb.ja y4 (fun l hl=>by simp at hl; subst hl; exact hrg) hsl) ?_;generalize w3.alloc (.cells #[.slice ya (encRc r).length yc] 55 (0,0))=w4 at *;rintro u w5 ⟨rfl,D5,h5',t5⟩;have h5:=hL4.jour h5' t5;have l5:=(LT.quiet (D:=D) (J:=J) v4).trans (t5.lt h.jw.jj);obtain⟨cs5,hb5,hn5⟩:=h5.box;obtain⟨xa5,xc5,sa5,sc5,ta5,tc5,rfl,_⟩:=aQ hn5;simp only[List.cons_append,List.nil_append] at hb5;have hc5:=l5.eN hc;have b5:Blk w5 w.heap.size _ 90:=((b2.upd u24 fun h=>h).upd t5.upd fun hh=>hh.elim (fun hd=>by have:=hbd _ (.inl hd); omega) fun e=>by have:=(h.jw.sep jb h.jw.jj).2; omega);simp(maxSteps:=3000000)(disch:=omega)only[push_cast,seval,↓aG,↓aH,cc hdr,cc u3,cc u24,hb5.cell];obtain⟨r1,hr1⟩ : ∃r1,r1=jappend (s.d,s.j) [encRc r]:=⟨_,rfl⟩;have h7:=Z1 (s:=(s.d,s.j)) (recs:=[encRc r]);unfold lchange;rw[←hr1] at h5 h5' h7 ⊢;obtain⟨⟨d1,j1⟩,e1⟩:=r1;dsimp only at h5 h5' h7 ⊢;generalize hKs:KS _ _ _ _ _=Ks;have hend : ∀(ρ:Env) (w6:World) (D6:Nat→Prop) (s6:LS) (e6:Int),ρ 0 = .pointer (some ⟨lb,0,none⟩)→ρ 4 = .pointer (some ⟨w.heap.size,0,none⟩)→ρ 8 = .int .i64 e6→LW w6 D6 J p lb jb cb s6→LT w w6 D D6 J→Blk w6 w.heap.size [.slice xa n'.st.length xc,.slice sa n'.bas.steps.length sc,.slice ta n'.bas.taken.length tc,.int .i64 n'.life] 90→
  (if e1=7 then lsave {s with d:=d1,j:=j1} n' else (lfail {s with d:=d1,j:=j1} e1,e1))=(s6,e6)→Ks (.normal,ρ,w6):=by
  intro ρ w6 D6 s6 e6 p0 p4 p8 h6 l6 b6 heq;subst hKs;rw[heq];by_cases he:e6=0
  ·subst he;have l6s:=l6.upd.size;simp(maxSteps:=3000000)(disch:=omega)only[push_cast,seval,p0,p4,p8,aI (P:=Tryz.prog) (t:=90) b6 (by kernel_rfl) (by kernel_rfl)];refine Ok.use (lK (l6.eN hc) hs1 hs2 hl) ?_;rintro u w7 ⟨cs7,rfl,n7,u7⟩;have h7:=h6.quiet u7;obtain⟨w8,hst,h8,l8,u8⟩:=h7.store (n:=n') (cs:=cs7) (aJ.go n7 (Upd.refl (F:=NoB)) fun b _ hh=>hh.elim (fun hh=>hh.elim) fun hh=>h6.bd hh);simp(maxSteps:=3000000)(disch:=omega)only[push_cast,seval,p0,p4,p8,hst];exact⟨D6,h8,(l6.trans (LT.quiet u7)).trans l8⟩
  ·simp(maxSteps:=3000000)(disch:=omega)only[push_cast,seval,p0,p4,p8,he];exact⟨D6,h6,l6⟩
 have hnw : ∀{w6:World},Upd (FF D5 J) w5 w6→Blk w6 w.heap.size [.slice xa n'.st.length xc,.slice sa n'.bas.steps.length sc,.slice ta n'.bas.taken.length tc,.int .i64 n'.life] 90:=fun u=>b5.upd u fun hh=>by
  have:=u1.size;have:=u2.size;have:=u24.size;rcases hh with hd | hj
  ·rcases t5.new _ hd with hh | hh
   ·have:=hbd _ (.inl hh); omega
   ·omega
  ·have:=(h.jw.sep _ hj).2; omega
 by_cases he:e1=7
 ·subst he;have hq:=h7 rfl;have hq1:d1=s.d:=congrArg Prod.fst hq;have hq2:j1=(jready (s.d,s.j)).2:=congrArg Prod.snd hq;subst hq1;have hb5':LB N sz i {s with d:=s.d,j:=j1}:=by
   rw[hq2];exact⟨hb.wf,hb.z1,hb.z2,hb.cf,hb.c1,hb.cn,hb.cg,hb.jf,hb.ja,hb.js⟩
  simp(maxSteps:=3000000)(disch:=omega)only[push_cast,seval,b5.cell];refine Ok.use (uL h5 hb5' hi hc5 hl) ?_;rintro u w6 ⟨rfl,D6,h6,l6⟩;simp(maxSteps:=3000000)(disch:=omega)only[push_cast,seval];exact hend _ _ D6 _ _ rfl rfl rfl h6 (l5.trans l6) (hnw l6.upd) (by rw[if_pos rfl])
 ·simp(maxSteps:=3000000)(disch:=omega)only[push_cast,seval,he];refine Ok.use (mY h5) ?_;rintro u w6 ⟨rfl,h6,l6⟩;simp(maxSteps:=3000000)(disch:=omega)only[push_cast,seval];exact hend _ _ D5 _ _ rfl rfl rfl h6 (l5.trans l6) (hnw l6.upd) (by rw[if_neg he])
open Go
set_option maxRecDepth 100000
structure ConS (n : Con) : Prop where
 w:ConW n
 s : ∀x,x∈n.st→CmdS x
 o:SrtC n.st
 ts : ∀x,x∈n.bas.taken→CmdS x
 to:SrtC n.bas.taken
 sl:n.st.length≤400000
 bl:n.bas.steps.length≤400000
 cl:(confB n.bas).length≤1000000000
theorem m6 {l m:List Cmd}(h : ∀x,x∈l→CmdS x){x:Cmd}(hx:x∈minC l m):x∈l:=(bL h).1 ((List.mem_filter.1 hx).1)
theorem eV {l m:List Cmd}:(minC l m).length≤l.length:=Nat.le_trans (List.length_filter_le _ _) jC
theorem m7 {l m:List Cmd}(h : ∀x,x∈l→CmdS x):SrtC (minC l m):=gG ((cS h).pair.filter _)
noncomputable def lextend (s:LS)(l:List Cmd):LS×Int:=
 if s.dn then (s,8) else
 if minC l s.n.st = [] then (s,0) else lchange s (joinN s.n (minC l s.n.st)) (encRc (.ext (minC l s.n.st)))
set_option maxHeartbeats 4000000 in
theorem Z2 {w:World}{D J:Nat→Prop}{p lb jb cb:Nat}{s:LS}(h:LW w D J p lb jb cb s){N sz i:Nat}(hb:LB N sz i s)(hi:i≤300000)(hn:ConS s.n){y:Value}{l:List Cmd}(hy:SlD eC w (FF D J) y l)(hx : ∀x,x∈l→CmdS x)(hxl:l.length≤400000)
 (hk:(encCn (joinN s.n (minC l s.n.st))).length≤1000000) (hrl:(encL (minC l s.n.st)).length≤800000) :
 Ok (den Tryz.prog 34 #[.pointer (some ⟨lb,0,none⟩),y] w) fun u w'=>u = .int .i64 (lextend s l).2∧∃D',LW w' D' J p lb jb cb (lextend s l).1∧LT w w' D D' J:=by
 obtain⟨ya,yc,rfl,_⟩:=hy.form;obtain⟨cs0,hb0,hn0⟩:=h.box;obtain⟨xa,xc,sa,sc,ta,tc,rfl,k1,k2,k3⟩:=aQ hn0;simp only[List.cons_append,List.nil_append] at hb0;unfold lextend;refine aB (args:=[.pointer (some ⟨lb,0,none⟩),.slice ya l.length yc]) rs34 Tryz.func34 rfl mixed (by kernel_rfl) M7 rfl ?_;cases hdn:s.dn;case true=>
  rw[hdn] at hb0;simp(maxSteps:=3000000)(disch:=omega)only[push_cast,seval,hb0.cell];exact⟨D,h,LT.refl⟩
 rw[hdn] at hb0;rw[if_neg (by simp)];simp(maxSteps:=3000000)(disch:=omega)only[push_cast,seval,hb0.cell];refine Ok.use (W2 hy k1 hx hn.s (by omega) (by have:=hn.sl; omega)) ?_;rintro u w1 ⟨q1,u1⟩;obtain⟨ma,mc,rfl,_⟩:=(q1.slD aA).form;obtain⟨M,hM⟩ : ∃M,M=minC l s.n.st:=⟨_,rfl⟩;have hMs : ∀x,x∈M→CmdS x:=fun x hm=>hx x (m6 hx (by rw[←hM]; exact hm));have hMl:M.length≤l.length:=by rw[hM]; exact eV
 have hMo:SrtC M:=by rw[hM]; exact m7 hx
 rw[←hM] at q1 hk hrl ⊢;generalize hKs:KS _ _ _ _ _=Ks;simp(maxSteps:=3000000)(disch:=omega)only[push_cast,seval];have b2:=(Blk.new (w:=w1) (cs:=[.slice none 0 0]) (E:=32)).set 0 (.slice ma M.length mc);have u2':Upd NoB w1 ((w1.alloc (.cells #[Value.slice none 0 0] 32 (0,0))).setCell ⟨w1.heap.size,0,none⟩ (.slice ma M.length mc)):=Upd.alloc.setNew (Nat.le_refl _);rw[List.set_cons_zero] at b2;generalize (w1.alloc (.cells #[Value.slice none 0 0] 32 (0,0))).setCell ⟨w1.heap.size,0,none⟩ (.slice ma M.length mc)=w2 at *;have u2:=u1.trans u2' fun _ _ h=>h;have q2:SlD eC w2 (Old w) (.slice ma M.length mc) M:=(q1.slD aA).go aA u2' fun _ _ h=>h.elim (fun h=>h.elim) id;have s1:=u1.size;subst hKs;rw[aC];by_cases h0:M = []
 ·have h0':((M.length:Int)=0)=True:=eq_true (by rw[h0]; rfl);rw[if_pos h0];simp(maxSteps:=3000000)(disch:=omega)only[push_cast,seval,b2.cell,h0'];exact⟨D,h.quiet u2,LT.quiet u2⟩
 have h0':((M.length:Int)=0)=False:=eq_false fun e=>h0 (List.eq_nil_of_length_eq_zero (by omega));rw[if_neg h0];have h2:=h.quiet u2;have hb2:=hb0.upd u2 fun h=>h;have hdr:Upd NoB w2 w2.drew:=Upd.drew;have cc : ∀{w':World},Upd NoB w2 w'→∀j,w'.cell? ⟨lb,j,none⟩ = [Value.pointer (some ⟨jb,0,none⟩),.pointer (some ⟨cb,0,none⟩),.slice xa s.n.st.length xc,.slice sa s.n.bas.steps.length sc,.slice ta s.n.bas.taken.length tc,.int .i64 s.n.life,.bool false][j]? :=fun u j=>(hb2.upd u fun h=>h).cell j;have bb : ∀{w':World},Upd NoB w2 w'→∀j,w'.cell? ⟨w1.heap.size,j,none⟩ = [Value.slice ma M.length mc][j]? :=fun u j=>(b2.upd u fun h=>h).cell j;have hnn:eN.C w2.drew (FF D J) s.n _:=(LT.quiet (D:=D) (J:=J) (u2.trans hdr fun _ _ h=>h)).eN hn0;simp(maxSteps:=3000000)(disch:=omega)only[push_cast,seval,↓aG,↓aH,h0',b2.cell,cc hdr,bb hdr];have hsum:s.n.st.length+M.length≤1000000:=by have:=hn.sl; omega
 refine Ok.use (mD hnn (q2.go aA hdr fun _ _ h=>h.elim (fun h=>h.elim) id) hn.s hMs hsum) ?_;rintro u w3 ⟨cs3,rfl,n3,u3'⟩;have u3:Upd NoB w2 w3:=hdr.trans u3' fun _ _ h=>h;have v3:=u2.trans u3 fun _ _ h=>h;have h3:=h2.quiet u3;have b3:=b2.upd u3 fun h=>h;have q3:SlD eC w3 (Old w) (.slice ma M.length mc) M:=q2.go aA u3 fun _ _ h=>h.elim (fun h=>h.elim) id;simp(maxSteps:=3000000)(disch:=omega)only[push_cast,seval,↓aG,↓aH,h0',b2.cell,cc hdr,bb hdr,cc u3,bb u3];have hck:eN.C w3 (FF D J) (joinN s.n M) cs3:=aJ.go n3 (Upd.refl (F:=NoB)) fun b _ hh=>hh.elim (fun hh=>hh.elim) fun hh=>⟨hh,by show b<w2.drew.heap.size; exact h2.bd hh⟩;have hso:SrtC (joinN s.n M).st:=cS fun x hx'=>(List.mem_append.1 hx').elim (hn.s x) (hMs x);have hrl':(encRc (.ext M)).length≤900000:=by
  have:=aK (n:=1) (by decide);simp only[encRc,List.length_append];omega
 refine Ok.use (m0 h3 hb hi hck hk hso hn.to (r:=.ext M) ⟨hMs,hMo,by omega⟩ hrl' (f:=68) (k:=w1.heap.size) (by kernel_rfl) fun w1' S pb hS1 hS2 hu=>ZX hS1 (b3.upd hu fun h=>h) (fun hh=>by have:=hS2 _ hh; have:=b3.lt; omega) (q3.go aA hu fun b hb' hh=>hh.elim (fun hh=>hh.elim) fun hh=>by have:=hS2 _ hh; omega) (by omega)) ?_;rintro u w4 ⟨rfl,D4,h4,l4⟩;simp(maxSteps:=3000000)(disch:=omega)only[push_cast,seval];exact⟨D4,h4,(LT.quiet v3).trans l4⟩
structure BasS (b : Bas) : Prop where
 w:BasW b
 ts : ∀x,x∈b.taken→CmdS x
 to:SrtC b.taken
 tl:b.taken.length≤400000
 bl:b.steps.length≤400000
 cl:(confB b).length≤1000000000
def lrebase (s:LS)(b:Bas):LS×Int:=
 if s.dn then (s,8) else
 if (confB b).length≤(confB s.n.bas).length then (s,11) else lchange s (rebN s.n b) (encRc (.reb b))
set_option maxHeartbeats 4000000 in
theorem Z3 {w:World}{D J:Nat→Prop}{p lb jb cb:Nat}{s:LS}(h:LW w D J p lb jb cb s){N sz i:Nat}(hb:LB N sz i s)(hi:i≤300000)(hn:ConS s.n){bs:List Value}{b:Bas}(hy:eB.C w (FF D J) b bs)(hx:BasS b)
 (hk:(encCn (rebN s.n b)).length≤1000000) (hrl:(encBs b).length≤800000) :
 Ok (den Tryz.prog 35 #[.pointer (some ⟨lb,0,none⟩),.agg bs.toArray] w) fun u w'=>u = .int .i64 (lrebase s b).2∧∃D',LW w' D' J p lb jb cb (lrebase s b).1∧LT w w' D D' J:=by
 obtain⟨pa,pc,qa,qc,rfl,m1,m2,m3⟩:=cA hy;obtain⟨cs0,hb0,hn0⟩:=h.box;obtain⟨xa,xc,sa,sc,ta,tc,rfl,k1,k2,k3⟩:=aQ hn0;simp only[List.cons_append,List.nil_append] at hb0;unfold lrebase;refine aB (args:=[.pointer (some ⟨lb,0,none⟩),.agg #[.slice pa b.steps.length pc,.slice qa b.taken.length qc]]) rs35 Tryz.func35 rfl mixed (by kernel_rfl) M8 rfl ?_;rw[aD];generalize hKs:KS _ _ _ _ _=Ks;simp(disch:=omega)only[push_cast,seval];have u1:Upd NoB w (w.alloc (.cells [.slice pa b.steps.length pc,.slice qa b.taken.length qc].toArray 35 (0,0))):=Upd.alloc;have b1:=Blk.new (w:=w) (cs:=[.slice pa b.steps.length pc,.slice qa b.taken.length qc]) (E:=35);generalize w.alloc (.cells [.slice pa b.steps.length pc,.slice qa b.taken.length qc].toArray 35 (0,0))=w1 at *;have h1:=h.quiet u1;have hb1:=hb0.upd u1 fun h=>h;subst hKs;rw[aC];cases hdn:s.dn;case true=>
  rw[hdn] at hb1;simp(maxSteps:=3000000)(disch:=omega)only[push_cast,seval,hb1.cell];exact⟨D,h1,LT.quiet u1⟩
 rw[hdn] at hb1;rw[if_neg (by simp)];have cc : ∀{w':World},Upd NoB w1 w'→∀j,w'.cell? ⟨lb,j,none⟩ = [Value.pointer (some ⟨jb,0,none⟩),.pointer (some ⟨cb,0,none⟩),.slice xa s.n.st.length xc,.slice sa s.n.bas.steps.length sc,.slice ta s.n.bas.taken.length tc,.int .i64 s.n.life,.bool false][j]? :=fun u j=>(hb1.upd u fun h=>h).cell j;have bb : ∀{w':World},Upd NoB w1 w'→∀j,w'.cell? ⟨w.heap.size,j,none⟩ = [Value.slice pa b.steps.length pc,.slice qa b.taken.length qc][j]? :=fun u j=>(b1.upd u fun h=>h).cell j;have hdr:Upd NoB w1 w1.drew:=Upd.drew;have u0:Upd NoB w1 w1:=Upd.refl;simp(maxSteps:=3000000)(disch:=omega)only[push_cast,seval,↓aG,↓aH,cc u0,bb u0,cc hdr,bb hdr];refine Ok.use (jE (aP.go hy (u1.trans hdr fun _ _ h=>h) fun _ _ h=>h.elim (fun h=>h.elim) id) (by have:=hx.bl; omega)) ?_;rintro u w2 ⟨r2,u2'⟩;obtain⟨ra,rc,rfl,_⟩:=r2.form;have u2:Upd NoB w1 w2:=hdr.trans u2' fun _ _ h=>h;simp(maxSteps:=3000000)(disch:=omega)only[push_cast,seval,↓aG,↓aH,cc u0,bb u0,cc hdr,bb hdr,cc u2,bb u2];refine Ok.use (jE (aP.go k2 (u1.trans u2 fun _ _ h=>h) fun _ _ h=>h.elim (fun h=>h.elim) id) (by have:=hn.bl; omega)) ?_;rintro u w3 ⟨r3,u3'⟩;obtain⟨ra',rc',rfl,_⟩:=r3.form;have u3:Upd NoB w1 w3:=u2.trans u3' fun _ _ h=>h;by_cases hlt:(confB b).length≤(confB s.n.bas).length
 ·have hlt':((confB b).length:Int)≤((confB s.n.bas).length:Int):=by omega
  rw[if_pos hlt];simp(maxSteps:=3000000)(disch:=omega)only[push_cast,seval,↓aG,↓aH,cc u0,bb u0,cc hdr,bb hdr,cc u2,bb u2,cc u3,bb u3,hlt'];exact⟨D,h1.quiet u3,LT.quiet (u1.trans u3 fun _ _ h=>h)⟩
 have hlt' : ¬((confB b).length:Int)≤((confB s.n.bas).length:Int):=by omega
 rw[if_neg hlt];simp(maxSteps:=3000000)(disch:=omega)only[push_cast,seval,↓aG,↓aH,cc u0,bb u0,cc hdr,bb hdr,cc u2,bb u2,cc u3,bb u3,cc u3.drew',bb u3.drew',hlt'];have v4:=u1.trans u3.drew' fun _ _ h=>h;refine Ok.use (tE ((LT.quiet (D:=D) (J:=J) v4).eN hn0) ((LT.quiet (D:=D) (J:=J) v4).eB hy) hn.s hx.ts (by have:=hn.sl; have:=hx.tl; omega) (by have:=hn.bl; omega) (by have:=hx.bl; omega) hn.cl hx.cl) ?_;rintro u w5 ⟨cs5,rfl,n5,u5'⟩;have u5:Upd NoB w1 w5:=u3.drew'.trans u5' fun _ _ h=>h;have v5:=u1.trans u5 fun _ _ h=>h;have b5:=b1.upd u5 fun h=>h;have h5:=h1.quiet u5;have hy5:=(LT.quiet (D:=D) (J:=J) v5).eB hy;simp(maxSteps:=3000000)(disch:=omega)only[push_cast,seval,↓aG,↓aH,cc u0,bb u0,cc hdr,bb hdr,cc u2,bb u2,cc u3,bb u3,cc u3.drew',bb u3.drew',cc u5,bb u5];have hck:eN.C w5 (FF D J) (rebN s.n b) cs5:=aJ.go n5 (Upd.refl (F:=NoB)) fun c _ hh=>hh.elim (fun hh=>hh.elim) fun hh=>⟨hh,(h1.quiet u3.drew').bd hh⟩;have hso:SrtC (rebN s.n b).st:=cS fun x hx'=>(List.mem_append.1 hx').elim (hn.s x) (hx.ts x);have hto:SrtC (rebN s.n b).bas.taken:=by
  show SrtC (if (confB s.n.bas).length<(confB b).length then b else s.n.bas).taken
  split
  ·exact hx.to
  ·exact hn.to
 have hrl':(encRc (.reb b)).length≤900000:=by
  have:=aK (n:=2) (by decide);simp only[encRc,List.length_append];omega
 have hbl:=b1.lt;have hs5:=u5.size;refine Ok.use (m0 h5 hb hi hck hk hso hto (r:=.reb b) ⟨hx.w,hx.ts,hx.to,by have:=hx.tl; omega,by have:=hx.bl; omega,hx.cl⟩ hrl' (f:=72) (k:=w.heap.size) (by kernel_rfl) fun w1' S pb hS1 hS2 hu=>ZY hS1 (b5.upd hu fun h=>h) (fun hh=>by have:=hS2 _ hh; omega) (aP.go hy5 hu fun c hc' hh=>hh.elim (fun hh=>hh.elim) fun hh=>by have:=hS2 _ hh; omega) (by omega)) ?_;rintro u w6 ⟨rfl,D6,h6,l6⟩;simp(maxSteps:=3000000)(disch:=omega)only[push_cast,seval];exact⟨D6,h6,(LT.quiet v5).trans l6⟩
def llive (s:LS):LS×Int:=
 if s.dn then (s,8) else
 if 4611686018427387904≤s.n.life then (s,6) else lchange s {s.n with life:=s.n.life+1} (encRc (.liv (s.n.life.toNat+1)))
set_option maxHeartbeats 4000000 in
theorem Z4 {w:World}{D J:Nat→Prop}{p lb jb cb:Nat}{s:LS}(h:LW w D J p lb jb cb s){N sz i:Nat}(hb:LB N sz i s)(hi:i≤300000)(hn:ConS s.n)
 (hk:(encCn {s.n with life:=s.n.life+1}).length≤1000000) :
 Ok (den Tryz.prog 33 #[.pointer (some ⟨lb,0,none⟩)] w) fun u w'=>u = .int .i64 (llive s).2∧∃D',LW w' D' J p lb jb cb (llive s).1∧LT w w' D D' J:=by
 obtain⟨cs0,hb0,hn0⟩:=h.box;obtain⟨xa,xc,sa,sc,ta,tc,rfl,k1,k2,k3⟩:=aQ hn0;simp only[List.cons_append,List.nil_append] at hb0;unfold llive;refine aB (args:=[.pointer (some ⟨lb,0,none⟩)]) rs33 Tryz.func33 rfl mixed (by kernel_rfl) M6 rfl ?_;cases hdn:s.dn;case true=>
  rw[hdn] at hb0;simp(maxSteps:=3000000)(disch:=omega)only[push_cast,seval,hb0.cell];exact⟨D,h,LT.refl⟩
 rw[hdn] at hb0;rw[if_neg (by simp)];by_cases hlt:(4611686018427387904:Int)≤s.n.life
 ·rw[if_pos hlt];simp(maxSteps:=3000000)(disch:=omega)only[push_cast,seval,hb0.cell,hlt];exact⟨D,h,LT.refl⟩
 rw[if_neg hlt];have hl0:=k3.2.2.1;obtain⟨m,hm⟩ : ∃m:Nat,s.n.life=(m:Int):=⟨s.n.life.toNat,by omega⟩;have hm1:m+1≤4611686018427387904:=by omega
 rw[hm] at hlt hb0 hk ⊢;rw[show((m:Int)).toNat=m from rfl];have z1:=Blk.new (w:=w) (cs:=[.slice none 0 0,.slice none 0 0,.slice none 0 0,.int .i64 0]) (E:=90);simp(maxSteps:=3000000)(disch:=omega)only[push_cast,seval,hb0.cell,hlt];generalize hKs:KS _ _ _ _ _=Ks;simp(maxSteps:=3000000)(disch:=omega)only[push_cast,seval,cQ,aO (P:=Tryz.prog) (t:=90) (cs':=[.slice xa s.n.st.length xc,.slice sa s.n.bas.steps.length sc,.slice ta s.n.bas.taken.length tc,.int .i64 (m:Int)]) z1 (by kernel_rfl) rfl (fun u hu=>by simp at hu; rcases hu with rfl | rfl | rfl | rfl <;> rfl)];have b2:=z1.setRow (cs':=[.slice xa s.n.st.length xc,.slice sa s.n.bas.steps.length sc,.slice ta s.n.bas.taken.length tc,.int .i64 (m:Int)]);have u2:Upd NoB w ((w.alloc (.cells #[.slice none 0 0,.slice none 0 0,.slice none 0 0,.int .i64 0] 90 (0,0))).setRow w.heap.size #[.slice xa s.n.st.length xc,.slice sa s.n.bas.steps.length sc,.slice ta s.n.bas.taken.length tc,.int .i64 (m:Int)]):=Upd.alloc.trans (Upd.setRow (F:=fun b=>b=w.heap.size) rfl) fun b hb e=>by omega
 generalize (w.alloc (.cells #[.slice none 0 0,.slice none 0 0,.slice none 0 0,.int .i64 0] 90 (0,0))).setRow w.heap.size #[.slice xa s.n.st.length xc,.slice sa s.n.bas.steps.length sc,.slice ta s.n.bas.taken.length tc,.int .i64 (m:Int)]=w2 at *;subst hKs;rw[aC];rw[aD];generalize hKs:KS _ _ _ _ _=Ks;simp(disch:=omega)only[push_cast,seval,b2.cell,b2.free];have b3:=b2.set 3 (.int .i64 ((m:Int)+1));have u3:Upd NoB w (w2.setCell ⟨w.heap.size,3,none⟩ (.int .i64 ((m:Int)+1))):=u2.setNew (Nat.le_refl _);simp only[List.set_cons_succ,List.set_cons_zero] at b3;generalize w2.setCell ⟨w.heap.size,3,none⟩ (.int .i64 ((m:Int)+1))=w3 at *;have h3:=h.quiet u3;have hbl:=b3.lt;have hc3:eN.C w3 (FF D J) {s.n with life:=(m:Int)+1} [.slice xa s.n.st.length xc,.slice sa s.n.bas.steps.length sc,.slice ta s.n.bas.taken.length tc,.int .i64 ((m:Int)+1)]:=
  ⟨_,_,_,rfl,(LT.quiet (D:=D) (J:=J) u3).slD k1,(LT.quiet (D:=D) (J:=J) u3).eB k2,⟨k3.1,k3.2.1,by show(0:Int)≤(m:Int)+1; omega,by show(m:Int)+1≤4611686018427387904; omega⟩⟩
 have hrl':(encRc (.liv (m+1))).length≤900000:=by
  have:=aK (n:=3) (by decide);have:=aK (n:=m+1) (by omega);simp only[encRc,List.length_append];omega
 subst hKs;rw[aC];simp(maxSteps:=3000000)(disch:=omega)only[push_cast,seval,aI (P:=Tryz.prog) (t:=90) b3 (by kernel_rfl) (by kernel_rfl)];refine Ok.use (m0 h3 hb hi hc3 hk hn.o hn.to (r:=.liv (m+1)) hm1 hrl' (f:=64) (k:=w.heap.size) (by kernel_rfl) fun w1' S pb hS1 hS2 hu=>ZZ hS1 (n:=m+1) (b3.upd hu fun h=>h) (fun hh=>by have:=hS2 _ hh; omega) hm1) ?_;rintro u w4 ⟨rfl,D4,h4,l4⟩;simp(maxSteps:=3000000)(disch:=omega)only[push_cast,seval];exact⟨D4,h4,(LT.quiet u3).trans l4⟩
def lcompact (s:LS):LS×Int:=if s.dn then (s,8) else lsave s s.n
set_option maxHeartbeats 4000000 in
theorem Z5 {w:World}{D J:Nat→Prop}{p lb jb cb:Nat}{s:LS}(h:LW w D J p lb jb cb s){N sz i:Nat}(hb:LB N sz i s)(hi:i≤300000)(hk:(encCn s.n).length≤1000000) :
 Ok (den Tryz.prog 36 #[.pointer (some ⟨lb,0,none⟩)] w) fun u w'=>u = .int .i64 (lcompact s).2∧∃D',LW w' D' J p lb jb cb (lcompact s).1∧LT w w' D D' J:=by
 obtain⟨cs0,hb0,hn0⟩:=h.box;obtain⟨xa,xc,sa,sc,ta,tc,rfl,k1,k2,k3⟩:=aQ hn0;simp only[List.cons_append,List.nil_append] at hb0;unfold lcompact;refine aB (args:=[.pointer (some ⟨lb,0,none⟩)]) rs36 Tryz.func36 rfl mixed (by kernel_rfl) M9 rfl ?_;cases hdn:s.dn;case true=>
  rw[hdn] at hb0;simp(maxSteps:=3000000)(disch:=omega)only[push_cast,seval,hb0.cell];exact⟨D,h,LT.refl⟩
 rw[hdn] at hb0;rw[if_neg (by simp)];simp(maxSteps:=3000000)(disch:=omega)only[push_cast,seval,hb0.cell];refine Ok.use (uL h hb hi hn0 hk) ?_;rintro u w1 ⟨rfl,D1,h1,l1⟩;simp(maxSteps:=3000000)(disch:=omega)only[push_cast,seval];exact⟨D1,h1,l1⟩
theorem Z6 {w:World}{D J:Nat→Prop}{p lb jb cb:Nat}{s:LS}(h:LW w D J p lb jb cb s):Ok (den Tryz.prog 18 #[.pointer (some ⟨lb,0,none⟩)] w) fun u w'=>u = .bool s.dn∧w=w':=by
 obtain⟨cs0,hb0,hn0⟩:=h.box;obtain⟨xa,xc,sa,sc,ta,tc,rfl,k1,k2,k3⟩:=aQ hn0;simp only[List.cons_append,List.nil_append] at hb0;refine aB (args:=[.pointer (some ⟨lb,0,none⟩)]) rs18 Tryz.func18 rfl mixed (by kernel_rfl) MS rfl ?_;simp(maxSteps:=3000000)(disch:=omega)only[push_cast,seval,hb0.cell]
theorem dL {w:World}{D J:Nat→Prop}{p lb jb cb:Nat}{s:LS}(h:LW w D J p lb jb cb s):Ok (den Tryz.prog 29 #[.pointer (some ⟨lb,0,none⟩)] w) fun u w'=>u = .int .i64 s.n.life∧w=w':=by
 obtain⟨cs0,hb0,hn0⟩:=h.box;obtain⟨xa,xc,sa,sc,ta,tc,rfl,k1,k2,k3⟩:=aQ hn0;simp only[List.cons_append,List.nil_append] at hb0;refine aB (args:=[.pointer (some ⟨lb,0,none⟩)]) rs29 Tryz.func29 rfl mixed (by kernel_rfl) M2 rfl ?_;simp(maxSteps:=3000000)(disch:=omega)only[push_cast,seval,hb0.cell]
theorem Z7 {n:Con}(h:(encCn n).length≤999000):(encCn ⟨n.st,⟨[],[]⟩,0⟩).length≤1000000:=by
 rw[cP] at h ⊢;have h1:(encBs ⟨[],[]⟩).length≤100:=by
  rw[cO];have:=aK (n:=0) (by decide);simp only[encL,List.flatMap_nil,List.length_nil,List.append_nil];omega
 have h2:(encU (0:Int).toNat).length≤10:=aK (by decide);show(encU (0:Int).toNat).length+(encBs ⟨[],[]⟩).length+(encL n.st).length≤1000000;omega
theorem Z8 {n:Con}(h:(encCn n).length≤999000):(encCn ⟨[],n.bas,0⟩).length≤1000000:=by
 rw[cP] at h ⊢;have h1:(encL []).length≤10:=by
  have:=aK (n:=0) (by decide);simp only[encL,List.flatMap_nil,List.length_nil,List.append_nil];omega
 have h2:(encU (0:Int).toNat).length≤10:=aK (by decide);show(encU (0:Int).toNat).length+(encBs n.bas).length+(encL []).length≤1000000;omega
def fgtS (P:Program)(t:TypeId)(x:Value)(i:Nat)(w:World):Option (Value×World):=lift ((Instr.field t x i).run P w)
theorem Z9 {P:Program}{D:Den}{ty:TypeId}{e:Operand→Value}{w:World}{t:TypeId}{x:Operand}{i:Nat}:opX P D (.field t x i) ty e w=fgtS P t (e x) i w:=by
 simp only[opX,opS,execOp,fgtS,lift];generalize Instr.field t (e x) i=s;simp;cases s.run P w <;> simp
theorem aAA {a b d:Option Addr}{n c n' c' n'' c'':Nat}{l:Int}{w:World}:fgtS Tryz.prog 90 (.agg #[.slice a n c,.slice b n' c',.slice d n'' c'',.int .i64 l]) 0 w=some (.slice a n c,w):=by kernel_rfl
theorem aAB {a b d:Option Addr}{n c n' c' n'' c'':Nat}{l:Int}{w:World}:fgtS Tryz.prog 90 (.agg #[.slice a n c,.slice b n' c',.slice d n'' c'',.int .i64 l]) 1 w=some (.agg #[.slice b n' c',.slice d n'' c''],w):=by kernel_rfl
attribute [push_cast] Z9 aAA aAB
theorem aAC (a:Option Addr)(n c:Nat)(w:World):bldS Tryz.prog 90 #[(0,.slice a n c)] w=some (.agg #[.slice a n c,.slice none 0 0,.slice none 0 0,.int .i64 0],w):=by kernel_rfl
theorem aAD (a b:Option Addr)(n c n' c':Nat)(w:World):bldS Tryz.prog 90 #[(1,.agg #[.slice a n c,.slice b n' c'])] w=some (.agg #[.slice none 0 0,.slice a n c,.slice b n' c',.int .i64 0],w):=by kernel_rfl
theorem dM:BasW ⟨[],[]⟩:=⟨fun s h=>by simp at h,fun x h=>by simp at h⟩
theorem eY:SrtC []:=fun i x y h=>by simp at h
set_option maxHeartbeats 4000000 in
theorem m8 {w:World}{D J:Nat→Prop}{p lb jb cb:Nat}{s:LS}(h:LW w D J p lb jb cb s)(hn:ConS s.n)(hk:(encCn s.n).length≤999000):Ok (den Tryz.prog 26 #[.pointer (some ⟨lb,0,none⟩)] w) fun u w'=>SlD eC w' (fun b=>b<w.heap.size) u s.n.st∧Upd NoB w w':=by
 obtain⟨cs0,hb0,hn0⟩:=h.box;obtain⟨xa,xc,sa,sc,ta,tc,rfl,k1,k2,k3⟩:=aQ hn0;simp only[List.cons_append,List.nil_append] at hb0;refine aB (args:=[.pointer (some ⟨lb,0,none⟩)]) rs26 Tryz.func26 rfl mixed (by kernel_rfl) MZ rfl ?_;simp(maxSteps:=3000000)(disch:=omega)only[push_cast,seval,hb0.cell,aAC];have hc:eN.C w (FF D J) ⟨s.n.st,⟨[],[]⟩,0⟩ [.slice xa s.n.st.length xc,.slice none 0 0,.slice none 0 0,.int .i64 0]:=
  ⟨_,_,_,rfl,k1,⟨_,_,rfl,SlD.nil,SlD.nil,dM⟩,⟨k3.1,dM,Int.le_refl 0,by show(0:Int)≤_; omega⟩⟩
 refine Ok.use (lK hc hn.o eY (Z7 hk)) ?_;rintro u w1 ⟨cs1,rfl,n1,u1⟩;obtain⟨xa1,xc1,sa1,sc1,ta1,tc1,rfl,k1',_,_⟩:=aQ n1;simp(maxSteps:=3000000)(disch:=omega)only[push_cast,seval];exact⟨k1',u1⟩
set_option maxHeartbeats 4000000 in
theorem m9 {w:World}{D J:Nat→Prop}{p lb jb cb:Nat}{s:LS}(h:LW w D J p lb jb cb s)(hn:ConS s.n)(hk:(encCn s.n).length≤999000):Ok (den Tryz.prog 28 #[.pointer (some ⟨lb,0,none⟩)] w) fun u w'=>∃cs,u = .agg cs.toArray∧eB.C w' (fun b=>b<w.heap.size) s.n.bas cs∧Upd NoB w w':=by
 obtain⟨cs0,hb0,hn0⟩:=h.box;obtain⟨xa,xc,sa,sc,ta,tc,rfl,k1,k2,k3⟩:=aQ hn0;simp only[List.cons_append,List.nil_append] at hb0;refine cF (args:=[.pointer (some ⟨lb,0,none⟩)]) 2 35 Tryz.func28 rfl mixed (by kernel_rfl) M1 rfl ?_;rw[aD];generalize hKs:KS _ _ _ _ _=Ks;simp(disch:=omega)only[push_cast,seval];have z1:=Blk.new (w:=w) (cs:=[.slice none 0 0,.slice none 0 0]) (E:=35);have u1:Upd NoB w (w.alloc (.cells #[Value.slice none 0 0,.slice none 0 0] 35 (0,0))):=Upd.alloc;generalize w.alloc (.cells #[Value.slice none 0 0,.slice none 0 0] 35 (0,0))=w1 at *;have s1:=z1.lt;have hb1:=hb0.upd u1 fun h=>h;have hc:eN.C w1 (FF D J) ⟨[],s.n.bas,0⟩ [.slice none 0 0,.slice sa s.n.bas.steps.length sc,.slice ta s.n.bas.taken.length tc,.int .i64 0]:=
  ⟨_,_,_,rfl,SlD.nil,(LT.quiet (D:=D) (J:=J) u1).eB k2,⟨fun x h=>by simp at h,k3.2.1,Int.le_refl 0,by show(0:Int)≤_; omega⟩⟩
 subst hKs;rw[aC];simp(maxSteps:=3000000)(disch:=omega)only[push_cast,seval,hb1.cell,aAD];refine Ok.use (lK hc eY hn.to (Z8 hk)) ?_;rintro u w2 ⟨cs2,rfl,n2,u2⟩;obtain⟨xa2,xc2,sa2,sc2,ta2,tc2,rfl,_,k2',_⟩:=aQ n2;have z2:=z1.upd u2 fun h=>h;have z8:=z2.setRow (cs':=[.slice sa2 s.n.bas.steps.length sc2,.slice ta2 s.n.bas.taken.length tc2]);simp(maxSteps:=3000000)(disch:=omega)only[push_cast,seval,aO (P:=Tryz.prog) (t:=35) (cs':=[.slice sa2 s.n.bas.steps.length sc2,.slice ta2 s.n.bas.taken.length tc2]) z2 (by kernel_rfl) rfl (fun u hu=>by simp at hu; rcases hu with rfl | rfl <;> rfl),aI (P:=Tryz.prog) (t:=35) z8 (by kernel_rfl) (by kernel_rfl)];have u8:Upd (fun b=>b=w.heap.size) w2 (w2.setRow w.heap.size #[.slice sa2 s.n.bas.steps.length sc2,.slice ta2 s.n.bas.taken.length tc2]):=Upd.setRow rfl;exact⟨[.slice sa2 s.n.bas.steps.length sc2,.slice ta2 s.n.bas.taken.length tc2],rfl,aP.go k2' u8 fun b _ hh=>by rcases hh with hh | hh <;> omega,(u1.trans u2 fun _ _ h=>h).trans u8 fun b hb e=>by omega⟩
end Go.Proofs.YtpgigkceoolgeaaGreatDoor.Fd
