import Derived.Test.YtpgigkceoolgeaaGreatDoorS031
set_option linter.all false
namespace Go.Proofs.YtpgigkceoolgeaaGreatDoor.Fd
open Go
set_option maxRecDepth 100000
def LeN (n m:Con):Prop:=(∀x,x∈n.st→x∈m.st)∧(confB n.bas).length≤(confB m.bas).length∧n.life≤m.life
theorem LeN.refl {n:Con}:LeN n n:=⟨fun _ h=>h,Nat.le_refl _,Int.le_refl _⟩
def AbsR (n:Con):Rec→Prop
 | .ext l=>∀x,x∈l→x∈n.st
 | .reb b=>(∀x,x∈b.taken→x∈n.st)∧(confB b).length≤(confB n.bas).length
 | .liv k=>(k:Int)≤n.life
theorem AbsR.mono {n m:Con}{r:Rec}(h:AbsR n r)(hl:LeN n m):AbsR m r:=by
 cases r with
 | ext l=>exact fun x hx=>hl.1 x (h x hx)
 | reb b=>exact⟨fun x hx=>hl.1 x (h.1 x hx),Nat.le_trans h.2 hl.2.1⟩
 | liv k=>exact Int.le_trans h hl.2.2
theorem nX {n:Con}{l:List Cmd}(h1 : ∀x,x∈n.st→CmdS x)(h2 : ∀x,x∈l→CmdS x){x:Cmd}:x∈(joinN n l).st↔x∈n.st∨x∈l:=by
 show x∈ofC (n.st ++ l)↔_;rw[cF fun y hy=>(List.mem_append.1 hy).elim (h1 y) (h2 y),List.mem_append]
theorem vZ {n:Con}{l:List Cmd}(h1 : ∀x,x∈n.st→CmdS x)(ho:SrtC n.st)(h2 : ∀x,x∈l→CmdS x)(h : ∀x,x∈l→x∈n.st):joinN n l=n:=by
 have e:n.st=ofC (n.st ++ l):=gS (fun y hy=>(List.mem_append.1 hy).elim (h1 y) (h2 y)) ho fun z=>by
  rw[List.mem_append];exact⟨.inl,fun h'=>h'.elim id (h z)⟩
 unfold joinN;rw[←e]
theorem aBm {n:Con}(hn:ConS n){r:Rec}(hr:RecW r)(h:AbsR n r):applyR n r=n:=by
 cases r with
 | ext l=>exact vZ hn.s hn.o hr.1 h
 | reb b=>
  show rebN n b=n;unfold rebN;rw[vZ hn.s hn.o hr.2.1 h.1,if_neg (by have:=h.2; omega)]
 | liv k=>
  show({n with life:=max n.life k}:Con)=n;have:max n.life (k:Int)=n.life:=Int.max_eq_left h;rw[this]
theorem kD {n:Con}(hn:ConS n){r:Rec}(hr:RecW r):LeN n (applyR n r)∧AbsR (applyR n r) r:=by
 cases r with
 | ext l=>
  have hm:=fun x=>nX (n:=n) (l:=l) hn.s hr.1 (x:=x);exact⟨⟨fun x hx=>(hm x).2 (.inl hx),Nat.le_refl _,Int.le_refl _⟩,fun x hx=>(hm x).2 (.inr hx)⟩
 | reb b=>
  have hm:=fun x=>nX (n:=n) (l:=b.taken) hn.s hr.2.1 (x:=x);have hb:(rebN n b).bas=if (confB n.bas).length<(confB b).length then b else n.bas:=rfl
  refine⟨⟨fun x hx=>(hm x).2 (.inl hx),?_,Int.le_refl _⟩,fun x hx=>(hm x).2 (.inr hx),?_⟩
  ·show _≤(confB (rebN n b).bas).length;rw[hb]; split <;> omega
  ·show _≤(confB (rebN n b).bas).length;rw[hb]; split <;> omega
 | liv k=>exact⟨⟨fun _ h=>h,Nat.le_refl _,Int.le_max_left _ _⟩,Int.le_max_right _ _⟩
theorem kE {n:Con}(hn:ConS n) : ∀{rs:List Rec},(∀r,r∈rs→RecW r)→(∀r,r∈rs→AbsR n r)→replay n rs=n
 | [],_,_=>rfl
 | r :: rs,hr,h=>by
  show replay (applyR n r) rs=n;rw[aBm hn (hr r List.mem_cons_self) (h r List.mem_cons_self)];exact kE hn (fun x hx=>hr x (List.mem_cons_of_mem _ hx)) fun x hx=>h x (List.mem_cons_of_mem _ hx)
structure Geo (N sz first count : Nat) : Prop where
 z1:64≤sz
 z2:sz≤4096
 c8:8≤count
 fc:first+count≤N
 n1:N≤60000
 ar:(count-count/2)*sz≤250000
 ar2:count*sz≤410000
theorem Geo.dims {N sz first count:Nat}(h:Geo N sz first count):Dims N (first+count/2) (count-count/2) sz:=by
 have:=h.z1;have:=h.z2;have:=h.c8;have:=h.fc;have:=h.n1;exact⟨by omega,h.z2,by omega,by omega,by omega,h.ar⟩
theorem HoldsL.congr {L L':Nat→List Int}{f c s:Nat}{st:List Int}(h:HoldsL L f s st)(hfit:st.length≤(c-1)*s)(hs:0<s)(hc:1≤c)(he : ∀a,f≤a→a<f+c→L' a=L a):HoldsL L' f s st:=by
 refine⟨by rw[he f (by omega) (by omega)]; exact h.1,fun p hp=>?_⟩;have hq:p/s<c-1:=(Nat.div_lt_iff_lt_mul hs).2 (by omega);have h2:=h.2 p hp;generalize p/s=q at *;rw[he _ (by omega) (by omega)];exact h2
def cpOk (c:CS)(n0:Con):Prop:=(c.gen=0∧n0=con0)∨(0<c.gen∧c.newest=encCn n0∧ConS n0)
structure Fnd (N sz first count G : Nat) (L : Nat → List Int) (n : Con) (rs : List Rec) (n0 : Con) : Prop where
 holds:HoldsL L (first+count/2) sz (stream (rs.map encRc))
 fit:(stream (rs.map encRc)).length≤(count-count/2-1)*sz
 gen:(openL L first (count/2/2)).gen≤G
 cp:cpOk (openL L first (count/2/2)) n0
 rep:replay n0 rs=n
 rw : ∀r,r∈rs→RecW r
 abs : ∀r,r∈rs→AbsR n r
 ch : ∀k,k≤rs.length→ConS (replay n0 (rs.take k))
def FindsL (N sz first count G:Nat)(L:Nat→List Int)(n:Con):Prop:=∃rs n0,Fnd N sz first count G L n rs n0
structure Up (N sz first count G : Nat) (s : LS) (rs : List Rec) (n0 : Con) : Prop where
 wf:WfD N sz 0 s.d
 off:s.d.off=false
 j:s.j=jsOf (first+count/2) (count-count/2) sz (rs.map encRc)
 c:s.c=openL (DurL s.d) first (count/2/2)
 fnd:Fnd N sz first count G (DurL s.d) s.n rs n0
 dn:s.dn=false
structure Dn (N sz first count G : Nat) (s : LS) (n' : Con) : Prop where
 lb:LB N sz 300000 s
 off:s.d.off=true
 dn:s.dn=true
 fin : ∀L:Nat→List Int,(∀a,Poss s.d a (L a))→FindsL N sz first count G L s.n∨FindsL N sz first count G L n'
theorem Up.cache {N sz first count G:Nat}{s:LS}{rs:List Rec}{n0:Con}(h:Up N sz first count G s rs n0):s.d.cache = []:=List.eq_nil_of_length_eq_zero (Nat.le_zero.1 h.wf.sz.few)
theorem WfD.rng {n s i:Nat}{d:DS}(h:WfD n s i d):RngD d:=⟨fun l hl=>(h.dur l hl).2,fun x hx=>(h.cache x hx).2⟩
theorem wB {rs:List Rec}(h : ∀r,r∈rs→RecW r):RngL (rs.map encRc):=by
 intro l hl;obtain⟨r,hr,rfl⟩:=List.mem_map.1 hl;exact jQ (h r hr)
theorem Up.good {N sz first count G:Nat}{s:LS}{rs:List Rec}{n0:Con}(h:Up N sz first count G s rs n0):GoodD N (first+count/2) (count-count/2) sz s.d (rs.map encRc):=
 ⟨h.wf.sz,h.off,h.cache,h.wf.rng,h.fnd.holds,h.fnd.fit,wB h.fnd.rw⟩
theorem Up.live {N sz first count G:Nat}{s:LS}{rs:List Rec}{n0:Con}(h:Up N sz first count G s rs n0):Live N sz first (count/2/2) s.d s.c:=
 ⟨h.off,h.cache,h.wf.sz.dur,h.wf.sz.size,h.c⟩
theorem Up.cons {N sz first count G:Nat}{s:LS}{rs:List Rec}{n0:Con}(h:Up N sz first count G s rs n0):ConS s.n:=by
 have:=h.fnd.ch rs.length (Nat.le_refl _);rw[List.take_length,h.fnd.rep] at this;exact this
theorem Up.lb {N sz first count G:Nat}{s:LS}{rs:List Rec}{n0:Con}(g:Geo N sz first count)(h:Up N sz first count G s rs n0):LB N sz 0 s:=by
 have hd:=g.dims;have hl:=h.live.facts (sz:=sz) (n:=count/2/2) (by have:=g.c8; omega) (by have:=g.c8; have:=g.fc; omega) fun a ha=>(h.wf.durl ha).1;have hfc:=g.fc;have hc8:=g.c8;have hn1:=g.n1;refine⟨h.wf,g.z1,g.z2,by rw[hl.2.2.2.1]; omega,by rw[hl.2.2.2.2.1]; omega,by rw[hl.2.2.2.2.1]; omega,hl.1,by rw[h.j]; show first+count/2≤100000; omega,by rw[h.j]; exact hd.area,by rw[h.j]; exact h.fnd.fit⟩
theorem nY {N s k:Nat}{d:DS}(h:WfD N s k d)(hc:d.cache = []):WfD N s 0 d:=⟨⟨h.sz.dur,h.sz.size,by rw [hc]; exact Nat.le_refl _,h.sz.cnt⟩,h.dur,by rw [hc]; intro x hx; cases hx⟩
theorem aBn {N sz first count G:Nat}(g:Geo N sz first count){s:LS}{rs:List Rec}{n0:Con}(h:Up N sz first count G s rs n0){r:Rec}(hr:RecW r)(hn:ConS (applyR s.n r)) :
 ((count-count/2-1)*sz<(stream ((rs ++ [r]).map encRc)).length∧jappend (s.d,s.j) [encRc r]=((s.d,s.j),7))∨
 ((stream ((rs ++ [r]).map encRc)).length≤(count-count/2-1)*sz∧
  (((jappend (s.d,s.j) [encRc r]).2=0∧Up N sz first count G ⟨(jappend (s.d,s.j) [encRc r]).1.1,(jappend (s.d,s.j) [encRc r]).1.2,s.c,applyR s.n r,false⟩ (rs ++ [r]) n0∧(s.d.cnt=none→(jappend (s.d,s.j) [encRc r]).1.1.cnt=none))∨
   ((jappend (s.d,s.j) [encRc r]).2=8∧Dn N sz first count G ⟨(jappend (s.d,s.j) [encRc r]).1.1,(jappend (s.d,s.j) [encRc r]).1.2,s.c,s.n,true⟩ (applyR s.n r)∧s.d.cnt≠none))):=by
 have hd:=g.dims;have hc8:=g.c8;have hz1:=g.z1;have hg:=h.good;have hlb:=h.lb g;have em:(rs ++ [r]).map encRc=rs.map encRc ++ [encRc r]:=by rw[List.map_append]; rfl
 rw[h.j,em];rcases Nat.lt_or_ge ((count-count/2-1)*sz) (stream (rs.map encRc ++ [encRc r])).length with hful | hfit
 ·exact .inl ⟨hful,V6 hg hful⟩
 refine .inr ⟨hfit,?_⟩;have hr1:RngL [encRc r]:=fun l hl=>by simp at hl; subst hl; exact jQ hr
 have hres:=V7 hg hd hr1 hfit;have hst:Steps (fun a=>first+count/2≤a∧a<first+count/2+(count-count/2)) s.d (jappend (s.d,jsOf (first+count/2) (count-count/2) sz (rs.map encRc)) [encRc r]).1.1:=
  aB0 (z:=(s.d,jsOf (first+count/2) (count-count/2) sz (rs.map encRc))) (f:=first+count/2) (c:=count-count/2) (s:=sz) (fun a h1 h2=>⟨h1,h2⟩) (by
   show Rng (stream (rs.map encRc) ++ stream [encRc r]);rw[←cY];exact sK (hg.rl.append hr1)) rfl h.fnd.fit (by omega) rfl h.wf.sz.size (by omega)
 obtain⟨q,hq⟩ : ∃q,q=jappend (s.d,jsOf (first+count/2) (count-count/2) sz (rs.map encRc)) [encRc r]:=⟨_,rfl⟩
 rw[←hq] at hres hst ⊢;obtain⟨k,hk⟩:=hst.wf h.wf;have hout : ∀L:Nat→List Int,(∀a,Poss q.1.1 a (L a))→∀a,a<first+count/2→L a=DurL s.d a:=fun L hL a ha=>j9 h.cache (hst.poss (fun hh=>by omega) (hL a))
 have hopn : ∀L:Nat→List Int,(∀a,Poss q.1.1 a (L a))→openL L first (count/2/2)=openL (DurL s.d) first (count/2/2):=fun L hL=>jV fun a h1 h2=>hout L hL a (by omega)
 have hle:=kD h.cons hr;have hnew : ∀L:Nat→List Int,(∀a,Poss q.1.1 a (L a))→HoldsL L (first+count/2) sz (stream (rs.map encRc ++ [encRc r]))→Fnd N sz first count G L (applyR s.n r) (rs ++ [r]) n0:=by
  intro L hL hh;refine⟨by rw[em]; exact hh,by rw[em]; exact hfit,by rw[hopn L hL]; exact h.fnd.gen,by rw[hopn L hL]; exact h.fnd.cp,?_,?_,?_,?_⟩
  ·unfold replay;rw[List.foldl_append];show applyR (replay n0 rs) r=_;rw[h.fnd.rep]
  ·intro x hx;rcases List.mem_append.1 hx with hx | hx
   ·exact h.fnd.rw x hx
   ·simp at hx; subst hx; exact hr
  ·intro x hx;rcases List.mem_append.1 hx with hx | hx
   ·exact(h.fnd.abs x hx).mono hle.1
   ·simp at hx; subst hx; exact hle.2
  ·intro k hk;rcases Nat.lt_or_ge rs.length k with hlt | hge
   ·rw[List.length_append,List.length_singleton] at hk;rw[List.take_of_length_le (by rw[List.length_append,List.length_singleton]; omega)];unfold replay;rw[List.foldl_append];show ConS (applyR (replay n0 rs) r);rw[h.fnd.rep];exact hn
   ·rw[List.take_append_of_le_length hge];exact h.fnd.ch k hge
 rcases hres.res with ⟨e0,hgd,hj,hcnt,hdur,_⟩ | ⟨e8,hj,hbd,hcn⟩
 ·refine .inl ⟨e0,?_,hcnt⟩;have hpo : ∀a,Poss q.1.1 a (DurL q.1.1 a):=fun a=>.inl rfl;exact⟨nY hk hgd.cache,hgd.off,by rw[em]; exact hj,by show s.c=_; rw[hopn _ hpo]; exact h.c,hnew _ hpo hgd.holds,rfl⟩
 ·refine .inr ⟨e8,⟨?_,hbd.off,rfl,fun L hL=>?_⟩,hcn⟩
  ·exact⟨⟨hres.sz,hk.dur,hk.cache⟩,hlb.z1,hlb.z2,hlb.cf,hlb.c1,hlb.cn,hlb.cg,by show q.1.2.first≤_; rw[hj]; have:=hlb.jf; rw[h.j] at this; exact this,by show q.1.2.area≤_; rw[hj]; exact hd.area,by show q.1.2.stream.length≤q.1.2.area; rw[hj]; exact h.fnd.fit⟩
  ·obtain⟨st,⟨ls,hQ,rfl,hf1,hf2⟩,hh⟩:=hbd.safe L hL;rcases hQ with rfl | rfl
   ·exact .inl ⟨rs,n0,⟨hh,h.fnd.fit,by rw[hopn L hL]; exact h.fnd.gen,by rw[hopn L hL]; exact h.fnd.cp,h.fnd.rep,h.fnd.rw,h.fnd.abs,h.fnd.ch⟩⟩
   ·exact .inr ⟨rs ++ [r],n0,hnew L hL hh⟩
open Go
set_option maxRecDepth 100000
def roomG (sz count:Nat):Nat:=(count/2/2-1)*sz
theorem wC {n:Con}(hn:ConS n){rs:List Rec}(hr : ∀r,r∈rs→RecW r)(h : ∀r,r∈rs→AbsR n r)(k:Nat):ConS (replay n (rs.take k)):=by
 rw[kE hn (fun x hx=>hr x (List.mem_of_mem_take hx)) fun x hx=>h x (List.mem_of_mem_take hx)];exact hn
theorem wD {N sz first count G:Nat}(g:Geo N sz first count){s:LS}{rs:List Rec}{n0:Con}(h:Up N sz first count G s rs n0){n':Con}(hn:ConS n')(ha : ∀r,r∈rs→AbsR n' r)(hG:G<4611686018427387904) :
 (roomG sz count<(encCn n').length∧lsave s n'=(s,7))∨
 ((encCn n').length≤roomG sz count∧
  (((lsave s n').2=0∧Up N sz first count (G+1) {(lsave s n').1 with n:=n'} [] n'∧(lsave s n').1.n=s.n∧(s.d.cnt=none→(lsave s n').1.d.cnt=none))∨
   ((lsave s n').2=8∧Dn N sz first count (G+1) (lsave s n').1 n'∧(lsave s n').1.n=s.n∧s.d.cnt≠none))):=by
 have hd:=g.dims;have hc8:=g.c8;have hz1:=g.z1;have hz2:=g.z2;have hfc:=g.fc;have hn1:=g.n1;have hlb:=h.lb g;have hlive:=h.live;have hfa:=hlive.facts (sz:=sz) (n:=count/2/2) (by omega) (by omega) fun a ha=>(h.wf.durl ha).1;have hcn:s.c.n=count/2/2:=hfa.2.2.2.2.1;have hcf:s.c.first=first:=hfa.2.2.2.1
 have hsz:s.d.size=sz:=h.wf.sz.size;have hroom:(s.c.n-1)*s.d.size=roomG sz count:=by rw[hcn,hsz]; rfl
 have hrg:Rng (encCn n'):=jE hn.w;unfold lsave;rw[hroom];rcases Nat.lt_or_ge (roomG sz count) (encCn n').length with hful | hfit
 ·exact .inl ⟨hful,by rw[if_pos hful]⟩
 refine .inr ⟨hfit,?_⟩;rw[if_neg (by omega)];have hsp:=aBV hlive h.wf (by omega) hz2 (by omega) (by omega) (by omega) (encCn n');have hst:Steps (fun a=>first≤a∧a<first+2*(count/2/2)) s.d (csave (s.d,s.c) (encCn n')).1.1:=aB2 (s:=(s.d,s.c)) (by show 44≤s.d.size; omega) (by show 1≤s.c.n; omega) hfa.2.2.1 hrg fun a h1 h2=>⟨by rw[←hcf]; exact h1,by rw[←hcf,←hcn]; exact h2⟩
 have hwf:=vM (c:=s.c) h.wf hrg (k:=70000) fun at_ gg=>by
  rw[vN (by omega),hsz];have:=j8 (sz:=sz) (len:=(encCn n').length) (m:=count/2/2-1) (by omega) hfit;omega
 obtain⟨⟨⟨d1,c1⟩,e1⟩,hr⟩ : ∃r,r=csave (s.d,s.c) (encCn n'):=⟨_,rfl⟩;rw[←hr] at hsp hst hwf ⊢;dsimp only at hsp hst hwf ⊢;have hlt : ¬(count/2/2-1)*sz<(encCn n').length:=by have:(encCn n').length≤(count/2/2-1)*sz:=hfit; omega
 have hge:s.c.gen≤G:=by rw[h.c]; exact h.fnd.gen
 have hin : ∀L:Nat→List Int,(∀a,Poss d1 a (L a))→∀a,first+count/2≤a→L a=DurL s.d a:=fun L hL a ha=>j9 h.cache (hst.poss (fun hh=>by omega) (hL a))
 have hjr : ∀L:Nat→List Int,(∀a,Poss d1 a (L a))→HoldsL L (first+count/2) sz (stream (rs.map encRc)):=fun L hL=>h.fnd.holds.congr (c:=count-count/2) h.fnd.fit (by omega) (by omega) fun a h1 h2=>hin L hL a h1
 rcases hsp with ⟨h1,_⟩ | ⟨_,hgl,e0,hl1,hc1,hcnt,hdur⟩ | ⟨_,hgl,hcs,hoff,hcn',hfin⟩
 ·rcases h1 with h1 | h1
  ·exact absurd h1 hlt
  ·omega
 ·subst e0;rw[if_pos rfl];have hca1:=hl1.ca;have hw1:=nY hwf hca1;have hpo1 : ∀a,Poss d1 a (DurL d1 a):=fun a=>.inl rfl;have hg1:GoodD N (first+count/2) (count-count/2) sz d1 (rs.map encRc):=⟨hw1.sz,hl1.off,hca1,hw1.rng,hjr _ hpo1,h.fnd.fit,wB h.fnd.rw⟩
  have hres:=V5 hg1 hd;have hst2:Steps (fun a=>a=first+count/2) d1 (jreset (d1,s.j)).1.1:=aBZ (z:=(d1,s.j)) (by rw[h.j]; rfl)
  rw[←h.j] at hres;obtain⟨q,hq⟩ : ∃q,q=jreset (d1,s.j):=⟨_,rfl⟩;rw[←hq] at hres hst2 ⊢;obtain⟨k,hk⟩:=hst2.wf hw1;have hopn : ∀L:Nat→List Int,(∀a,Poss q.1.1 a (L a))→openL L first (count/2/2)=c1:=fun L hL=>by
   rw[hl1.opn];exact jV fun a h1 h2=>j9 hca1 (hst2.poss (fun hh=>by omega) (hL a))
  have hc1g:c1.gen=s.c.gen+1:=by rw[hc1]
  have hcp:cpOk c1 n':=.inr ⟨by omega,by rw[hc1],hn⟩;have hemp : ∀L:Nat→List Int,(∀a,Poss q.1.1 a (L a))→HoldsL L (first+count/2) sz (stream [])→Fnd N sz first count (G+1) L n' [] n':=fun L hL hh=>
   ⟨hh,by rw[List.map_nil,cA]; exact Nat.zero_le _,by rw[hopn L hL]; omega,by rw[hopn L hL]; exact hcp,rfl,fun r hr=>by simp at hr,fun r hr=>by simp at hr,fun k hk=>by rw[List.take_nil]; exact hn⟩
  rcases hres.res with ⟨e0,hgd,hj,hct2,_,_⟩ | ⟨e8,hj,hbd,hcn2⟩
  ·refine .inl ⟨e0,?_,rfl,fun hh=>hct2 (hcnt hh)⟩;have hpo : ∀a,Poss q.1.1 a (DurL q.1.1 a):=fun a=>.inl rfl;exact⟨nY hk hgd.cache,hgd.off,hj,(hopn _ hpo).symm,hemp _ hpo hgd.holds,by show(s.dn || decide (q.2≠0))=false; rw[h.dn,e0]; rfl⟩
  ·refine .inr ⟨e8,⟨?_,hbd.off,by show(s.dn || decide (q.2≠0))=true; rw[e8]; simp,fun L hL=>.inr ?_⟩,rfl,?_⟩
   ·have hlbc:=hlb.cf;exact⟨⟨hres.sz,hk.dur,hk.cache⟩,hlb.z1,hlb.z2,by show c1.first≤_; rw[hc1]; exact hlb.cf,by show 1≤c1.n; rw[hc1]; exact hlb.c1,by show c1.n≤_; rw[hc1]; exact hlb.cn,by show c1.gen≤_; omega,by show q.1.2.first≤_; rw[hj]; have:=hlb.jf; rw[h.j] at this; exact this,by show q.1.2.area≤_; rw[hj]; exact hd.area,by show q.1.2.stream.length≤q.1.2.area; rw[hj]; exact h.fnd.fit⟩
   ·obtain⟨st,⟨ls,hQ,rfl,hf1,hf2⟩,hh⟩:=hbd.safe L hL;rcases hQ with rfl | rfl
    ·exact⟨rs,n',⟨hh,h.fnd.fit,by rw[hopn L hL]; omega,by rw[hopn L hL]; exact hcp,kE hn h.fnd.rw ha,h.fnd.rw,ha,fun k _=>wC hn h.fnd.rw ha k⟩⟩
    ·exact⟨[],n',hemp L hL hh⟩
   ·intro hh;exact hcn2 (hcnt hh)
 ·injection hcs with hcs1 hcs2;injection hcs1 with hcs3 hcs4;subst hcs2;rw[if_neg (by decide),if_neg (by decide)];refine .inr ⟨rfl,⟨?_,by show d1.off=true; rw[hcs3]; exact hoff,by show(s.dn || decide ((8:Int)≠0))=true; simp,fun L hL=>?_⟩,rfl,hcn'⟩
  ·have hwf':WfD N sz 300000 d1:=hwf.mono (by omega);exact⟨hwf',hlb.z1,hlb.z2,by show c1.first≤_; rw[hcs4]; exact hlb.cf,by show 1≤c1.n; rw[hcs4]; exact hlb.c1,by show c1.n≤_; rw[hcs4]; exact hlb.cn,by show c1.gen≤_; rw[hcs4]; exact hlb.cg,hlb.jf,hlb.ja,hlb.js⟩
  ·have hL' : ∀a,Poss (runOps s.d (saveOps sz (first+s.c.target*(count/2/2)) (encCn n') (s.c.gen+1))).1 a (L a):=fun a=>by rw[←hcs3]; exact hL a
   rcases hfin L hL' with e | e
   ·exact .inl ⟨rs,n0,⟨hjr L hL,h.fnd.fit,by rw[e]; omega,by rw[e,h.c]; exact h.fnd.cp,h.fnd.rep,h.fnd.rw,h.fnd.abs,h.fnd.ch⟩⟩
   ·exact .inr ⟨rs,n',⟨hjr L hL,h.fnd.fit,by rw[e]; show s.c.gen+1≤G+1; omega,by rw[e]; exact .inr ⟨by show 0<s.c.gen+1; omega,rfl,hn⟩,kE hn h.fnd.rw ha,h.fnd.rw,ha,fun k _=>wC hn h.fnd.rw ha k⟩⟩
open Go
set_option maxRecDepth 100000
theorem Fnd.mono {N sz first count G G':Nat}{L:Nat→List Int}{n:Con}{rs:List Rec}{n0:Con}(h:Fnd N sz first count G L n rs n0)(hG:G≤G'):Fnd N sz first count G' L n rs n0:=⟨h.holds,h.fit,Nat.le_trans h.gen hG,h.cp,h.rep,h.rw,h.abs,h.ch⟩
theorem Up.mono {N sz first count G G':Nat}{s:LS}{rs:List Rec}{n0:Con}(h:Up N sz first count G s rs n0)(hG:G≤G'):Up N sz first count G' s rs n0:=⟨h.wf,h.off,h.j,h.c,h.fnd.mono hG,h.dn⟩
theorem FindsL.mono {N sz first count G G':Nat}{L:Nat→List Int}{n:Con}(h:FindsL N sz first count G L n)(hG:G≤G'):FindsL N sz first count G' L n:=by
 obtain⟨rs,n0,h⟩:=h;exact⟨rs,n0,h.mono hG⟩
theorem Dn.mono {N sz first count G G':Nat}{s:LS}{n':Con}(h:Dn N sz first count G s n')(hG:G≤G'):Dn N sz first count G' s n':=⟨h.lb,h.off,h.dn,fun L hL=>(h.fin L hL).imp (·.mono hG) (·.mono hG)⟩
def rchange (area room:Nat)(m:Con×List (List Int))(n':Con)(rec:List Int):(Con×List (List Int))×Int:=
 if (stream (m.2 ++ [rec])).length≤area then ((n',m.2 ++ [rec]),0) else
 if room<(encCn n').length then (m,7) else ((n',[]),0)
def rcompact (room:Nat)(m:Con×List (List Int)):(Con×List (List Int))×Int:=if room<(encCn m.1).length then (m,7) else ((m.1,[]),0)
def areaG (sz count:Nat):Nat:=(count-count/2-1)*sz
def OpR (N sz first count G:Nat)(s:LS)(m:(Con×List (List Int))×Int)(q:LS×Int):Prop:=
 (q.2=m.2∧q.1.n=m.1.1∧(∃rs n0,Up N sz first count G q.1 rs n0∧rs.map encRc=m.1.2)∧q.2≠8∧(s.d.cnt=none→q.1.d.cnt=none))∨
 (q.2=8∧m.2=0∧Dn N sz first count G q.1 m.1.1∧q.1.n=s.n∧s.d.cnt≠none)
theorem nZ {N sz first count G:Nat}(g:Geo N sz first count){s:LS}{rs:List Rec}{n0:Con}(h:Up N sz first count G s rs n0){r:Rec}(hr:RecW r)(hn:ConS (applyR s.n r))(hG:G<4611686018427387904) :
 OpR N sz first count (G+1) s (rchange (areaG sz count) (roomG sz count) (s.n,rs.map encRc) (applyR s.n r) (encRc r)) (lchange s (applyR s.n r) (encRc r)):=by
 have em:(rs ++ [r]).map encRc=rs.map encRc ++ [encRc r]:=by rw[List.map_append]; rfl
 have hle:=kD h.cons hr;have ha:=aBn g h hr hn;rw[em] at ha;unfold lchange rchange;dsimp only;rcases ha with ⟨hful,e⟩ | ⟨hfit,ha⟩
 ·rw[if_neg (show ¬(stream (rs.map encRc ++ [encRc r])).length≤areaG sz count by unfold areaG; omega),e];rw[if_pos rfl];have es:({s with d:=s.d,j:=s.j}:LS)=s:=rfl;dsimp only;rcases wD g h hn (fun x hx=>(h.fnd.abs x hx).mono hle.1) hG with ⟨hf2,e2⟩ | ⟨hf2,⟨e0,hu,hnn,hc⟩ | ⟨e8,hd,hnn,hc⟩⟩
  ·rw[if_pos hf2];left;rw[show lsave ⟨s.d,s.j,s.c,s.n,s.dn⟩ (applyR s.n r)=(s,7) from e2];rw[if_neg (show ¬((s,(7:Int)).2=0) from(by decide : ¬(7:Int)=0))];exact⟨rfl,rfl,⟨rs,n0,h.mono (by omega),rfl⟩,(by decide:(7:Int)≠8),id⟩
  ·rw[if_neg (by omega)];left;rw[if_pos e0];exact⟨rfl,rfl,⟨[],_,hu,rfl⟩,(by decide:(0:Int)≠8),hc⟩
  ·rw[if_neg (by omega)];right;rw[if_neg (by show ¬(lsave s (applyR s.n r)).2=0; omega)];exact⟨e8,rfl,hd,hnn,hc⟩
 ·rw[if_pos (show(stream (rs.map encRc ++ [encRc r])).length≤areaG sz count from hfit)];rcases ha with ⟨e0,hu,hc⟩ | ⟨e8,hd,hc⟩
  ·left;rw[if_neg (show ¬(jappend (s.d,s.j) [encRc r]).2=7 by omega)];dsimp only;rw[if_pos e0];refine⟨rfl,rfl,⟨rs ++ [r],n0,?_,em⟩,(by decide:(0:Int)≠8),hc⟩;have hdn:(s.dn || decide ((jappend (s.d,s.j) [encRc r]).2≠0))=false:=by rw[h.dn,e0]; rfl
   unfold lfail;dsimp only;rw[hdn];exact hu.mono (by omega)
  ·right;rw[if_neg (show ¬(jappend (s.d,s.j) [encRc r]).2=7 by omega)];dsimp only;rw[if_neg (show ¬(jappend (s.d,s.j) [encRc r]).2=0 by omega)];have hdn:(s.dn || decide ((jappend (s.d,s.j) [encRc r]).2≠0))=true:=by rw[e8]; simp
   refine⟨e8,rfl,?_,rfl,hc⟩;unfold lfail;dsimp only;rw[hdn];exact hd.mono (by omega)
theorem aBo {N sz first count G:Nat}(g:Geo N sz first count){s:LS}{rs:List Rec}{n0:Con}(h:Up N sz first count G s rs n0)(hG:G<4611686018427387904) :
 OpR N sz first count (G+1) s (rcompact (roomG sz count) (s.n,rs.map encRc)) (lcompact s):=by
 unfold lcompact rcompact;rw[if_neg (show ¬s.dn=true by rw[h.dn]; decide)];dsimp only;rcases wD g h h.cons h.fnd.abs hG with ⟨hf2,e2⟩ | ⟨hf2,⟨e0,hu,hnn,hc⟩ | ⟨e8,hd,hnn,hc⟩⟩
 ·rw[if_pos hf2,e2];exact .inl ⟨rfl,rfl,⟨rs,n0,h.mono (by omega),rfl⟩,(by decide:(7:Int)≠8),id⟩
 ·rw[if_neg (show ¬roomG sz count<(encCn s.n).length by omega)];refine .inl ⟨e0,hnn,⟨[],s.n,?_,rfl⟩,by omega,hc⟩;obtain⟨q,hq⟩ : ∃q,q=(lsave s s.n).1:=⟨_,rfl⟩;rw[←hq] at hu hnn ⊢;have:({q with n:=s.n}:LS)=q:=by rw[←hnn]
  rw[←this];exact hu
 ·rw[if_neg (show ¬roomG sz count<(encCn s.n).length by omega)];exact .inr ⟨e8,rfl,hd,hnn,hc⟩
noncomputable def rextend (area room:Nat)(m:Con×List (List Int))(l:List Cmd):(Con×List (List Int))×Int:=
 if minC l m.1.st = [] then (m,0) else rchange area room m (joinN m.1 (minC l m.1.st)) (encRc (.ext (minC l m.1.st)))
def rrebase (area room:Nat)(m:Con×List (List Int))(b:Bas):(Con×List (List Int))×Int:=
 if (confB b).length≤(confB m.1.bas).length then (m,11) else rchange area room m (rebN m.1 b) (encRc (.reb b))
def rlive (area room:Nat)(m:Con×List (List Int)):(Con×List (List Int))×Int:=
 if 4611686018427387904≤m.1.life then (m,6) else rchange area room m {m.1 with life:=m.1.life+1} (encRc (.liv (m.1.life.toNat+1)))
theorem aBp {N sz first count G:Nat}(g:Geo N sz first count){s:LS}{rs:List Rec}{n0:Con}(h:Up N sz first count G s rs n0){l:List Cmd}(hx : ∀x,x∈l→CmdS x)(hl:l.length≤400000)(hn:ConS (joinN s.n (minC l s.n.st)))(hG:G<4611686018427387904) :
 OpR N sz first count (G+1) s (rextend (areaG sz count) (roomG sz count) (s.n,rs.map encRc) l) (lextend s l):=by
 unfold lextend rextend;rw[if_neg (show ¬s.dn=true by rw[h.dn]; decide)];dsimp only;by_cases h0:minC l s.n.st = []
 ·rw[if_pos h0,if_pos h0];exact .inl ⟨rfl,rfl,⟨rs,n0,h.mono (by omega),rfl⟩,by dsimp only; decide,id⟩
 ·rw[if_neg h0,if_neg h0];exact nZ g h (r:=.ext (minC l s.n.st)) ⟨fun x hm=>hx x (kA hx hm),kB hx,by have:=cV (l:=l) (m:=s.n.st); omega⟩ hn hG
theorem aBq {N sz first count G:Nat}(g:Geo N sz first count){s:LS}{rs:List Rec}{n0:Con}(h:Up N sz first count G s rs n0){b:Bas}(hx:BasS b)(hn:ConS (rebN s.n b))(hG:G<4611686018427387904) :
 OpR N sz first count (G+1) s (rrebase (areaG sz count) (roomG sz count) (s.n,rs.map encRc) b) (lrebase s b):=by
 unfold lrebase rrebase;rw[if_neg (show ¬s.dn=true by rw[h.dn]; decide)];dsimp only;by_cases h0:(confB b).length≤(confB s.n.bas).length
 ·rw[if_pos h0,if_pos h0];exact .inl ⟨rfl,rfl,⟨rs,n0,h.mono (by omega),rfl⟩,by dsimp only; decide,id⟩
 ·rw[if_neg h0,if_neg h0];exact nZ g h (r:=.reb b) ⟨hx.w,hx.ts,hx.to,by have:=hx.tl; omega,by have:=hx.bl; omega,hx.cl⟩ hn hG
theorem aBr {n:Con}(h:0≤n.life):applyR n (.liv (n.life.toNat+1)) = {n with life:=n.life+1}:=by
 show({n with life:=max n.life ((n.life.toNat+1:Nat):Int)}:Con)=_;have:max n.life ((n.life.toNat+1:Nat):Int)=n.life+1:=by omega
 rw[this]
theorem aBs {N sz first count G:Nat}(g:Geo N sz first count){s:LS}{rs:List Rec}{n0:Con}(h:Up N sz first count G s rs n0)(hn:ConS {s.n with life:=s.n.life+1})(hG:G<4611686018427387904) :
 OpR N sz first count (G+1) s (rlive (areaG sz count) (roomG sz count) (s.n,rs.map encRc)) (llive s):=by
 have hc:=h.cons.w.2.2;unfold llive rlive;rw[if_neg (show ¬s.dn=true by rw[h.dn]; decide)];dsimp only;by_cases h0:4611686018427387904≤s.n.life
 ·rw[if_pos h0,if_pos h0];exact .inl ⟨rfl,rfl,⟨rs,n0,h.mono (by omega),rfl⟩,by dsimp only; decide,id⟩
 ·rw[if_neg h0,if_neg h0];have e:=aBr (n:=s.n) hc.1;have:=nZ g h (r:=.liv (s.n.life.toNat+1)) (by show s.n.life.toNat+1≤_; omega) (by rw[e]; exact hn) hG;rw[e] at this;exact this
open Go
set_option maxRecDepth 100000
theorem Up.fail {N sz first count G:Nat}{s:LS}{rs:List Rec}{n0:Con}(h:Up N sz first count G s rs n0){k:Int}(hk:k<9223372036854775808):Up N sz first count G {s with d:=s.d.fail k} rs n0:=by
 have e:s.d.fail k = {s.d with cnt:=some (max k 0).toNat}:=by unfold DS.fail; rw[if_neg (by rw[h.off]; decide)]
 have hw:=h.wf.fail hk;rw[e] at hw ⊢;exact⟨hw,h.off,h.j,h.c,h.fnd,h.dn⟩
theorem Dn.fail {N sz first count G:Nat}{s:LS}{n':Con}(h:Dn N sz first count G s n'){k:Int}:Dn N sz first count G {s with d:=s.d.fail k} n':=by
 have e:s.d.fail k=s.d:=by unfold DS.fail; rw[if_pos h.off]
 rw[e];exact h
theorem Up.crash {N sz first count G:Nat}{s:LS}{rs:List Rec}{n0:Con}(h:Up N sz first count G s rs n0)(keep:List Bool):WfD N sz 0 (s.d.crash keep)∧Fnd N sz first count G (DurL (s.d.crash keep)) s.n rs n0:=by
 refine⟨h.wf.crash keep,?_⟩;have:DurL (s.d.crash keep)=DurL s.d:=funext fun a=>j9 h.cache rZ;rw[this];exact h.fnd
theorem Dn.crash {N sz first count G:Nat}{s:LS}{n':Con}(h:Dn N sz first count G s n')(keep:List Bool):WfD N sz 0 (s.d.crash keep)∧(FindsL N sz first count G (DurL (s.d.crash keep)) s.n∨FindsL N sz first count G (DurL (s.d.crash keep)) n'):=
 ⟨h.lb.wf.crash keep,h.fin _ fun _=>rZ⟩
theorem aBt:ConS con0:=⟨⟨fun x h=>by simp [con0] at h,dR,Int.le_refl 0,by show (0:Int)≤_; omega⟩,fun x h=>by simp [con0] at h,fG,fun x h=>by simp [con0] at h,fG,Nat.zero_le _,Nat.zero_le _,Nat.zero_le _⟩
theorem wE {N sz first count:Nat}(g:Geo N sz first count):Fnd N sz first count 0 (DurL (DS.new N sz)) con0 [] con0:=by
 have hc8:=g.c8;have hfc:=g.fc;have hgd:=GoodD.new g.dims;have hz : ∀a,a<N→DurL (DS.new N sz) a=List.replicate sz 0:=fun a ha=>aBX ha;have hop:openL (DurL (DS.new N sz)) first (count/2/2)=⟨first,count/2/2,1,[],0,false⟩:=aBW (by omega) (hz _ (by omega)) (hz _ (by omega))
 refine⟨hgd.holds,by rw[List.map_nil,cA]; exact Nat.zero_le _,by rw[hop]; exact Nat.le_refl _,by rw[hop]; exact .inl ⟨rfl,rfl⟩,rfl,fun r hr=>by simp at hr,fun r hr=>by simp at hr,fun k _=>?_⟩;rw[List.take_nil];exact aBt
theorem aBu {N sz first count G:Nat}{d:DS}{n:Con}{rs:List Rec}{n0:Con}(hw:WfD N sz 0 d)(hoff:d.off=false)(hf:Fnd N sz first count G (DurL d) n rs n0) :
 Up N sz first count G ⟨d,jsOf (first+count/2) (count-count/2) sz (rs.map encRc),openC d first (count/2/2),n,false⟩ rs n0:=by
 have hca:d.cache = []:=List.eq_nil_of_length_eq_zero (Nat.le_zero.1 hw.sz.few);refine⟨hw,hoff,rfl,?_,hf,rfl⟩;show openC d first (count/2/2)=_
 rw[aBK];exact jV fun a h1 h2=>gI hca
theorem kF : ∀{ls:List (List Int)},ls.length≤(stream ls).length
 | []=>Nat.zero_le _
 | l :: ls=>by
  have:=kF (ls:=ls);have h2:=aS l.length;rw[eE,List.length_append,List.length_cons];have:1≤(encB l).length:=by unfold encB; rw[List.length_append]; omega
  omega
set_option maxHeartbeats 1000000 in
theorem kG {w:World}(hK:KT w){D:Nat→Prop}{p:Nat}{d:DS}(h:IsDisk w D p d)(hD0 : ¬D 1){N sz first count G:Nat}(g:Geo N sz first count)(hw:WfD N sz 0 d)(hoff:d.off=false)(hG:G≤4611686018427387904){n:Con}{rs:List Rec}{n0:Con}(hf:Fnd N sz first count G (DurL d) n rs n0) :
 Ok (den Tryz.prog 11 #[.pointer (some ⟨p,0,none⟩),.int .i64 (first:Int),.int .i64 (count:Int)] w) fun v w'=>∃lb jb cb J s,v = .tuple #[.pointer (some ⟨lb,0,none⟩),.int .i64 0]∧(∀b,J b→w.heap.size≤b)∧LW w' D J p lb jb cb s∧Upd NoB w w'∧s.d=d∧s.n=n∧Up N sz first count G s rs n0:=by
 have hU:=aBu hw hoff hf;have hd:=g.dims;have hc8:=g.c8;have hz1:=g.z1;have hfc:=g.fc;have hgd:=hU.good;have hca:d.cache = []:=List.eq_nil_of_length_eq_zero (Nat.le_zero.1 hw.sz.few);have hfa:=hU.live.facts (sz:=sz) (n:=count/2/2) (by omega) (by omega) fun a ha=>(hw.durl ha).1;have hopen:=aBY hgd hd fun a ha=>by
  rw[hw.sz.size];exact(hw.content (by rw[←hw.sz.dur]; exact ha)).1
 have hop:openC d first (count/2/2)=openL (DurL d) first (count/2/2):=hU.c
 have har:=hd.area;have hfit:=hf.fit;have hroom:(count/2/2-1)*sz≤410000:=Nat.le_trans (Nat.mul_le_mul_right _ (by omega)) g.ar2;refine(aBl hK h hD0 hw.sz (by omega) g.n1 g.z1 g.z2 g.c8 g.fc g.ar2 (fun y hy=>hw.content hy) hw.rng hoff (j:=jsOf (first+count/2) (count-count/2) sz (rs.map encRc)) (rs:=rs) (n0:=n0) hopen (by show(stream (rs.map encRc)).length≤_; omega) (hgd.spl hd) ?_ ?_ ?_ ?_ ?_ ?_).mono ?_
 ·rw[hop]; exact hf.cp
 ·exact Nat.le_trans hfa.2.1 (by omega)
 ·exact hfa.1
 ·intro r hr;refine⟨hf.rw r hr,?_⟩;have:=lP (ls:=rs.map encRc) (l:=encRc r) (List.mem_map.2 ⟨r,hr,rfl⟩);omega
 ·intro k hk;have:=hf.ch k (by omega);exact⟨this.s,by have:=this.sl; omega,by have:=this.bl; omega,this.cl⟩
 ·have:=kF (ls:=rs.map encRc);rw[List.length_map] at this;omega
 ·rintro v w' ⟨lb,jb,cb,J,rfl,hJ,hL,hu⟩;rw[hf.rep] at hL;exact⟨lb,jb,cb,J,_,rfl,hJ,hL,hu,rfl,rfl,hU⟩
open Go
set_option maxRecDepth 100000
theorem aBv {ls:List (List Int)}{i:Nat}{x:List Int}(hx:ls[i]? =some x):stream (ls.take (i+1))=stream (ls.take i) ++ encB x:=bE (f:=encB) hx
set_option maxHeartbeats 2000000 in
theorem aBw {w:World}{F:Nat→Prop}{v:Value}{ls:List (List Int)}(hv:SlR w F v ls)(hl:(stream ls).length≤80000000) :
 Ok (den Tryz.prog 135 #[v] w) fun u w'=>u = .int .i64 ((stream ls).length:Nat)∧Upd NoB w w':=by
 have hv0:=hv;obtain⟨va,vc,rfl,hrec⟩:=hv;have hge:=kF (ls:=ls);refine aB (args:=[.slice va ls.length vc]) rs135 Tryz.func135 rfl mixed (by kernel_rfl) SE rfl ?_;simp(maxSteps:=3000000)(disch:=omega)only[push_cast,seval];refine aG (I:=fun k st w'=>Bx (∃(i:Nat),k+i=ls.length∧st = [.int .i64 ((stream (ls.take i)).length:Nat),.int .i64 (i:Int)]∧Upd NoB w w') ⟨⟩) ?_ ls.length ⟨0,rfl,by rw[List.take_zero,cA]; rfl,Upd.refl⟩;rintro k st w2 ⟨i,hk,rfl,u2⟩;by_cases hk0:k=0
 ·obtain rfl:i=ls.length:=by omega
  rw[List.take_length];simp(maxSteps:=3000000)(disch:=omega)only[push_cast,seval];exact u2
 have hi:i<ls.length:=by omega
 have hi':(i:Int)<(ls.length:Int):=by omega
 have hx:=List.getElem?_eq_getElem hi;generalize ls[i]=x at hx;have htk:=aBv hx;have hle:=aV (f:=encB) hx;rw[show ls.flatMap encB=stream ls from rfl,show(ls.take i).flatMap encB=stream (ls.take i) from rfl] at hle;have hlx:(encB x).length=(encU x.length).length+x.length:=by simp[encB]
 obtain⟨g,o,rfl,hg,_,h4⟩:=hrec (fun e=>by rw[e] at hi; simp at hi);obtain⟨u,h5,h6⟩:=h4 i x hx;obtain⟨ua,uc,rfl⟩:=h6.form;have hcl:w2.cell? ⟨g,o+i,none⟩=some (.slice ua x.length uc):=by rw[World.cell?_of_block (u2.block g hg fun h=>h)]; exact h5
 simp(maxSteps:=3000000)(disch:=omega)only[push_cast,seval,hi',hcl];refine Ok.use (cS (w:=w2) (F:=NoB) (y:=.slice none 0 0) (b:=[]) ⟨none,0,rfl,fun h=>absurd rfl h⟩ (h6.q u2) (by decide) (by omega)) ?_;rintro u w3 ⟨q3,_,u3⟩;rw[List.nil_append] at q3;obtain⟨xa3,xc3,rfl,_⟩:=q3.form;obtain⟨A,hA⟩ : ∃A,A=(stream (ls.take i)).length:=⟨_,rfl⟩;obtain⟨B,hB⟩ : ∃B,B=(encB x).length:=⟨_,rfl⟩;rw[←hA,←hB] at hle;rw[←hA,←hB];simp(maxSteps:=3000000)(disch:=omega)only[push_cast,seval];exact⟨k-1,by omega,i+1,by omega,by rw[htk,List.length_append,←hA,←hB]; rfl,u2.trans u3 fun _ _ h=>h⟩
def RW (w:World)(F:Nat→Prop)(mb area room:Nat)(m:Con×List (List Int)):Prop:=∃cs rv,Blk w mb (cs ++ [rv,.int .i64 (area:Int),.int .i64 (room:Int)]) 40∧eN.C w (fun b=>F b∨b=mb) m.1 cs∧SlR w (fun b=>F b∨b=mb) rv m.2
theorem RW.go {w w':World}{F F' G:Nat→Prop}{mb area room:Nat}{m:Con×List (List Int)}(h:RW w F mb area room m)(hu:Upd G w w')(hmb : ¬G mb)(hG : ∀b,b<w.heap.size→G b∨F' b→F b):RW w' F' mb area room m:=by
 obtain⟨cs,rv,h1,h2,h3⟩:=h;have hg : ∀b,b<w.heap.size→G b∨(F' b∨b=mb)→F b∨b=mb:=fun b hb h=>h.elim (fun h=>.inl (hG b hb (.inl h))) fun h=>h.elim (fun h=>.inl (hG b hb (.inr h))) .inr;exact⟨cs,rv,h1.upd hu hmb,aH.go h2 hu hg,h3.go hu hg⟩
theorem RW.lt {w:World}{F:Nat→Prop}{mb area room:Nat}{m:Con×List (List Int)}(h:RW w F mb area room m):mb<w.heap.size:=by
 obtain⟨cs,rv,h1,_⟩:=h;exact h1.lt
theorem wF {w:World}{mb:Nat}{cs cs' rest:List Value}(h:Blk w mb (cs ++ rest) 40)(h1:cs.length=4)(h2:cs'.length=4)(h3 : ∀u∈cs',u.oneCell'=true) :
 stS Tryz.prog 37 (.pointer (some ⟨mb,0,none⟩)) (.agg cs'.toArray) w=some (undef,w.setRow mb (cs' ++ rest).toArray):=by
 refine fX (by simp only[Value.cells,List.size_toArray]; rw[h2]; kernel_rfl) ?_;have:=jF (l:=cs') (o:=0) h (by rw[List.length_append]; omega) h3;rw[List.take_zero,List.nil_append,Nat.zero_add,h2,←h1,List.drop_left] at this;simpa[Value.cells] using this
set_option maxHeartbeats 4000000 in
theorem n9 {w:World}{F:Nat→Prop}{mb area room:Nat}{m:Con×List (List Int)}(h:RW w F mb area room m)(hF : ∀b,F b→b<w.heap.size)(har:area≤1073741824)(hro:room≤1000000){y:Value}{rec:List Int}(hy:SlB w (fun b=>F b∨b=mb) y rec){n':Con}{cs':List Value}(hc:eN.C w (fun b=>F b∨b=mb) n' cs')
 (hl1:(stream m.2).length≤900000) (hl2:rec.length≤900000) (hl3:(encCn n').length≤1000000) :
 Ok (den Tryz.prog 85 #[.pointer (some ⟨mb,0,none⟩),y,.agg cs'.toArray] w) fun u w'=>u = .int .i64 (rchange area room m n' rec).2∧RW w' F mb area room (rchange area room m n' rec).1∧Upd (fun b=>b=mb) w w':=by
 obtain⟨cs0,rv,hb0,hn0,hr0⟩:=h;obtain⟨xa,xc,sa,sc,ta,tc,rfl,k1,k2,k3⟩:=aO hc;obtain⟨xa0,xc0,sa0,sc0,ta0,tc0,rfl,_⟩:=aO hn0;obtain⟨ya,yc,rfl⟩:=hy.form;obtain⟨rva,rvc,rfl,_⟩:=id hr0;simp only[List.cons_append,List.nil_append] at hb0;have hge:=kF (ls:=m.2);refine aB (args:=[.pointer (some ⟨mb,0,none⟩),.slice ya rec.length yc,.agg #[.slice xa n'.st.length xc,.slice sa n'.bas.steps.length sc,.slice ta n'.bas.taken.length tc,.int .i64 n'.life]]) rs85 Tryz.func85 rfl mixed (by kernel_rfl) QZ rfl ?_;rw[aD];generalize hKs:KS _ _ _ _ _=Ks;simp(disch:=omega)only[push_cast,seval];have b0:=Blk.new (w:=w) (cs:=[.slice xa n'.st.length xc,.slice sa n'.bas.steps.length sc,.slice ta n'.bas.taken.length tc,.int .i64 n'.life]) (E:=37);have u0:Upd NoB w (w.alloc (.cells [.slice xa n'.st.length xc,.slice sa n'.bas.steps.length sc,.slice ta n'.bas.taken.length tc,.int .i64 n'.life].toArray 37 (0,0))):=Upd.alloc;generalize w.alloc (.cells [.slice xa n'.st.length xc,.slice sa n'.bas.steps.length sc,.slice ta n'.bas.taken.length tc,.int .i64 n'.life].toArray 37 (0,0))=w0 at *;subst hKs;rw[aC];have hmb:=hb0.lt;have b0l:=b0.lt;have cc : ∀{w':World} {G:Nat→Prop},Upd G w w'→¬G mb→∀j,w'.cell? ⟨mb,j,none⟩ = [Value.slice xa0 m.1.st.length xc0,.slice sa0 m.1.bas.steps.length sc0,.slice ta0 m.1.bas.taken.length tc0,.int .i64 m.1.life,.slice rva m.2.length rvc,.int .i64 (area:Int),.int .i64 (room:Int)][j]? :=fun u h j=>(hb0.upd u h).cell j;have nb : ¬NoB mb:=fun h=>h;have e1:=Blk.new (w:=w0) (cs:=[]) (E:=55);have u1:Upd NoB w0 (w0.alloc (.cells #[] 55 (0,0))):=Upd.alloc;have v1:=u0.trans u1 fun _ _ h=>h;have s0:=u0.size;have hF1 : ∀b,(F b∨b=mb)→b<w0.heap.size:=fun b hb=>hb.elim (fun hb=>by have:=hF b hb; omega) fun e=>by omega
 have r1:RowB (w0.alloc (.cells #[] 55 (0,0))) (fun b=>F b∨b=mb) (.slice (some ⟨w0.heap.size,0,none⟩) 0 0) []:=RowB.empty e1 fun hh=>by have:=hF1 _ hh; omega
 have hr1:SlR (w0.alloc (.cells #[] 55 (0,0))) (fun b=>(F b∨b=mb)∨(Value.slice (some ⟨w0.heap.size,0,none⟩) 0 0).ownBlock=some b) (.slice rva m.2.length rvc) m.2:=hr0.go v1 fun b hb h=>h.elim (fun h=>h.elim) fun h=>h.elim id fun h=>by
  have e:=aU h;omega
 have hF2 : ∀b,(F b∨b=mb)→b<(w0.alloc (.cells #[] 55 (0,0))).heap.size:=fun b hb=>by rw[aI]; have:=hF1 b hb; omega
 rw[aD];generalize hKs:KS _ _ _ _ _=Ks;simp(disch:=omega)only[push_cast,seval,cc v1 nb];generalize w0.alloc (.cells #[] 55 (0,0))=w1 at *;refine lH r1 hr1 (by simp only[List.length_nil]; omega) hF2 ?_;rintro v2 w2 r2 g2 f2;rw[List.nil_append] at r2;obtain⟨va2,vc2,rfl⟩:=r2.form;have s1:=u1.size;have g2':Upd NoB w0 w2:=u1.trans g2 fun b hb h=>by have e:=aU h; omega
 have v2:=u0.trans g2' fun _ _ h=>h;simp(maxSteps:=3000000)(disch:=omega)only[push_cast,seval];have s2:=v2.size;have hyy:SlB w2 (fun b=>(F b∨b=mb)∨(Value.slice va2 m.2.length vc2).ownBlock=some b) (.slice ya rec.length yc) rec:=by
  have hy0:=hy.go (F':=fun b=>F b∨b=mb) v2 fun b hb hh=>hh.elim (fun hh=>hh.elim) id;obtain⟨a',c',hv',hl'⟩:=hy.go (F':=fun b=>(F b∨b=mb)∨w.heap.size≤b) v2 fun b hb hh=>hh.elim (fun hh=>hh.elim) fun hh=>hh.elim id fun hh=>by omega
  refine⟨a',c',hv',fun h0=>?_⟩;obtain⟨b,o,p1,p2,p3⟩:=hl' h0;refine⟨b,o,p1,p2,fun hh=>p3 (hh.elim .inl fun hh=>.inr ?_)⟩;rcases f2 b hh with e | e
  ·have:=aU e; omega
  ·omega
 have hF3 : ¬((F w2.heap.size∨w2.heap.size=mb)∨(Value.slice va2 m.2.length vc2).ownBlock=some w2.heap.size):=fun hh=>by
  rcases hh with hh | hh
  ·have:=hF1 _ hh;have:=g2'.size;omega
  ·have:=r2.lt hh;omega
 have y3:=qY hyy hF3;have u3:Upd NoB w2 (w2.alloc (.cells [.slice ya rec.length yc].toArray 55 (0,0))):=Upd.alloc;have r3:RowB (w2.alloc (.cells [.slice ya rec.length yc].toArray 55 (0,0))) (fun b=>F b∨b=mb) (.slice va2 m.2.length vc2) m.2:=r2.go u3 fun b hb hh=>hh.elim (fun hh=>hh.elim) id;have hF4 : ∀b,(F b∨b=mb)→b<(w2.alloc (.cells [.slice ya rec.length yc].toArray 55 (0,0))).heap.size:=fun b hb=>by rw[aI]; have:=hF1 b hb; have:=g2'.size; omega
 refine lH r3 y3 (by simp only[List.length_singleton]; omega) hF4 ?_;have v3:=v2.trans u3 fun _ _ h=>h;generalize w2.alloc (.cells [.slice ya rec.length yc].toArray 55 (0,0))=w3 at *;rintro v4 w4 r4 g4 f4;obtain⟨va4,vc4,rfl⟩:=r4.form;have s3:=u3.size;have u04:Upd NoB w0 w4:=(g2'.trans u3 fun _ _ h=>h).trans g4 fun b hb hh=>by
  rcases f2 b hh with e | e
  ·have:=aU e; omega
  ·have:=u1.size; omega
 have v4:=u0.trans u04 fun _ _ h=>h;have b4:=b0.upd u04 fun h=>h;have l4 : ∀{w':World},Upd NoB w4 w'→ldS Tryz.prog 37 (.pointer (some ⟨w.heap.size,0,none⟩)) w'=some (.agg #[.slice xa n'.st.length xc,.slice sa n'.bas.steps.length sc,.slice ta n'.bas.taken.length tc,.int .i64 n'.life],w'):=fun u=>aJ (P:=Tryz.prog) (t:=37) (b4.upd u fun h=>h) (by kernel_rfl) (by kernel_rfl);have d4:Upd NoB w4 w4.drew:=Upd.drew;have hsl:(stream (m.2 ++ [rec])).length≤80000000:=by
  rw[cY,List.length_append,eE,cA,List.append_nil];have:=aL (n:=rec.length) (by omega);simp only[encB,List.length_append];omega
 simp(maxSteps:=3000000)(disch:=omega)only[push_cast,seval];subst hKs;rw[aC];simp(maxSteps:=3000000)(disch:=omega)only[push_cast,seval,↓aE,↓aF,cc v4 nb,cc v4.drew' nb];refine Ok.use (aBw (r4.slr.go (F':=NoB) d4 fun _ _ hh=>hh.elim (fun hh=>hh.elim) fun hh=>hh.elim) hsl) ?_;rintro u w5 ⟨rfl,u5⟩;have v5:=v4.drew'.trans u5 fun _ _ h=>h;have d5:=d4.trans u5 fun _ _ h=>h;have bb : ∀{w':World} {G:Nat→Prop},Upd G w5 w'→¬G w.heap.size→∀j,w'.cell? ⟨w.heap.size,j,none⟩ = [Value.slice xa n'.st.length xc,.slice sa n'.bas.steps.length sc,.slice ta n'.bas.taken.length tc,.int .i64 n'.life][j]? :=fun u h j=>((b4.upd d5 fun h=>h).upd u h).cell j;have nb2 : ¬NoB w.heap.size:=fun h=>h;have d6:Upd NoB w5 w5.drew:=Upd.drew;have hb5:Blk w5.drew mb ([Value.slice xa0 m.1.st.length xc0,.slice sa0 m.1.bas.steps.length sc0,.slice ta0 m.1.bas.taken.length tc0,.int .i64 m.1.life] ++ [.slice rva m.2.length rvc,.int .i64 (area:Int),.int .i64 (room:Int)]) 40:=hb0.upd v5.drew' nb;have hones : ∀u∈[Value.slice xa n'.st.length xc,.slice sa n'.bas.steps.length sc,.slice ta n'.bas.taken.length tc,.int .i64 n'.life],u.oneCell'=true:=fun u hu=>by simp at hu; rcases hu with rfl | rfl | rfl | rfl <;> rfl
 have hcn : ∀{w':World},Upd (fun b=>b=mb) w w'→eN.C w' (fun b=>F b∨b=mb) n' [.slice xa n'.st.length xc,.slice sa n'.bas.steps.length sc,.slice ta n'.bas.taken.length tc,.int .i64 n'.life]:=fun u=>aH.go hc u fun b _ hh=>hh.elim .inr id;obtain⟨A,hA⟩ : ∃A,A=(stream (m.2 ++ [rec])).length:=⟨_,rfl⟩;unfold rchange;rw[←hA] at hsl ⊢;by_cases hfit:A≤area
 ·have hfit':(A:Int)≤(area:Int):=by omega
  rw[if_pos hfit];have hb6:=hb5.set 4 (.slice va4 (m.2 ++ [rec]).length vc4);simp only[List.cons_append,List.nil_append,List.set_cons_succ,List.set_cons_zero] at hb6;rw[kZ] at hb6;have u6:Upd (fun b=>b=mb) w5 (w5.setCell ⟨mb,4,none⟩ (.slice va4 (m.2 ++ [rec]).length vc4)).drew:=Upd.drew.setIn (w1:=w5.drew) (a:=⟨mb,4,none⟩) rfl;generalize hV:(w5.setCell ⟨mb,4,none⟩ (.slice va4 (m.2 ++ [rec]).length vc4)).drew=w6 at *;have nb3 : ¬w.heap.size=mb:=by omega
  have hst:=wF (cs:=[Value.slice xa0 m.1.st.length xc0,.slice sa0 m.1.bas.steps.length sc0,.slice ta0 m.1.bas.taken.length tc0,.int .i64 m.1.life]) (rest:=[.slice va4 (m.2 ++ [rec]).length vc4,.int .i64 (area:Int),.int .i64 (room:Int)]) hb6 rfl rfl hones;have hb5f:=hb5.free;simp(maxSteps:=3000000)(disch:=omega)only[push_cast,seval,↓aE,↓aF,cc v4 nb,cc v4.drew' nb,cc v5 nb,hfit',bb d6 nb2,cc v5.drew' nb,hb5f,hV,bb u6 nb3,hst];have v6:Upd (fun b=>b=mb) w w6:=(v5.mono (G:=fun b=>b=mb) fun _ _ h=>h.elim).trans u6 fun _ _ h=>h;have u7:Upd (fun b=>b=mb) w6 (w6.setRow mb #[Value.slice xa n'.st.length xc,.slice sa n'.bas.steps.length sc,.slice ta n'.bas.taken.length tc,.int .i64 n'.life,.slice va4 (m.2 ++ [rec]).length vc4,.int .i64 (area:Int),.int .i64 (room:Int)]):=Upd.setRow rfl;have v7:=v6.trans u7 fun _ _ h=>h;refine⟨⟨_,_,hb6.setRow (cs':=[Value.slice xa n'.st.length xc,.slice sa n'.bas.steps.length sc,.slice ta n'.bas.taken.length tc,.int .i64 n'.life,.slice va4 (m.2 ++ [rec]).length vc4,.int .i64 (area:Int),.int .i64 (room:Int)]),hcn v7,?_⟩,v7⟩;exact r4.slr.go (((d5.mono (G:=fun b=>b=mb) fun _ _ h=>h.elim).trans u6 fun _ _ h=>h).trans u7 fun _ _ h=>h) fun b _ hh=>hh.elim .inr id
 have hfit' : ¬(A:Int)≤(area:Int):=by omega
 rw[if_neg hfit];simp(maxSteps:=3000000)(disch:=omega)only[push_cast,seval,↓aE,↓aF,cc v4 nb,cc v4.drew' nb,cc v5 nb,hfit',bb d6 nb2,cc v5.drew' nb];have hc5:eN.C w5.drew NoB n' _:=aH.q hc v5.drew';refine Ok.use (uM hc5 (by omega)) ?_;rintro u w6 ⟨q6,f6,u6⟩;obtain⟨xa6,xc6,rfl,_⟩:=q6.form;have v6:=v5.drew'.trans u6 fun _ _ h=>h;have d7:=d6.trans u6 fun _ _ h=>h;obtain⟨B,hB⟩ : ∃B,B=(encCn n').length:=⟨_,rfl⟩;rw[←hB] at hl3 ⊢;by_cases hbig:room<B
 ·have hbig':(room:Int)<(B:Int):=by omega
  rw[if_pos hbig];simp(maxSteps:=3000000)(disch:=omega)only[push_cast,seval,↓aE,↓aF,cc v4 nb,cc v4.drew' nb,cc v5 nb,hfit',bb d6 nb2,bb d7 nb2,cc v5.drew' nb,cc v6 nb,hbig'];have hRW:RW w F mb area room m:=⟨_,_,hb0,hn0,hr0⟩;exact⟨hRW.go v6 nb fun b _ hh=>hh.elim (fun hh=>hh.elim) id,v6.mono fun _ _ h=>h.elim⟩
 have hbig' : ¬(room:Int)<(B:Int):=by omega
 rw[if_neg hbig];have hb6:Blk w6.drew mb ([Value.slice xa0 m.1.st.length xc0,.slice sa0 m.1.bas.steps.length sc0,.slice ta0 m.1.bas.taken.length tc0,.int .i64 m.1.life] ++ [.slice rva m.2.length rvc,.int .i64 (area:Int),.int .i64 (room:Int)]) 40:=hb0.upd v6.drew' nb;have hb7:=hb6.set 4 (.slice none 0 0);simp only[List.cons_append,List.nil_append,List.set_cons_succ,List.set_cons_zero] at hb7;rw[kZ] at hb7;have u7:Upd (fun b=>b=mb) w6 (w6.setCell ⟨mb,4,none⟩ (.slice none 0 0)).drew:=Upd.drew.setIn (w1:=w6.drew) (a:=⟨mb,4,none⟩) rfl;have hb6f:=hb6.free;generalize hV:(w6.setCell ⟨mb,4,none⟩ (.slice none 0 0)).drew=w7 at *;have d8:Upd (fun b=>b=mb) w5 w7:=(d7.mono (G:=fun b=>b=mb) fun _ _ h=>h.elim).trans u7 fun _ _ h=>h;have nb3 : ¬w.heap.size=mb:=by omega
 have hst:=wF (cs:=[Value.slice xa0 m.1.st.length xc0,.slice sa0 m.1.bas.steps.length sc0,.slice ta0 m.1.bas.taken.length tc0,.int .i64 m.1.life]) (rest:=[.slice none 0 0,.int .i64 (area:Int),.int .i64 (room:Int)]) hb7 rfl rfl hones;simp(maxSteps:=3000000)(disch:=omega)only[push_cast,seval,↓aE,↓aF,cc v4 nb,cc v4.drew' nb,cc v5 nb,hfit',bb d6 nb2,bb d7 nb2,bb d7.drew' nb2,bb d8 nb3,cc v5.drew' nb,cc v6 nb,cc v6.drew' nb,hbig',hb6f,hV,hst];have v7:Upd (fun b=>b=mb) w w7:=(v6.mono (G:=fun b=>b=mb) fun _ _ h=>h.elim).trans u7 fun _ _ h=>h;have u8:Upd (fun b=>b=mb) w7 (w7.setRow mb #[Value.slice xa n'.st.length xc,.slice sa n'.bas.steps.length sc,.slice ta n'.bas.taken.length tc,.int .i64 n'.life,.slice none 0 0,.int .i64 (area:Int),.int .i64 (room:Int)]):=Upd.setRow rfl;have v8:=v7.trans u8 fun _ _ h=>h;exact⟨⟨_,_,hb7.setRow (cs':=[Value.slice xa n'.st.length xc,.slice sa n'.bas.steps.length sc,.slice ta n'.bas.taken.length tc,.int .i64 n'.life,.slice none 0 0,.int .i64 (area:Int),.int .i64 (room:Int)]),hcn v8,SlR.nil⟩,v8⟩
end Go.Proofs.YtpgigkceoolgeaaGreatDoor.Fd
