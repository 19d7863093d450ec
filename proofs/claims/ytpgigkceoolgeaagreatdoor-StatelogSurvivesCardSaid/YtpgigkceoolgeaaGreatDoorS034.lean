import Derived.Test.YtpgigkceoolgeaaGreatDoorS033
set_option linter.all false
namespace Go.Proofs.YtpgigkceoolgeaaGreatDoor.Fd
open Go
set_option maxRecDepth 100000
theorem wL {w:World}{D J:Nat→Prop}{p lb jb cb:Nat}{s:LS}(h:LW w D J p lb jb cb s){N sz i t:Nat}(hb:LB N sz i s)(hi:i≤300000)(hs:SmN t s.n)(ht:t≤28){y:Value}{l:List Cmd}(hy:SlD eC w (FF D J) y l)(ho:POpB (.ext l)) :
 Ok (den Tryz.prog 34 #[.pointer (some ⟨lb,0,none⟩),y] w) fun u w'=>u = .int .i64 (lop s (.ext l)).2∧∃D',LW w' D' J p lb jb cb (lop s (.ext l)).1∧LT w w' D D' J:=by
 have hm:=fH (m:=s.n.st) ho.1;have hml:=cV (l:=l) (m:=s.n.st);have ho2:=ho.2;have hj:=hs.join hm (by omega);have h1:=hj.len (by omega);have h2:=dS hm (by omega);have h3:(minC l s.n.st).length*2010≤6*2010:=Nat.mul_le_mul_right _ (by omega);exact aB9 h hb hi (hs.cons (by omega)) hy (fun x hx=>(ho.1 x hx).s) (by omega) (by omega) (by omega)
theorem wM {w:World}{D J:Nat→Prop}{p lb jb cb:Nat}{s:LS}(h:LW w D J p lb jb cb s){N sz i t:Nat}(hb:LB N sz i s)(hi:i≤300000)(hs:SmN t s.n)(ht:t≤28){b:Bas}{bs:List Value}(hy:eB.C w (FF D J) b bs)(ho:BasB b) :
 Ok (den Tryz.prog 35 #[.pointer (some ⟨lb,0,none⟩),.agg bs.toArray] w) fun u w'=>u = .int .i64 (lop s (.reb b)).2∧∃D',LW w' D' J p lb jb cb (lop s (.reb b)).1∧LT w w' D D' J:=by
 have h1:=(hs.reb ho).len (by omega);have h2:=ho.l;exact aBa h hb hi (hs.cons (by omega)) hy ho.s (by omega) (by omega)
theorem oE {w:World}{D J:Nat→Prop}{p lb jb cb:Nat}{s:LS}(h:LW w D J p lb jb cb s){N sz i t:Nat}(hb:LB N sz i s)(hi:i≤300000)(hs:SmN t s.n)(ht:t≤28) :
 Ok (den Tryz.prog 33 #[.pointer (some ⟨lb,0,none⟩)] w) fun u w'=>u = .int .i64 (lop s .liv).2∧∃D',LW w' D' J p lb jb cb (lop s .liv).1∧LT w w' D D' J:=by
 have h1:=hs.len (by omega);have h2:=cK (c:=s.n);have h0:=hs.l1;have h3:=aL (n:=(s.n.life+1).toNat) (by omega);refine aBb h hb hi (hs.cons (by omega)) ?_;rw[cK];show(encU (s.n.life+1).toNat).length+(encBs s.n.bas).length+(encL s.n.st).length≤1000000;omega
theorem wN {w:World}{D J:Nat→Prop}{p lb jb cb:Nat}{s:LS}(h:LW w D J p lb jb cb s){N sz i t:Nat}(hb:LB N sz i s)(hi:i≤300000)(hs:SmN t s.n)(ht:t≤28) :
 Ok (den Tryz.prog 36 #[.pointer (some ⟨lb,0,none⟩)] w) fun u w'=>u = .int .i64 (lop s .cmp).2∧∃D',LW w' D' J p lb jb cb (lop s .cmp).1∧LT w w' D D' J:=by
 have h1:=hs.len (by omega);exact aBc h hb hi (by omega)
theorem LT.new_ {w w1 w2:World}{D D' J:Nat→Prop}(h:LT w1 w2 D D' J)(hD : ∀b,D b→w.heap.size≤b)(hJ : ∀b,J b→w.heap.size≤b)(hu:Upd NoB w w1):Upd NoB w w2∧∀b,D' b→w.heap.size≤b:=by
 have hs:=hu.size;refine⟨hu.trans h.upd fun b hb hh=>?_,fun b hb=>?_⟩
 ·rcases hh with hh | hh
  ·have:=hD b hh; omega
  ·have:=hJ b hh; omega
 ·rcases h.new b hb with hh | hh
  ·exact hD b hh
  ·omega
def cmd0:Cmd:=⟨1,1,2,[],0,[]⟩
theorem wO:(encC cmd0).length≤60:=by
 have h : ∀n:Int,I64 n→(encI n).length≤10:=fun n h=>bQ h;have h1:=h 1 ⟨by decide,by decide⟩;have h2:=h 2 ⟨by decide,by decide⟩;have h0:=h 0 ⟨by decide,by decide⟩;have h3:=aL (n:=0) (by decide);show(encI 1 ++ encI 1 ++ encI 2 ++ encU 0 ++ [] ++ encI 0 ++ (encU 0 ++ [])).length≤60;simp only[List.length_append,List.length_nil];omega
theorem wP:CmdB cmd0:=⟨⟨⟨by decide,by decide⟩,⟨by decide,by decide⟩,⟨by decide,by decide⟩,⟨by decide,by decide⟩,fun x h=>by simp [cmd0] at h,fun x h=>by simp [cmd0] at h⟩,by have:=wO; omega⟩
theorem wQ : ∀x,x∈[cmd0]→CmdB x:=fun x h=>by simp at h; subst h; exact wP
theorem aCF {x:Cmd}:SrtC [x]:=fun i a b h1 h2=>by simp at h2
theorem wR:ofC [cmd0] = [cmd0]:=mT (fun x h=>(wQ x h).s) aCF
theorem aCG:minC [cmd0] [] = [cmd0]:=by
 unfold minC;rw[wR,show ofC [] = [] from rfl];simp
theorem wT:(encL [cmd0]).length≤80:=by
 rw[cJ];have h1:=wO;have h2:=aL (n:=[cmd0].length) (by decide);have h3:=aL (n:=(encC cmd0).length) (by omega);simp only[List.flatMap_cons,List.flatMap_nil,List.append_nil,encB,List.length_append];omega
theorem kJ {l:List Int}(h:l.length≤1000):(stream [l]).length≤10+l.length:=by
 have:=aL (n:=l.length) (by omega);simp only[stream,List.flatMap_cons,List.flatMap_nil,List.append_nil,encB,List.length_append];omega
theorem oF {k:Nat}(h:k≤10):(encRc (.liv k)).length≤20:=by
 have h1:=aL (n:=3) (by decide);have h2:=aL (n:=k) (by omega);show(encU 3 ++ encU k).length≤20;rw[List.length_append]; omega
def con1:Con:=⟨[],⟨[],[]⟩,1⟩
def con2:Con:=⟨[cmd0],⟨[],[]⟩,1⟩
def con3:Con:=⟨[cmd0],⟨[],[]⟩,2⟩
theorem aw1:rop (areaG 64 16) (roomG 64 16) (con0,[]) .liv=((con1,[encRc (.liv 1)]),0):=by
 show rlive _ _ _=_;unfold rlive;rw[if_neg (by decide)];unfold rchange;rw[if_pos]
 ·rfl
 ·have h1:=oF (k:=1) (by decide);have h2:=kJ (l:=encRc (.liv 1)) (by omega);show(stream [encRc (.liv 1)]).length≤448;omega
theorem aw2:rop (areaG 64 16) (roomG 64 16) (con1,[encRc (.liv 1)]) (.ext [cmd0])=((con2,[encRc (.liv 1),encRc (.ext [cmd0])]),0):=by
 show rextend _ _ _ _=_;unfold rextend;rw[show(con1,[encRc (.liv 1)]).1.st = [] from rfl,aCG,if_neg (by simp)];unfold rchange;have e:joinN con1 [cmd0]=con2:=by
  unfold joinN con2 con1;rw[List.nil_append,wR]
 rw[if_pos,e]
 ·rfl
 ·have h1:=oF (k:=1) (by decide);have h2:=kJ (l:=encRc (.liv 1)) (by omega);have h3:=wT;have h4:=aL (n:=1) (by decide);have h5:(encRc (.ext [cmd0])).length≤90:=by
   show(encU 1 ++ encL [cmd0]).length≤90;rw[List.length_append]; omega
  have h6:=kJ (l:=encRc (.ext [cmd0])) (by omega);show(stream ([encRc (.liv 1)] ++ [encRc (.ext [cmd0])])).length≤448;rw[cY,List.length_append];omega
theorem aw3 {m:List (List Int)}:rop (areaG 64 16) (roomG 64 16) (con2,m) (.reb ⟨[],[]⟩)=((con2,m),11):=by
 show rrebase _ _ _ _=_;unfold rrebase;exact if_pos (Nat.le_refl _)
theorem aw4 {m:List (List Int)}:rop (areaG 64 16) (roomG 64 16) (con2,m) .cmp=((con2,[]),0):=by
 show rcompact _ _=_;unfold rcompact;rw[if_neg];have h1:=wT;have h2:=kI;have h3:(encBs ⟨[],[]⟩).length≤20:=by
  rw[cE];have:=aL (n:=0) (by decide);simp only[encL,List.flatMap_nil,List.length_nil,List.append_nil];omega
 have h4:=aL (n:=(1:Int).toNat) (by decide);show ¬192<(encCn con2).length;rw[cK];show ¬192<(encU (1:Int).toNat).length+(encBs ⟨[],[]⟩).length+(encL [cmd0]).length;omega
theorem aw5:rop (areaG 64 16) (roomG 64 16) (con2,[]) .liv=((con3,[encRc (.liv 2)]),0):=by
 show rlive _ _ _=_;unfold rlive;rw[if_neg (by decide)];unfold rchange;rw[if_pos]
 ·rfl
 ·have h1:=oF (k:=2) (by decide);have h2:=kJ (l:=encRc (.liv 2)) (by omega);show(stream [encRc (.liv 2)]).length≤448;omega
theorem iB {N sz first count G t:Nat}(g:Geo N sz first count){s:LS}{rs:List Rec}{n0:Con}(h:Up N sz first count G s rs n0)(hG:G<4611686018427387904)(hs:SmN t s.n)(ht:t≤28){o:POp}(ho:POpB o)(hc:s.d.cnt=none){m:(Con×List (List Int))×Int}(hm:rop (areaG sz count) (roomG sz count) (s.n,rs.map encRc) o=m) :
 (lop s o).2=m.2∧(lop s o).1.n=m.1.1∧(∃rs n0,Up N sz first count (G+1) (lop s o).1 rs n0∧rs.map encRc=m.1.2)∧(lop s o).1.d.cnt=none∧SmN (t+1) (lop s o).1.n:=by
 have o1:=wK g h hG hs ht ho;have hsm:=wJ (area:=areaG sz count) (room:=roomG sz count) (m:=(s.n,rs.map encRc)) hs ho;rw[hm] at o1 hsm;rcases o1 with ⟨e1,en1,hu,_,c1⟩ | ⟨_,_,_,_,hh⟩
 ·exact⟨e1,en1,hu,c1 hc,by rw[en1]; exact hsm⟩
 ·exact absurd hc hh
theorem aCH (w:World):bldS Tryz.prog 76 #[(0,.int .i64 1),(1,.int .i64 1),(2,.int .i64 2)] w=some (.agg #[.int .i64 1,.int .i64 1,.int .i64 2,.slice none 0 0,.int .i64 0,.slice none 0 0],w):=by kernel_rfl
theorem aCI (w:World):bslS Tryz.prog 32 1 #[(0,.agg #[.int .i64 1,.int .i64 1,.int .i64 2,.slice none 0 0,.int .i64 0,.slice none 0 0])] w=some (.slice (some ⟨w.heap.size,0,none⟩) 1 1,w.alloc (.cells #[.int .i64 1,.int .i64 1,.int .i64 2,.slice none 0 0,.int .i64 0,.slice none 0 0] 76 (0,0))):=by kernel_rfl
theorem aCJ (w:World):bldS Tryz.prog 35 #[] w=some (.agg #[.slice none 0 0,.slice none 0 0],w):=by kernel_rfl
theorem aCK {a b:Option Addr}{n c n' c':Nat}{w:World}:fgtS Tryz.prog 35 (.agg #[.slice a n c,.slice b n' c']) 0 w=some (.slice a n c,w):=by kernel_rfl
set_option maxHeartbeats 8000000 in
theorem aCL {w:World}(hK:KT w):Ok (den Tryz.prog 8 #[] w) fun v w'=>v = .bool true∧Upd (fun _=>False) w w':=by
 refine aB (args:=[]) rs8 Tryz.func8 rfl mixed (by kernel_rfl) ok8 rfl ?_;simp(maxSteps:=3000000)(disch:=omega)only[push_cast,seval];refine Ok.use (qP (n:=16) (size:=64) (by omega) (by omega) (by omega) (by omega)) ?_;rintro v w1 ⟨p,rfl,hd,u1⟩;have hgr : ∀b,gr (fun _=>False) w w1 b→w.heap.size≤b:=fun b hb=>hb.elim (fun h=>h.elim) fun h=>h.1;have hk1:=hK.1;have g:Geo 16 64 0 16:=⟨by decide,by decide,by decide,by decide,by decide,by decide,by decide⟩;simp(maxSteps:=3000000)(disch:=omega)only[push_cast,seval];refine Ok.use (kG (hK.upd u1 fun h=>h) hd (fun h=>by have:=hgr 1 h; omega) g WfD.new rfl (by decide) (wE g)) ?_;rintro v w2 ⟨lb,jb,cb,J,s,rfl,hJ,hL,u2,hsd,hsn,hU⟩;simp(maxSteps:=3000000)(disch:=omega)only[push_cast,seval];refine Ok.use (kC hL) ?_;rintro v w3 ⟨rfl,rfl⟩;rw[hsn];rw[show con0.life=0 from rfl];have hcn:s.d.cnt=none:=by rw[hsd]; rfl
 have hs0:SmN 0 s.n:=by rw[hsn]; exact wI
 obtain⟨e1,en1,⟨rs1,k1,hU1,er1⟩,c1,sm1⟩:=iB g hU (by decide) hs0 (by decide) (o:=.liv) trivial hcn (m:=((con1,[encRc (.liv 1)]),0)) (by rw[hsn]; exact aw1);simp(maxSteps:=3000000)(disch:=omega)only[push_cast,seval];refine Ok.use (oE hL (hU.lb g) (by decide) hs0 (by decide)) ?_;rintro v w3 ⟨rfl,D3,h3,l3⟩;rw[e1];generalize (lop s .liv).1=s1 at *;dsimp only at en1 er1 sm1;simp(maxSteps:=3000000)(disch:=omega)only[push_cast,seval,aCH,aCI];have b4:=Blk.new (w:=w3) (cs:=[.int .i64 1,.int .i64 1,.int .i64 2,.slice none 0 0,.int .i64 0,.slice none 0 0]) (E:=76);have u4:Upd NoB w3 (w3.alloc (.cells #[.int .i64 1,.int .i64 1,.int .i64 2,.slice none 0 0,.int .i64 0,.slice none 0 0] 76 (0,0))):=Upd.alloc;generalize w3.alloc (.cells #[.int .i64 1,.int .i64 1,.int .i64 2,.slice none 0 0,.int .i64 0,.slice none 0 0] 76 (0,0))=w4 at *;have h4:=h3.quiet u4;have hsl:SlD eC w4 (FF D3 J) (.slice (some ⟨w3.heap.size,0,none⟩) 1 1) [cmd0]:=⟨_,_,rfl,Nat.le_refl _,fun _=>⟨_,_,rfl,b4.lt,fun hh=>by have:=h3.bd hh; omega,fun j x hx=>by
  cases j with
  | succ j=>simp at hx
  | zero=>
   simp at hx;subst hx;exact⟨[.int .i64 1,.int .i64 1,.int .i64 2,.slice none 0 0,.int .i64 0,.slice none 0 0],⟨_,_,rfl,SlD.nil,⟨none,0,rfl,fun h=>absurd rfl h⟩,wP.w⟩,fun r hr=>by
    have:=b4.cell r;rw[Nat.zero_mul,Nat.add_zero,Nat.zero_add];exact this⟩⟩⟩
 have ho2:POpB (.ext [cmd0]):=⟨wQ,by decide⟩;obtain⟨e2,en2,⟨rs2,k2,hU2,er2⟩,c2,sm2⟩:=iB g hU1 (by decide) sm1 (by decide) (o:=.ext [cmd0]) ho2 c1 (m:=((con2,[encRc (.liv 1),encRc (.ext [cmd0])]),0)) (by rw[en1,er1]; exact aw2);refine Ok.use (wL h4 (hU1.lb g) (by decide) sm1 (by decide) hsl ho2) ?_;rintro v w5 ⟨rfl,D5,h5,l5⟩;rw[e2];generalize (lop s1 (.ext [cmd0])).1=s2 at *;dsimp only at en2 er2 sm2;simp(maxSteps:=3000000)(disch:=omega)only[push_cast,seval,aCJ];obtain⟨e3,en3,⟨rs3,k3,hU3,er3⟩,c3,sm3⟩:=iB g hU2 (by decide) sm2 (by decide) (o:=.reb ⟨[],[]⟩) kI c2 (m:=((con2,[encRc (.liv 1),encRc (.ext [cmd0])]),11)) (by rw[en2,er2]; exact aw3);refine Ok.use (wM h5 (hU2.lb g) (by decide) sm2 (by decide) (b:=⟨[],[]⟩) (bs:=[.slice none 0 0,.slice none 0 0]) ⟨_,_,rfl,SlD.nil,SlD.nil,dR⟩ kI) ?_;rintro v w6 ⟨rfl,D6,h6,l6⟩;rw[e3];generalize (lop s2 (.reb ⟨[],[]⟩)).1=s3 at *;dsimp only at en3 er3 sm3;simp(maxSteps:=3000000)(disch:=omega)only[push_cast,seval];obtain⟨e4,en4,⟨rs4,k4,hU4,er4⟩,c4,sm4⟩:=iB g hU3 (by decide) sm3 (by decide) (o:=.cmp) trivial c3 (m:=((con2,[]),0)) (by rw[en3,er3]; exact aw4);refine Ok.use (wN h6 (hU3.lb g) (by decide) sm3 (by decide)) ?_;rintro v w7 ⟨rfl,D7,h7,l7⟩;rw[e4];generalize (lop s3 .cmp).1=s4 at *;dsimp only at en4 er4 sm4;simp(maxSteps:=3000000)(disch:=omega)only[push_cast,seval];refine Ok.use (iA h7) ?_;rintro v w8 ⟨rfl,rfl⟩;rw[hU4.dn];have hJw : ∀b,J b→w.heap.size≤b:=fun b hb=>Nat.le_trans u1.size (hJ b hb);have v2:=u1.trans u2 fun _ _ h=>h;obtain⟨v3,d3⟩:=l3.new_ hgr hJw v2;have v4:=v3.trans u4 fun _ _ h=>h;obtain⟨v5,d5⟩:=l5.new_ d3 hJw v4;obtain⟨v6,d6⟩:=l6.new_ d5 hJw v5;obtain⟨v7,d7⟩:=l7.new_ d6 hJw v6;simp(maxSteps:=3000000)(disch:=omega)only[push_cast,seval];refine Ok.use (qN h7.jw.disk (by rw[hU4.cache]; decide) (v:=.slice none 0 0) (l:=[]) ⟨none,0,rfl,fun h=>absurd rfl h⟩) ?_;rintro v w8 ⟨hd8,u8⟩;have k7:=h7.cw.k0.1;have hK8:KT w8:=h7.cw.kt.upd u8 k7;have hd81 : ¬gr D7 w7 w8 1:=fun hh=>hh.elim k7 fun hh=>by have:=h7.cw.kt.1; omega
 have v8:Upd NoB w w8:=v7.trans u8 fun b hb hh=>by have:=d7 b hh; omega
 have d8 : ∀b,gr D7 w7 w8 b→w.heap.size≤b:=fun b hh=>hh.elim (d7 b) fun hh=>by have:=v7.size; omega
 have hcr:=hU4.crash [];simp(maxSteps:=3000000)(disch:=omega)only[push_cast,seval];refine Ok.use (kG hK8 hd8 hd81 g hcr.1 rfl (by decide) hcr.2) ?_;rintro v w9 ⟨lb2,jb2,cb2,J2,s5,rfl,hJ2,h9,u9,hsd5,hsn5,hU5⟩;have v9:=v8.trans u9 fun _ _ h=>h;have hJ2w : ∀b,J2 b→w.heap.size≤b:=fun b hb=>Nat.le_trans v8.size (hJ2 b hb);have en5:s5.n=con2:=by rw[hsn5,en4]
 have c5:s5.d.cnt=none:=by rw[hsd5]; rfl
 have sm5:SmN 4 s5.n:=by rw[hsn5]; exact sm4
 simp(maxSteps:=3000000)(disch:=omega)only[push_cast,seval];refine Ok.use (kC h9) ?_;rintro v w10 ⟨rfl,rfl⟩;rw[show s5.n.life=1 by rw[en5]; rfl];simp(maxSteps:=3000000)(disch:=omega)only[push_cast,seval];refine Ok.use (vX h9 (sm5.cons (by decide)) (by have:=sm5.len (by decide); omega)) ?_;rintro v w11 ⟨q11,u11⟩;obtain⟨xa,xc,rfl,_⟩:=q11.form;rw[show s5.n.st.length=1 by rw[en5]; rfl];have h11:=h9.quiet u11;have v11:=v9.trans u11 fun _ _ h=>h;simp(maxSteps:=3000000)(disch:=omega)only[push_cast,seval];obtain⟨e6,en6,⟨rs6,k6,hU6,er6⟩,c6,sm6⟩:=iB g hU5 (by decide) sm5 (by decide) (o:=.liv) trivial c5 (m:=((con3,[encRc (.liv 2)]),0)) (by rw[en5,er4]; exact aw5);refine Ok.use (oE h11 (hU5.lb g) (by decide) sm5 (by decide)) ?_;rintro v w12 ⟨rfl,D12,h12,l12⟩;rw[e6];generalize (lop s5 .liv).1=s6 at *;dsimp only at en6 er6 sm6;obtain⟨v12,d12⟩:=l12.new_ d8 hJ2w v11;simp(maxSteps:=3000000)(disch:=omega)only[push_cast,seval];refine Ok.use (kC h12) ?_;rintro v w13 ⟨rfl,rfl⟩;rw[show s6.n.life=2 by rw[en6]; rfl];simp(maxSteps:=3000000)(disch:=omega)only[push_cast,seval];refine Ok.use (vY h12 (sm6.cons (by decide)) (by have:=sm6.len (by decide); omega)) ?_;rintro v w14 ⟨cs14,rfl,q14,u14⟩;obtain⟨sa,sc,ta,tc,rfl,_⟩:=a8 q14;rw[show s6.n.bas.steps.length=0 by rw[en6]; rfl];simp(maxSteps:=3000000)(disch:=omega)only[push_cast,seval,aCK];exact v12.trans u14 fun _ _ h=>h
theorem aCM:zer Tryz.prog 37=some (.agg #[.slice none 0 0,.slice none 0 0,.slice none 0 0,.int .i64 0]):=by kernel_rfl
theorem aCN (a b d:Option Addr)(n c n' c' n'' c'':Nat)(l:Int)(w:World):bldS Tryz.prog 37 #[(0,.slice a n c),(1,.agg #[.slice b n' c',.slice d n'' c'']),(2,.int .i64 l)] w=some (.agg #[.slice a n c,.slice b n' c',.slice d n'' c'',.int .i64 l],w):=by kernel_rfl
set_option maxHeartbeats 8000000 in
theorem oG {w:World}{D J:Nat→Prop}{p lb jb cb:Nat}{s:LS}(h:LW w D J p lb jb cb s){t:Nat}(hs:SmN t s.n)(ht:t≤30):Ok (den Tryz.prog 17 #[.pointer (some ⟨lb,0,none⟩)] w) fun u w'=>∃cs,u = .agg cs.toArray∧eN.C w' (fun b=>b<w.heap.size) s.n cs∧Upd NoB w w':=by
 have hl:=hs.len ht;refine bZ (args:=[.pointer (some ⟨lb,0,none⟩)]) 2 37 Tryz.func17 rfl mixed (by kernel_rfl) O5 rfl ?_;rw[aD];generalize hKs:KS _ _ _ _ _=Ks;simp(disch:=omega)only[push_cast,seval,aCM];have z1:=Blk.new (w:=w) (cs:=[.slice none 0 0,.slice none 0 0,.slice none 0 0,.int .i64 0]) (E:=37);have u1:Upd NoB w (w.alloc (.cells #[Value.slice none 0 0,.slice none 0 0,.slice none 0 0,.int .i64 0] 37 (0,0))):=Upd.alloc;generalize w.alloc (.cells #[Value.slice none 0 0,.slice none 0 0,.slice none 0 0,.int .i64 0] 37 (0,0))=w1 at *;have s1:=z1.lt;have h1:=h.quiet u1;subst hKs;rw[aC];simp(maxSteps:=3000000)(disch:=omega)only[push_cast,seval];refine Ok.use (vX h1 (hs.cons ht) (by omega)) ?_;rintro u w2 ⟨q2,u2⟩;obtain⟨xa,xc,rfl,_⟩:=q2.form;have h2:=h1.quiet u2;simp(maxSteps:=3000000)(disch:=omega)only[push_cast,seval];refine Ok.use (vY h2 (hs.cons ht) (by omega)) ?_;rintro u w3 ⟨cs3,rfl,q3,u3⟩;obtain⟨sa,sc,ta,tc,rfl,k3⟩:=a8 q3;have h3:=h2.quiet u3;simp(maxSteps:=3000000)(disch:=omega)only[push_cast,seval];refine Ok.use (kC h3) ?_;rintro u w4 ⟨rfl,rfl⟩;have v3:=(u1.trans u2 fun _ _ h=>h).trans u3 fun _ _ h=>h;have s2:=u2.size;have z3:=(z1.upd u2 fun h=>h).upd u3 fun h=>h;have z8:=z3.setRow (cs':=[.slice xa s.n.st.length xc,.slice sa s.n.bas.steps.length sc,.slice ta s.n.bas.taken.length tc,.int .i64 s.n.life]);simp(maxSteps:=3000000)(disch:=omega)only[push_cast,seval,aCN,aP (P:=Tryz.prog) (t:=37) (cs':=[.slice xa s.n.st.length xc,.slice sa s.n.bas.steps.length sc,.slice ta s.n.bas.taken.length tc,.int .i64 s.n.life]) z3 (by kernel_rfl) rfl (fun u hu=>by simp at hu; rcases hu with rfl | rfl | rfl | rfl <;> rfl),aJ (P:=Tryz.prog) (t:=37) z8 (by kernel_rfl) (by kernel_rfl)];have u8:Upd (fun b=>b=w.heap.size) w3 (w3.setRow w.heap.size #[.slice xa s.n.st.length xc,.slice sa s.n.bas.steps.length sc,.slice ta s.n.bas.taken.length tc,.int .i64 s.n.life]):=Upd.setRow rfl;have n3:eN.C w3 (fun b=>b<w1.heap.size) s.n [.slice xa s.n.st.length xc,.slice sa s.n.bas.steps.length sc,.slice ta s.n.bas.taken.length tc,.int .i64 s.n.life]:=
  ⟨_,_,_,rfl,q2.go aA u3 fun b _ hh=>hh.elim (fun hh=>hh.elim) id,aK.go q3 (Upd.refl (F:=NoB)) fun b _ hh=>hh.elim (fun hh=>hh.elim) fun hh=>by omega,(hs.cons ht).w⟩
 exact⟨[.slice xa s.n.st.length xc,.slice sa s.n.bas.steps.length sc,.slice ta s.n.bas.taken.length tc,.int .i64 s.n.life],rfl,aH.go n3 u8 fun b _ hh=>by rcases hh with hh | hh <;> omega,v3.trans u8 fun b hb e=>by omega⟩
open Go
set_option maxRecDepth 100000
open Go Go.ChangeMaps Go.ChangeShapes Go.WideShapes
set_option maxRecDepth 100000
section
variable {H : Type} {enc : TypeId × Value → H} {w : World} {v : Value}
theorem aCO {l:List Int}(h : ∀x∈l,(Lit.int .u8 x).wf=true):Rng l:=by
 intro x hx;have h1:=h x hx;simp only[Lit.wf,Bool.and_eq_true,decide_eq_true_eq] at h1;have h2:IntKind.u8.max=255:=by decide
 have h3:IntKind.u8.min=0:=by decide
 omega
theorem aCP {x:Int}(h:(Lit.int .i64 x).wf=true):I64 x:=by
 simp only[Lit.wf,Bool.and_eq_true,decide_eq_true_eq] at h;obtain⟨h1,h2⟩:=h;exact⟨h1,by have:x≤9223372036854775807:=h2; omega⟩
abbrev OLD (w:World)(b:Nat):Prop:=w.heap.size≤b
theorem iC {n:Nat}{x:DataW H×List MemPlace}(h:DataW.trod enc Tryz.prog w 0 (fun _=>true) true n 55 [v]=some x) : ∃l,SlB w (OLD w) v l∧Rng l:=by
 obtain⟨l,h1,h2⟩:=FP Tryz.underlying55 Tryz.underlying5 (by kernel_rfl) h;exact⟨l,h1,aCO h2⟩
theorem fK {α:Type}{e:Elt α}{t:TypeId}{n:Nat}{x:DataW H×List MemPlace}(ht:Tryz.prog.underlying t=some (.slice e.E))(hs:Tryz.prog.cellsOf e.E=e.s)(hp:0<e.s)
 (hel : ∀(n:Nat) (cs:List Value) (x:DataW H×List MemPlace),cs.length=e.s→DataW.trod enc Tryz.prog w 0 (fun _=>true) true n e.E cs=some x→∃y,e.C w (OLD w) y cs)
 (h:DataW.trod enc Tryz.prog w 0 (fun _=>true) true n t [v]=some x) : ∃l,SlD e w (OLD w) v l:=by
 rcases Go.Deep.open_slice ht h with ⟨h1,_⟩ | ⟨a,len,cap,m,n',D,Pl,h1,_,hl,_,hm,_,hx⟩
 ·have h1:v=_:=(List.cons.inj h1).1;exact⟨[],none,0,h1,Nat.le_refl _,fun h=>absurd rfl h⟩
 ·have h1:v=_:=(List.cons.inj h1).1;simp only[if_true] at hm;subst hm;rw[hs] at hx;rcases Nat.eq_zero_or_pos len with h0 | h0
  ·subst h0;exact⟨[],some a,m,h1,Nat.zero_le _,fun h=>absurd rfl h⟩
  have ha : ∃b o,a=⟨b,o,none⟩∧b<w.heap.size:=by
   obtain⟨cs,h2,_⟩:=hx 0 (by omega);obtain⟨hcl,h3,h4⟩:=World.cells?_some h2;have h5:=h4 0 hp;obtain⟨b,o,e,hb,_⟩:=k8 (n:=1) (a:=a) (V:=fun _=>cs[0]) (fun i hi=>by
    obtain rfl:i=0:=by omega
    have:(a.add (0*e.s)).add 0=a.add 0:=by rw[Nat.zero_mul]; rfl
    rw[←this,h5,List.getElem?_eq_getElem]) (by omega)
   exact⟨b,o,e,hb⟩
  obtain⟨b,o,rfl,hb⟩:=ha;obtain⟨l,hl1,hl2⟩:=lG (n:=len) (p:=fun j (y:α)=>∃cs,e.C w (OLD w) y cs∧∀r,r<e.s→w.cell? ⟨b,o+j*e.s+r,none⟩=cs[r]?) (by
   intro j hj;obtain⟨cs,h2,h3⟩:=hx j (by omega);obtain⟨_,h4,h5⟩:=World.cells?_some h2;obtain⟨y,hy⟩:=hel _ _ _ h4 h3;refine⟨y,cs,hy,fun r hr=>?_⟩;rw[←h5 r hr];congr 1;unfold Addr.add;by_cases hj0:j*e.s=0
   ·by_cases hi0:r=0
    ·simp[hj0,hi0]
    ·simp[hj0,hi0]
   ·by_cases hi0:r=0
    ·simp[hj0,hi0]
    ·simp[hj0,hi0])
  exact⟨l,_,_,by rw[hl1]; exact h1,by omega,fun _=>⟨b,o,rfl,hb,fun hh=>by have:w.heap.size≤b:=hh; omega,fun j x hj=>hl2 j x hj⟩⟩
theorem aCQ {s:ByteArray}:strOfNums (strL s)=s:=by
 unfold strOfNums strL;rw[List.map_map];have:(s.data.toList.map ((fun n:Int=>UInt8.ofNat n.toNat)∘fun b:UInt8=>(b.toNat:Int)))=s.data.toList:=by
  conv=>rhs; rw[←List.map_id s.data.toList]
  exact List.map_congr_left fun b _=>by simp
 rw[this]
theorem aCR {s:ByteArray}:Rng (strL s):=by
 intro x hx;obtain⟨b,_,rfl⟩:=List.mem_map.1 hx;have:=b.toNat_lt;omega
theorem wU {P:Program}{base:Nat}{spare:Nat→Bool}{held:Bool}{t:TypeId}{f0 f1 f2:Field}{fuel:Nat}{cs:List Value}{x:DataW H×List MemPlace}(ht:P.underlying t=some (.struct #[f0,f1,f2]))(h:DataW.trod enc P w base spare held fuel t cs=some x) :
 ∃y0 y1 y2 n,DataW.trod enc P w base spare held n f0.type ((cs.drop f0.offset).take (P.cellsOf f0.type))=some y0∧DataW.trod enc P w base spare held n f1.type ((cs.drop f1.offset).take (P.cellsOf f1.type))=some y1∧DataW.trod enc P w base spare held n f2.type ((cs.drop f2.offset).take (P.cellsOf f2.type))=some y2:=by
 obtain⟨xs,n,_,rfl,hl,hlen,hf⟩:=DataW.trod_struct ht h;match xs,hlen with
 | [y0,y1,y2],_=>exact⟨y0,y1,y2,n,by simpa using hf 0 f0 rfl,by simpa using hf 1 f1 rfl,by simpa using hf 2 f2 rfl⟩
theorem aCS {P:Program}{base:Nat}{spare:Nat→Bool}{held:Bool}{t:TypeId}{f0 f1 f2 f3 f4:Field}{fuel:Nat}{cs:List Value}{x:DataW H×List MemPlace}(ht:P.underlying t=some (.struct #[f0,f1,f2,f3,f4]))(h:DataW.trod enc P w base spare held fuel t cs=some x) :
 ∃y0 y1 y2 y3 y4 n,DataW.trod enc P w base spare held n f0.type ((cs.drop f0.offset).take (P.cellsOf f0.type))=some y0∧DataW.trod enc P w base spare held n f1.type ((cs.drop f1.offset).take (P.cellsOf f1.type))=some y1∧DataW.trod enc P w base spare held n f2.type ((cs.drop f2.offset).take (P.cellsOf f2.type))=some y2∧
  DataW.trod enc P w base spare held n f3.type ((cs.drop f3.offset).take (P.cellsOf f3.type))=some y3∧DataW.trod enc P w base spare held n f4.type ((cs.drop f4.offset).take (P.cellsOf f4.type))=some y4:=by
 obtain⟨xs,n,_,rfl,hl,hlen,hf⟩:=DataW.trod_struct ht h;match xs,hlen with
 | [y0,y1,y2,y3,y4],_=>exact⟨y0,y1,y2,y3,y4,n,by simpa using hf 0 f0 rfl,by simpa using hf 1 f1 rfl,by simpa using hf 2 f2 rfl,by simpa using hf 3 f3 rfl,by simpa using hf 4 f4 rfl⟩
theorem wV {P:Program}{base:Nat}{spare:Nat→Bool}{held:Bool}{t:TypeId}{f0 f1 f2 f3 f4 f5:Field}{fuel:Nat}{cs:List Value}{x:DataW H×List MemPlace}(ht:P.underlying t=some (.struct #[f0,f1,f2,f3,f4,f5]))(h:DataW.trod enc P w base spare held fuel t cs=some x) :
 ∃y0 y1 y2 y3 y4 y5 n,DataW.trod enc P w base spare held n f0.type ((cs.drop f0.offset).take (P.cellsOf f0.type))=some y0∧DataW.trod enc P w base spare held n f1.type ((cs.drop f1.offset).take (P.cellsOf f1.type))=some y1∧DataW.trod enc P w base spare held n f2.type ((cs.drop f2.offset).take (P.cellsOf f2.type))=some y2∧
  DataW.trod enc P w base spare held n f3.type ((cs.drop f3.offset).take (P.cellsOf f3.type))=some y3∧DataW.trod enc P w base spare held n f4.type ((cs.drop f4.offset).take (P.cellsOf f4.type))=some y4∧DataW.trod enc P w base spare held n f5.type ((cs.drop f5.offset).take (P.cellsOf f5.type))=some y5:=by
 obtain⟨xs,n,_,rfl,hl,hlen,hf⟩:=DataW.trod_struct ht h;match xs,hlen with
 | [y0,y1,y2,y3,y4,y5],_=>exact⟨y0,y1,y2,y3,y4,y5,n,by simpa using hf 0 f0 rfl,by simpa using hf 1 f1 rfl,by simpa using hf 2 f2 rfl,by simpa using hf 3 f3 rfl,by simpa using hf 4 f4 rfl,by simpa using hf 5 f5 rfl⟩
theorem fL:Tryz.prog.cellsOf 3=1:=by kernel_rfl
theorem aCT:Tryz.prog.cellsOf 9=1:=by kernel_rfl
theorem iD:Tryz.prog.cellsOf 55=1:=by kernel_rfl
theorem aCU:Tryz.prog.cellsOf 74=1:=by kernel_rfl
theorem oH:Tryz.prog.cellsOf 32=1:=by kernel_rfl
theorem aCV:Tryz.prog.cellsOf 83=1:=by kernel_rfl
theorem aCW:Tryz.prog.cellsOf 86=1:=by kernel_rfl
theorem aCX:Tryz.prog.cellsOf 33=1:=by kernel_rfl
theorem aCY:Tryz.prog.cellsOf 43=1:=by kernel_rfl
theorem aCZ:Tryz.prog.cellsOf 35=2:=by kernel_rfl
theorem aC0:Tryz.prog.cellsOf 85=8:=by kernel_rfl
theorem aC1:Tryz.prog.cellsOf 82=3:=by kernel_rfl
theorem bT {n:Nat}{x:DataW H×List MemPlace}(h:DataW.trod enc Tryz.prog w 0 (fun _=>true) true n 3 [v]=some x) : ∃z,v = .int .i64 z∧I64 z:=by
 obtain⟨z,g0,_,hz⟩:=DataW.trod_int Tryz.underlying3 h;exact⟨z,(List.cons.inj (show[v] = [_] from g0)).1,aCP hz⟩
theorem aC2 {n:Nat}{cs:List Value}{x:DataW H×List MemPlace}(hl:cs.length=eW.s)(h:DataW.trod enc Tryz.prog w 0 (fun _=>true) true n eW.E cs=some x) : ∃y,eW.C w (OLD w) y cs:=by
 obtain⟨y0,y1,n2,_,_,t0,t1⟩:=trod_struct2 Tryz.underlying129 h;match cs,hl with
 | [c0,c1],_=>
  simp only[aCT,iD] at t0 t1;obtain⟨s,g0,_,_⟩:=DataW.trod_string Tryz.underlying9 t0;have g0:c0=_:=(List.cons.inj (show[c0] = [_] from g0)).1;obtain⟨d,hd,hr⟩:=iC (v:=c1) t1;exact⟨⟨strL s,d⟩,c1,by rw[g0,aCQ],hd,aCR,hr⟩
theorem aC3 {n:Nat}{cs:List Value}{x:DataW H×List MemPlace}(hl:cs.length=eC.s)(h:DataW.trod enc Tryz.prog w 0 (fun _=>true) true n eC.E cs=some x) : ∃y,eC.C w (OLD w) y cs:=by
 obtain⟨y0,y1,y2,y3,y4,y5,n2,t0,t1,t2,t3,t4,t5⟩:=wV Tryz.underlying76 h;match cs,hl with
 | [c0,c1,c2,c3,c4,c5],_=>
  simp only[fL,iD,aCU] at t0 t1 t2 t3 t4 t5;obtain⟨z0,rfl,w0⟩:=bT (v:=c0) t0;obtain⟨z1,rfl,w1⟩:=bT (v:=c1) t1;obtain⟨z2,rfl,w2⟩:=bT (v:=c2) t2;obtain⟨ws,hws⟩:=fK (e:=eW) (v:=c3) Tryz.underlying74 (by kernel_rfl) (by decide) (fun n cs x hl h=>aC2 hl h) t3;obtain⟨z4,rfl,w4⟩:=bT (v:=c4) t4;obtain⟨d,hd,hr⟩:=iC (v:=c5) t5;refine⟨⟨z0,z1,z2,ws,z4,d⟩,c3,c5,rfl,hws,hd,w0,w1,w2,w4,?_,hr⟩;intro x hx;obtain⟨i,hi⟩:=List.getElem?_of_mem hx;obtain⟨_,_,_,_,_,_,_,hC,_⟩:=hws.at_ hi;obtain⟨_,_,_,hw⟩:=hC;exact hw
theorem kK {n:Nat}{x:DataW H×List MemPlace}(h:DataW.trod enc Tryz.prog w 0 (fun _=>true) true n 32 [v]=some x) : ∃l,SlD eC w (OLD w) v l:=
 fK (e:=eC) Tryz.underlying32 (by kernel_rfl) (by decide) (fun n cs x hl h=>aC3 hl h) h
theorem SlD.allC {F:Nat→Prop}{l:List Cmd}(h:SlD eC w F v l) : ∀x,x∈l→CmdW x:=by
 intro x hx;obtain⟨i,hi⟩:=List.getElem?_of_mem hx;obtain⟨_,_,_,_,_,_,_,hC,_⟩:=h.at_ hi;obtain⟨_,_,_,_,_,hw⟩:=hC;exact hw
theorem aC4 {n:Nat}{cs:List Value}{x:DataW H×List MemPlace}(hl:cs.length=eR.s)(h:DataW.trod enc Tryz.prog w 0 (fun _=>true) true n eR.E cs=some x) : ∃y,eR.C w (OLD w) y cs:=by
 obtain⟨y0,y1,y2,n2,t0,t1,t2⟩:=wU Tryz.underlying175 h;match cs,hl with
 | [c0,c1,c2],_=>
  simp only[fL,iD] at t0 t1 t2;obtain⟨z0,rfl,w0⟩:=bT (v:=c0) t0;obtain⟨z1,rfl,w1⟩:=bT (v:=c1) t1;obtain⟨d,hd,hr⟩:=iC (v:=c2) t2;exact⟨⟨z0,z1,d⟩,c2,rfl,hd,w0,w1,hr⟩
theorem aC5 {n:Nat}{cs:List Value}{x:DataW H×List MemPlace}(hl:cs.length=eA.s)(h:DataW.trod enc Tryz.prog w 0 (fun _=>true) true n eA.E cs=some x) : ∃y,eA.C w (OLD w) y cs:=by
 obtain⟨y0,y1,n2,_,_,t0,t1⟩:=trod_struct2 Tryz.underlying154 h;match cs,hl with
 | [c0,c1],_=>
  simp only[fL,iD] at t0 t1;obtain⟨z0,rfl,w0⟩:=bT (v:=c0) t0;obtain⟨d,hd,hr⟩:=iC (v:=c1) t1;exact⟨⟨z0,d⟩,c1,rfl,hd,w0,hr⟩
theorem SlD.allR {F:Nat→Prop}{l:List Rid}(h:SlD eR w F v l) : ∀x,x∈l→RidW x:=by
 intro x hx;obtain⟨i,hi⟩:=List.getElem?_of_mem hx;obtain⟨_,_,_,_,_,_,_,hC,_⟩:=h.at_ hi;obtain⟨_,_,_,hw⟩:=hC;exact hw
theorem SlD.allA {F:Nat→Prop}{l:List Akk}(h:SlD eA w F v l) : ∀x,x∈l→AkkW x:=by
 intro x hx;obtain⟨i,hi⟩:=List.getElem?_of_mem hx;obtain⟨_,_,_,_,_,_,_,hC,_⟩:=h.at_ hi;obtain⟨_,_,_,hw⟩:=hC;exact hw
theorem SlD.allT {F:Nat→Prop}{l:List Crt}(h:SlD eT w F v l) : ∀x,x∈l→CrtW x:=by
 intro x hx;obtain⟨i,hi⟩:=List.getElem?_of_mem hx;obtain⟨_,_,_,_,_,_,_,hC,_⟩:=h.at_ hi;obtain⟨_,_,_,_,_,hw⟩:=hC;exact hw
theorem aC6 {n:Nat}{cs:List Value}{x:DataW H×List MemPlace}(hl:cs.length=eK.s)(h:DataW.trod enc Tryz.prog w 0 (fun _=>true) true n eK.E cs=some x) : ∃y,eK.C w (OLD w) y cs:=by
 obtain⟨y0,y1,y2,y3,y4,y5,n2,t0,t1,t2,t3,t4,t5⟩:=wV Tryz.underlying85 h;match cs,hl with
 | [c0,c1,c2,c3,c4,c5,c6,c7],_=>
  simp only[fL,iD,oH,aCV,aC1] at t0 t1 t2 t3 t4 t5;obtain⟨_,_,_,n3,s0,s1,s2⟩:=wU (cs:=[c0,c1,c2]) Tryz.underlying82 t0;simp only[fL] at s0 s1 s2;obtain⟨z0,rfl,w0⟩:=bT (v:=c0) s0;obtain⟨z1,rfl,w1⟩:=bT (v:=c1) s1;obtain⟨z2,rfl,w2⟩:=bT (v:=c2) s2;obtain⟨rs,hrs⟩:=fK (e:=eR) (v:=c3) Tryz.underlying83 (by kernel_rfl) (by decide) (fun n cs x hl h=>aC4 hl h) t1;obtain⟨bs,hbs⟩:=kK (v:=c4) t2;obtain⟨fs,hfs⟩:=kK (v:=c5) t3;obtain⟨z6,rfl,w6⟩:=bT (v:=c6) t4;obtain⟨d,hd,hr⟩:=iC (v:=c7) t5;exact⟨⟨z0,z1,z2,rs,bs,fs,z6,d⟩,c3,c4,c5,c7,rfl,hrs,hbs,hfs,hd,w0,w1,w2,w6,hr,hrs.allR,hbs.allC,hfs.allC⟩
theorem aC7 {n:Nat}{cs:List Value}{x:DataW H×List MemPlace}(hl:cs.length=eT.s)(h:DataW.trod enc Tryz.prog w 0 (fun _=>true) true n eT.E cs=some x) : ∃y,eT.C w (OLD w) y cs:=by
 obtain⟨y0,y1,n2,_,_,t0,t1⟩:=trod_struct2 Tryz.underlying88 h;match cs,hl with
 | [c0,c1,c2,c3,c4,c5,c6,c7,c8],_=>
  simp only[aC0,aCW] at t0 t1;obtain⟨k,hk⟩:=aC6 (cs:=[c0,c1,c2,c3,c4,c5,c6,c7]) rfl t0;obtain⟨as_,has⟩:=fK (e:=eA) (v:=c8) Tryz.underlying86 (by kernel_rfl) (by decide) (fun n cs x hl h=>aC5 hl h) t1;have hkw:ClmW k:=by
   obtain⟨_,_,_,_,_,_,_,_,_,hw⟩:=hk;exact hw
  exact⟨⟨k,as_⟩,[c0,c1,c2,c3,c4,c5,c6,c7],c8,rfl,hk,has,hkw,has.allA⟩
theorem aC8 {n:Nat}{cs:List Value}{x:DataW H×List MemPlace}(hl:cs.length=eB.s)(h:DataW.trod enc Tryz.prog w 0 (fun _=>true) true n eB.E cs=some x) : ∃y,eB.C w (OLD w) y cs:=by
 obtain⟨y0,y1,n2,_,_,t0,t1⟩:=trod_struct2 Tryz.underlying35 h;match cs,hl with
 | [c0,c1],_=>
  simp only[aCX,oH] at t0 t1;obtain⟨ts,hts⟩:=fK (e:=eT) (v:=c0) Tryz.underlying33 (by kernel_rfl) (by decide) (fun n cs x hl h=>aC7 hl h) t0;obtain⟨bs,hbs⟩:=kK (v:=c1) t1;exact⟨⟨ts,bs⟩,c0,c1,rfl,hts,hbs,hts.allT,hbs.allC⟩
structure OpS where
 kind:Int
 list:List Cmd
 base:Bas
 n:Int
 keep:List Bool
def eO:Elt OpS:=⟨45,6,fun w F o cs=>∃lv b1 b2 kv,cs = [.int .i64 o.kind,lv,b1,b2,.int .i64 o.n,kv]∧SlD eC w F lv o.list∧eB.C w F o.base [b1,b2]∧SlT w F kv o.keep∧I64 o.kind∧I64 o.n⟩
theorem aC9 {n:Nat}{cs:List Value}{x:DataW H×List MemPlace}(hl:cs.length=eO.s)(h:DataW.trod enc Tryz.prog w 0 (fun _=>true) true n eO.E cs=some x) : ∃y,eO.C w (OLD w) y cs:=by
 obtain⟨y0,y1,y2,y3,y4,n2,t0,t1,t2,t3,t4⟩:=aCS Tryz.underlying45 h;match cs,hl with
 | [c0,c1,c2,c3,c4,c5],_=>
  simp only[fL,oH,aCZ,aCY] at t0 t1 t2 t3 t4;obtain⟨z0,rfl,w0⟩:=bT (v:=c0) t0;obtain⟨bs,hbs⟩:=kK (v:=c1) t1;obtain⟨b,hb⟩:=aC8 (cs:=[c2,c3]) rfl t2;obtain⟨z4,rfl,w4⟩:=bT (v:=c4) t3;obtain⟨ks,hks⟩:=FM (v:=c5) Tryz.underlying43 Tryz.underlying4 (by kernel_rfl) t4;exact⟨⟨z0,bs,b,z4,ks⟩,c1,c2,c3,c5,rfl,hbs,hb,hks,w0,w4⟩
theorem open_ops47 {r:Reach}{b0:Nat}{d:DataW H}{ps:List MemPlace}(hval:Value.okWide Tryz.prog w r b0 22 v)(h:DataW.Trod enc Tryz.prog w 0 (fun _=>true) true 22 v d ps) : ∃l,SlD eO w (OLD w) v l:=by
 obtain⟨a',l',c',rfl⟩:=Go.WideShapes.okWide_slice Tryz.underlying22 hval;obtain⟨n,h⟩:=h;exact fK (e:=eO) Tryz.underlying22 (by kernel_rfl) (by decide) (fun n cs x hl h=>aC9 hl h) h
end
end Go.Proofs.YtpgigkceoolgeaaGreatDoor.Fd
