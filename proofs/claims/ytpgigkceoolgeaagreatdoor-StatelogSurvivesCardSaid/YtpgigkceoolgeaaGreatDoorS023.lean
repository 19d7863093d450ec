import Derived.Test.YtpgigkceoolgeaaGreatDoorS022
set_option linter.all false
namespace Go.Proofs.YtpgigkceoolgeaaGreatDoor.Fd
open Go
set_option maxRecDepth 100000
noncomputable instance decCmd:DecidableEq Cmd:=fun _ _=>Classical.propDecidable _
theorem ZY {n:Nat}:((n:Int)).fdiv (2 ^ min 1 IntKind.u64.bits)=((n/2:Nat):Int):=by
 rw[gJ,show(2:Int) ^ min 1 64=2 from rfl,Int.fdiv_eq_ediv_of_nonneg _ (by omega)];omega
set_option maxHeartbeats 8000000 in
theorem ZZ {w:World}{F G:Nat→Prop}{v:Value}{l:List Cmd}{t:Cmd}{ts:List Value}(hv:SlD eC w F v l)(hl : ∀x,x∈l→CmdS x)(hs:SrtC l)(ht:eC.C w G t ts)(st:CmdS t)(hn:l.length≤1000000) :
 Ok (den Tryz.prog 117 #[v,.agg ts.toArray,.func (.func 118) #[] #[]] w) fun u w'=>(∃i:Int,u = .tuple #[.int .i64 i,.bool (decide (t∈l))])∧Upd NoB w w':=by
 obtain⟨va,vc,rfl,_⟩:=hv.form;refine aB (args:=[.slice va l.length vc,.agg ts.toArray,.func (.func 118) #[] #[]]) rs117 Tryz.func117 rfl mixed (by kernel_rfl) RV rfl ?_;have kt:=aA.len ht;have hp:=hs.pair;rw[List.pairwise_iff_getElem] at hp;rw[aD];generalize hKs:KS _ _ _ _ _=Ks;simp(disch:=omega)only[push_cast,seval];have b1:=Blk.new (w:=w) (cs:=ts) (E:=76);have u1:Upd NoB w (w.alloc (.cells ts.toArray 76 (0,0))):=Upd.alloc;generalize w.alloc (.cells ts.toArray 76 (0,0))=w1 at *;have lT : ∀{w':World},Upd NoB w1 w'→ldS Tryz.prog 76 (.pointer (some ⟨w.heap.size,0,none⟩)) w'=some (.agg ts.toArray,w'):=fun u=>aJ (P:=Tryz.prog) (t:=76) (b1.upd u (fun h=>h)) (by kernel_rfl) (by rw[kt]; kernel_rfl);subst hKs;rw[aC];simp(disch:=omega)only[push_cast,seval];refine aG (I:=fun k st w'=>Bx (∃i j:Nat,k=j-i∧i≤j∧j≤l.length∧st = [.int .i64 (i:Int),.int .i64 (j:Int)]∧Upd NoB w1 w'∧(∀(p:Nat) (x:Cmd),p<i→l[p]? =some x→cmpC x t<0)∧(∀(p:Nat) (x:Cmd),j≤p→l[p]? =some x→¬cmpC x t<0)) ⟨⟩) ?_ l.length ⟨0,l.length,by omega,by omega,by omega,rfl,Upd.refl,fun p x hp=>by omega,fun p x hp hx=>by rw[List.getElem?_eq_none (by omega)] at hx; cases hx⟩;rintro k sv w2 ⟨i,j,rfl,hij,hj,rfl,u2,hlo,hhi⟩;have v2:=u1.trans u2 fun _ _ h=>h;have hv2:=hv.q aA v2;have ht2:=aA.q ht v2;by_cases he:j≤i
 ·obtain rfl:i=j:=by omega
  by_cases hil:i<l.length
  ·have hx:=List.getElem?_eq_getElem hil;generalize l[i]=x at *;have sx:=hl x (List.mem_of_getElem? hx);obtain⟨xb,xo,xc,xcs,hvv,hxl,_,hcx,hcell⟩:=hv2.at_ hx;injection hvv with e1 _ e3;subst e1;subst e3;have es:eC.s=6:=rfl;rw[es] at hcell;have l1 : ∀{w':World},Upd NoB w2 w'→ldS Tryz.prog 76 (.pointer (some ⟨xb,xo+i*6,none⟩)) w'=some (.agg xcs.toArray,w'):=fun u=>ldC (aA.q hcx u) (SlD.old (e:=eC) hxl u (fun h=>h) hcell);have ei:((i:Int)).toNat=i:=by omega
   simp(maxSteps:=3000000)(disch:=omega)only[push_cast,seval,ei,l1 Upd.drew,lT (u2.trans Upd.drew fun _ _ h=>h)];refine Ok.use (aY (aA.q hcx Upd.drew) (aA.q ht2 Upd.drew) sx.2 st.2) ?_;rintro u w3 ⟨rfl,u3⟩;have v3:Upd NoB w2 w3:=Upd.drew.trans u3 fun _ _ h=>h;simp(maxSteps:=3000000)(disch:=omega)only[push_cast,seval,ei,l1 Upd.drew,lT (u2.trans Upd.drew fun _ _ h=>h),l1 v3,lT (u2.trans v3 fun _ _ h=>h)];refine⟨⟨(i:Int),?_⟩,v2.trans v3 fun _ _ h=>h⟩;have hd : ∀{a b:Bool},a=b→Value.tuple #[.int .i64 (i:Int),.bool a]=Value.tuple #[.int .i64 (i:Int),.bool b]:=fun h=>by rw[h]
   refine hd ?_;rw[decide_eq_decide];constructor
   ·intro h;rw[(fA sx st).1 h] at hx;exact List.mem_of_getElem? hx
   ·intro h;obtain⟨p,hp'⟩:=List.getElem?_of_mem h;by_cases hpi:p<i
    ·exact absurd (hlo p t hpi hp') gQ
    ·by_cases hpe:p=i
     ·subst hpe;rw[hx] at hp';injection hp' with hp';rw[hp'];exact jI
     ·obtain⟨q1,q2⟩:=List.getElem?_eq_some_iff.1 hp';obtain⟨q3,q4⟩:=List.getElem?_eq_some_iff.1 hx;have:=hp i p q3 q1 (by omega);rw[q2,q4] at this;exact absurd this (hhi i x (Nat.le_refl _) hx)
  ·simp(maxSteps:=3000000)(disch:=omega)only[push_cast,seval];refine⟨⟨(i:Int),?_⟩,v2.trans (Upd.drew (F:=NoB)) fun _ _ h=>h⟩;have hd : ∀{a b:Bool},a=b→Value.tuple #[.int .i64 (i:Int),.bool a]=Value.tuple #[.int .i64 (i:Int),.bool b]:=fun h=>by rw[h]
   refine hd (decide_eq_false ?_).symm;intro h;obtain⟨p,hp'⟩:=List.getElem?_of_mem h;have:=(List.getElem?_eq_some_iff.1 hp').1;exact absurd (hlo p t (by omega) hp') gQ
 obtain⟨m,hm⟩ : ∃m:Nat,m=(i+j)/2:=⟨_,rfl⟩;have hx:=List.getElem?_eq_getElem (l:=l) (i:=m) (by omega);generalize l[m]=x at *;have sx:=hl x (List.mem_of_getElem? hx);obtain⟨xb,xo,xc,xcs,hvv,hxl,_,hcx,hcell⟩:=hv2.at_ hx;injection hvv with e1 _ e3;subst e1;subst e3;have es:eC.s=6:=rfl;rw[es] at hcell;have l1 : ∀{w':World},Upd NoB w2 w'→ldS Tryz.prog 76 (.pointer (some ⟨xb,xo+m*6,none⟩)) w'=some (.agg xcs.toArray,w'):=fun u=>ldC (aA.q hcx u) (SlD.old (e:=eC) hxl u (fun h=>h) hcell);obtain⟨s,hs'⟩ : ∃s:Nat,s=i+j:=⟨_,rfl⟩;have f1:(i:Int)+j=s:=by omega
 have f2:IntKind.u64.wrap (s:Int)=s:=bD (by omega);have f3:((s:Int)).fdiv (2 ^ min 1 IntKind.u64.bits)=(m:Int):=by rw[ZY]; omega
 have f4:IntKind.u64.wrap (m:Int)=m:=bD (by omega);have em:((m:Int)).toNat=m:=by omega
 have hm1:i≤m∧m<j:=by omega
 have f3':((s:Int)).fdiv (2 ^ 1)=(m:Int):=by rw[←f3]; rfl
 have f5:IntKind.i64.wrap (m:Int)=m:=WK ⟨by omega,by omega⟩;simp(maxSteps:=3000000)(disch:=omega)only[push_cast,seval,f1,f2,f3,f4,f5,em,gD,mR,l1 Upd.drew,lT (u2.trans Upd.drew fun _ _ h=>h)];refine Ok.use (aY (aA.q hcx Upd.drew) (aA.q ht2 Upd.drew) sx.2 st.2) ?_;rintro u w3 ⟨rfl,u3⟩;have v3:Upd NoB w2 w3:=Upd.drew.trans u3 fun _ _ h=>h;by_cases hlt:cmpC x t<0
 ·simp(maxSteps:=3000000)(disch:=omega)only[push_cast,seval,em,l1 Upd.drew,lT (u2.trans Upd.drew fun _ _ h=>h),l1 v3,lT (u2.trans v3 fun _ _ h=>h),hlt];refine⟨j-(m+1),by omega,m+1,j,by omega,by omega,by omega,by simp,u2.trans v3 fun _ _ h=>h,fun p y hp' hy=>?_,hhi⟩;by_cases hpm:p=m
  ·subst hpm;rw[hx] at hy;injection hy with hy;rw[←hy];exact hlt
  ·obtain⟨q1,q2⟩:=List.getElem?_eq_some_iff.1 hy;obtain⟨q3,q4⟩:=List.getElem?_eq_some_iff.1 hx;have:=hp p m q1 q3 (by omega);rw[q2,q4] at this;exact dB this hlt
 ·simp(maxSteps:=3000000)(disch:=omega)only[push_cast,seval,em,l1 Upd.drew,lT (u2.trans Upd.drew fun _ _ h=>h),l1 v3,lT (u2.trans v3 fun _ _ h=>h),hlt];refine⟨m-i,by omega,i,m,by omega,by omega,by omega,by simp,u2.trans v3 fun _ _ h=>h,hlo,fun p y hp' hy=>?_⟩;by_cases hpm:p=m
  ·subst hpm;rw[hx] at hy;injection hy with hy;rw[←hy];exact hlt
  ·obtain⟨q1,q2⟩:=List.getElem?_eq_some_iff.1 hy;obtain⟨q3,q4⟩:=List.getElem?_eq_some_iff.1 hx;have:=hp m p q3 q1 (by omega);rw[q2,q4] at this;exact fun h=>hlt (dB this h)
theorem uA {w:World}{F G:Nat→Prop}{B E:Nat}{v:Value}{l:List Cmd}{t:Cmd}{ts:List Value}(hB:Blk w B [v] E)(hv:SlD eC w F v l)(hl : ∀x,x∈l→CmdS x)(hs:SrtC l)(ht:eC.C w G t ts)(st:CmdS t)(hn:l.length≤1000000) :
 Ok (den Tryz.prog 116 #[.agg ts.toArray,.pointer (some ⟨B,0,none⟩)] w) fun u w'=>u = .bool (decide (t∈l))∧Upd NoB w w':=by
 obtain⟨va,vc,rfl,_⟩:=hv.form;refine aB (args:=[.agg ts.toArray,.pointer (some ⟨B,0,none⟩)]) rs116 Tryz.func116 rfl mixed (by kernel_rfl) RU rfl ?_;have kt:=aA.len ht;rw[aD];generalize hKs:KS _ _ _ _ _=Ks;simp(disch:=omega)only[push_cast,seval];have b1:=Blk.new (w:=w) (cs:=ts) (E:=76);have u1:Upd NoB w (w.alloc (.cells ts.toArray 76 (0,0))):=Upd.alloc;have hB1:=hB.upd u1 fun h=>h;generalize w.alloc (.cells ts.toArray 76 (0,0))=w1 at *;have lT:=aJ (P:=Tryz.prog) (t:=76) b1 (by kernel_rfl) (by rw[kt]; kernel_rfl);subst hKs;rw[aC];simp(maxSteps:=3000000)(disch:=omega)only[push_cast,seval,hB1.cell,lT];refine Ok.use (ZZ (hv.q aA u1) hl hs (aA.q ht u1) st hn) ?_;rintro u w2 ⟨⟨i,rfl⟩,u2⟩;simp(maxSteps:=3000000)(disch:=omega)only[push_cast,seval];exact u1.trans u2 fun _ _ h=>h
set_option maxHeartbeats 8000000 in
theorem Z0 {w:World}{F H:Nat→Prop}{g cap B E:Nat}{v:Value}{xs l:List Cmd}(h:RowD eC w F (.slice (some ⟨g,0,none⟩) xs.length cap) xs)(hx : ∀x,x∈xs→CmdS x)(hn:xs.length≤1000000)(hB:Blk w B [v] E)(hv:SlD eC w H v l)(hl : ∀x,x∈l→CmdS x)(hs:SrtC l)(hln:l.length≤1000000) :
 Ok (den Tryz.prog 149 #[.slice (some ⟨g,0,none⟩) xs.length cap,.func (.func 116) #[] #[.pointer (some ⟨B,0,none⟩)]] w) fun u w'=>((u = .int .i64 (-1)∧∀x,x∈xs→x∉l)∨∃(i:Nat) (x:Cmd),u = .int .i64 (i:Int)∧xs[i]? =some x∧x∈l∧∀(p:Nat) (y:Cmd),p<i→xs[p]? =some y→y∉l)∧Upd NoB w w':=by
 refine aB (args:=[.slice (some ⟨g,0,none⟩) xs.length cap,.func (.func 116) #[] #[.pointer (some ⟨B,0,none⟩)]]) rs149 Tryz.func149 rfl mixed (by kernel_rfl) SU rfl ?_;simp(disch:=omega)only[push_cast,seval];refine aG (I:=fun k st w'=>Bx (∃i:Nat,k+i=xs.length∧st = [.int .i64 (i:Int)]∧Upd NoB w w'∧∀(p:Nat) (y:Cmd),p<i→xs[p]? =some y→y∉l) ⟨⟩) ?_ xs.length ⟨0,rfl,rfl,Upd.refl,fun p y h=>by omega⟩;rintro k st w2 ⟨i,hk,rfl,u2,hq⟩;by_cases hk0:k=0
 ·obtain rfl:i=xs.length:=by omega
  simp(disch:=omega)only[push_cast,seval];refine⟨.inl fun x hx'=>?_,u2⟩;obtain⟨p,hp⟩:=List.getElem?_of_mem hx';exact hq p x (List.getElem?_eq_some_iff.1 hp).1 hp
 have hi:i<xs.length:=by omega
 have hxi:=List.getElem?_eq_getElem hi;generalize xs[i]=x at *;obtain⟨cs,kx,lx⟩:=h.ld hxi;have ei:((i:Int)).toNat=i:=by omega
 have sx:=hx x (List.mem_of_getElem? hxi);simp(maxSteps:=3000000)(disch:=omega)only[push_cast,seval,ei,lx u2];refine Ok.use (uA (hB.upd u2 fun h=>h) (hv.q aA u2) hl hs (aA.q kx u2) sx hln) ?_;rintro u w3 ⟨rfl,u3⟩;by_cases hm:x∈l
 ·simp(maxSteps:=3000000)(disch:=omega)only[push_cast,seval,hm];exact⟨.inr ⟨i,x,rfl,hxi,hm,hq⟩,u2.trans u3 fun _ _ h=>h⟩
 ·simp(maxSteps:=3000000)(disch:=omega)only[push_cast,seval,hm];refine⟨k-1,by omega,i+1,by omega,by simp,u2.trans u3 fun _ _ h=>h,fun p y hp hy=>?_⟩;by_cases hpi:p=i
  ·subst hpi;rw[hxi] at hy;injection hy with hy;rw[←hy];exact hm
  ·exact hq p y (by omega) hy
open Go
set_option maxRecDepth 100000
theorem jN {p:Cmd→Bool}{xs:List Cmd}{m:Nat}{y:Cmd}(hy:xs[m]? =some y):(xs.take (m+1)).filter p=(xs.take m).filter p ++ if p y then [y] else []:=by
 rw[bS hy,List.filter_append];congr 1;cases h:p y <;> simp[h]
theorem Z1 {p:Cmd→Bool}{xs:List Cmd}{m:Nat}:((xs.take m).filter p).length≤m:=by
 have h1:=List.length_filter_le p (xs.take m);have h2:=List.length_take_le m xs;omega
set_option maxHeartbeats 16000000 in
theorem Z2 {w:World}{F H:Nat→Prop}{g cap B E:Nat}{v:Value}{xs l:List Cmd}(h:RowD eC w F (.slice (some ⟨g,0,none⟩) xs.length cap) xs)(hx : ∀x,x∈xs→CmdS x)(hn:xs.length≤1000000)(hB:Blk w B [v] E)(hBg:B≠g)(hv:SlD eC w H v l)(hHg:H g)(hl : ∀x,x∈l→CmdS x)(hs:SrtC l)(hln:l.length≤1000000) :
 Ok (den Tryz.prog 115 #[.slice (some ⟨g,0,none⟩) xs.length cap,.func (.func 116) #[] #[.pointer (some ⟨B,0,none⟩)]] w) fun u w'=>∃k,u = .slice (some ⟨g,0,none⟩) k cap∧RowD eC w' F (.slice (some ⟨g,0,none⟩) k cap) (xs.filter fun x=>decide (x∉l))∧Upd (fun b=>b=g) w w':=by
 refine aB (args:=[.slice (some ⟨g,0,none⟩) xs.length cap,.func (.func 116) #[] #[.pointer (some ⟨B,0,none⟩)]]) rs115 Tryz.func115 rfl mixed (by kernel_rfl) RT rfl ?_;have hg:g<w.heap.size:=h.lt rfl;have hcap:=h.cap.2;simp(disch:=omega)only[push_cast,seval];refine Ok.use (Z0 h hx hn hB hv hl hs hln) ?_;rintro u w1 ⟨hu,u1⟩;have h1:RowD eC w1 F (.slice (some ⟨g,0,none⟩) xs.length cap) xs:=h.go aA u1 fun b _ h=>h.elim (fun h=>h.elim) id;rcases hu with ⟨rfl,hno⟩ | ⟨i0,x0,rfl,hx0,hm0,hq0⟩
 ·simp(disch:=omega)only[push_cast,seval];have e:xs.filter (fun x=>decide (x∉l))=xs:=List.filter_eq_self.2 fun x hx'=>decide_eq_true (hno x hx');rw[e];exact⟨xs.length,rfl,h1,aZ u1⟩
 have hi0:=(List.getElem?_eq_some_iff.1 hx0).1;have hi0' : ¬((i0:Int) = -1):=by omega
 have e0:(xs.take i0).filter (fun x=>decide (x∉l))=xs.take i0:=List.filter_eq_self.2 fun x hx'=>by
  obtain⟨p,hp⟩:=List.getElem?_of_mem hx';rw[List.getElem?_take] at hp;split at hp
  ·exact decide_eq_true (hq0 p x (by assumption) hp)
  ·cases hp
 have e1:(xs.take (i0+1)).filter (fun x=>decide (x∉l))=xs.take i0:=by
  rw[jN hx0,e0,if_neg (by simp[hm0]),List.append_nil]
 simp(disch:=omega)only[push_cast,seval,hi0'];refine aG (I:=fun k st w'=>Bx (∃(j i:Nat) (zs:List Cmd),i0+1≤j∧j≤xs.length∧k=xs.length-j∧i+1≤j∧zs.length=xs.length∧zs.take i=(xs.take j).filter (fun x=>decide (x∉l))∧(∀p,j≤p→zs[p]? =xs[p]?)∧st = [.int .i64 (i:Int),.int .i64 (j:Int)]∧RowD eC w' F (.slice (some ⟨g,0,none⟩) xs.length cap) zs∧Upd (fun b=>b=g) w w') ⟨⟩) ?_ (xs.length-(i0+1)) ⟨i0+1,i0,xs,by omega,by omega,rfl,by omega,rfl,e1.symm,fun _ _=>rfl,by simp,h1,aZ u1⟩;rintro k2 st w3 ⟨j,i,zs,j1,j2,rfl,hij,hzl,hzf,hzx,rfl,h3,u3⟩;have ecap : ¬cap=i:=by omega
 by_cases hj:xs.length≤j
 ·obtain rfl:j=xs.length:=by omega
  rw[List.take_length] at hzf;rw[←hzl] at h3;obtain⟨w4,r1,r2,r3⟩:=t6 (c:=cap-i) h3 (k:=i) (by omega);rw[hzf] at r2;rw[hzl] at r1;simp(maxSteps:=3000000)(disch:=omega)only[push_cast,seval,ecap,r1];exact⟨i,rfl,r2,u3.trans r3 fun _ _ h=>h⟩
 have hxj:=List.getElem?_eq_getElem (l:=xs) (i:=j) (by omega);generalize xs[j]=x at *;have sx:=hx x (List.mem_of_getElem? hxj);obtain⟨cs,kx,lx⟩:=h3.ld (i:=j) (by rw[hzx _ (Nat.le_refl _)]; exact hxj);have kc:=aA.len kx;have es:eC.s=6:=rfl;rw[es] at kc;have ej:((j:Int)).toNat=j:=by omega
 have ei:((i:Int)).toNat=i:=by omega
 have b3:=Blk.new (w:=w3) (cs:=[.int .i64 0,.int .i64 0,.int .i64 0,.slice none 0 0,.int .i64 0,.slice none 0 0]) (E:=76);have u4:Upd NoB w3 (w3.alloc (.cells #[.int .i64 0,.int .i64 0,.int .i64 0,.slice none 0 0,.int .i64 0,.slice none 0 0] 76 (0,0))):=Upd.alloc;have b4:=b3.setRow (cs':=cs);simp(maxSteps:=3000000)(disch:=omega)only[push_cast,seval,ej,lx Upd.refl,bO,aP (P:=Tryz.prog) (t:=76) (cs':=cs) b3 (by rw[kc]; kernel_rfl) (by rw[kc]; rfl) (aA.one kx),aJ (P:=Tryz.prog) (t:=76) b4 (by kernel_rfl) (by rw[kc]; kernel_rfl)];have u5:=u4.trans (Upd.setRow (F:=fun b=>b=w3.heap.size) (w:=w3.alloc (.cells #[.int .i64 0,.int .i64 0,.int .i64 0,.slice none 0 0,.int .i64 0,.slice none 0 0] 76 (0,0))) (g:=w3.heap.size) (cs:=cs.toArray) rfl) (F:=NoB) (fun b h1 h2=>by omega);generalize (w3.alloc (.cells #[.int .i64 0,.int .i64 0,.int .i64 0,.slice none 0 0,.int .i64 0,.slice none 0 0] 76 (0,0))).setRow w3.heap.size cs.toArray=w4 at *;have v4:Upd (fun b=>b=g) w w4:=u3.trans (aZ u5) fun _ _ h=>h;refine Ok.use (uA (hB.upd v4 hBg) ((hv.go (F':=H) aA v4 fun b _ h=>h.elim (fun h=>h ▸ hHg) id)) hl hs (aA.q kx u5) sx hln) ?_;rintro u w5 ⟨rfl,u6⟩;have v6:Upd NoB w3 w5:=u5.trans u6 fun _ _ h=>h;have h5:RowD eC w5 F (.slice (some ⟨g,0,none⟩) xs.length cap) zs:=h3.go aA v6 fun b _ h=>h.elim (fun h=>h.elim) id;have v5:Upd (fun b=>b=g) w w5:=u3.trans (aZ v6) fun _ _ h=>h;have l6:=aJ (P:=Tryz.prog) (t:=76) (b4.upd u6 fun h=>h) (by kernel_rfl) (by rw[kc]; kernel_rfl);by_cases hm:x∈l
 ·simp(maxSteps:=3000000)(disch:=omega)only[push_cast,seval,hm];refine⟨xs.length-(j+1),by omega,j+1,i,zs,by omega,by omega,rfl,by omega,hzl,?_,fun p hp=>hzx p (by omega),by simp,h5,v5⟩;rw[hzf,jN hxj,if_neg (by simp[hm]),List.append_nil]
 ·have kx5:eC.C w5 (fun b=>F b∨b=g) x cs:=aA.go kx v6 fun b _ h=>h.elim (fun h=>h.elim) id;obtain⟨w6,s6,h6,u7,_⟩:=eY aA (P:=Tryz.prog) (by kernel_rfl) h5 (i:=i) (by omega) (by omega) kx5;rw[es,show eC.E=76 from rfl] at s6;simp(maxSteps:=3000000)(disch:=omega)only[push_cast,seval,hm,ei,l6,s6];refine⟨xs.length-(j+1),by omega,j+1,i+1,zs.set i x,by omega,by omega,rfl,by omega,by simp[hzl],?_,fun p hp=>?_,by simp,h6,v5.trans u7 fun _ _ h=>h⟩
  ·rw[bS (y:=x) (by rw[List.getElem?_set,if_pos rfl,if_pos (by omega)]),List.take_set,List.set_eq_of_length_le (by simp; omega),hzf,jN hxj,if_pos (by simp[hm])]
  ·rw[List.getElem?_set_ne (by omega)];exact hzx p (by omega)
noncomputable def minC (xs l:List Cmd):List Cmd:=(ofC xs).filter fun x=>decide (x∉ofC l)
set_option maxHeartbeats 4000000 in
theorem Z3 {w:World}{F G:Nat→Prop}{a b:Value}{xs ys:List Cmd}(ha:SlD eC w F a xs)(hb:SlD eC w G b ys)(hx : ∀x,x∈xs→CmdS x)(hy : ∀x,x∈ys→CmdS x)(hl:xs.length≤1000000)(hl2:ys.length≤1000000) :
 Ok (den Tryz.prog 66 #[a,b] w) fun u w'=>RowD eC w' (Old w) u (minC xs ys)∧Upd NoB w w':=by
 obtain⟨aa,ac,rfl,_⟩:=ha.form;obtain⟨ba,bc,rfl,_⟩:=hb.form;refine aB (args:=[.slice aa xs.length ac,.slice ba ys.length bc]) rs66 Tryz.func66 rfl mixed (by kernel_rfl) QH rfl ?_;have mx : ∀x,x∈ofC xs→CmdS x:=fun x h=>hx x ((cF hx).1 h);have my : ∀x,x∈ofC ys→CmdS x:=fun x h=>hy x ((cF hy).1 h);have lx:=gT (l:=xs);have ly:=gT (l:=ys);simp(disch:=omega)only[push_cast,seval];refine Ok.use (mU ha hx hl) ?_;rintro u w1 ⟨r1,u1,g,c,rfl⟩;simp(disch:=omega)only[push_cast,seval];refine Ok.use (mU (hb.q aA u1) hy hl2) ?_;rintro u' w2 ⟨r2,u2,g2,c2,rfl⟩;have hg1:g<w1.heap.size:=r1.lt rfl;have s2:=u2.size;have u3:Upd NoB w2 ((w2.alloc (.cells #[.slice none 0 0] 32 (0,0))).setCell ⟨w2.heap.size,0,none⟩ (.slice (some ⟨g2,0,none⟩) (ofC ys).length c2)):=Upd.alloc.setNew (Nat.le_refl _);have b3:=Blk.new (w:=w2) (cs:=[.slice none 0 0]) (E:=32);have b4:=b3.set 0 (.slice (some ⟨g2,0,none⟩) (ofC ys).length c2);simp only[List.set_cons_zero] at b4;simp(maxSteps:=3000000)(disch:=omega)only[push_cast,seval,b3.cell,b3.free];generalize (w2.alloc (.cells #[.slice none 0 0] 32 (0,0))).setCell ⟨w2.heap.size,0,none⟩ (.slice (some ⟨g2,0,none⟩) (ofC ys).length c2)=w3 at *;have r1':RowD eC w3 (Old w) (.slice (some ⟨g,0,none⟩) (ofC xs).length c) (ofC xs):=r1.go aA (u2.trans u3 fun _ _ h=>h) fun b _ h=>h.elim (fun h=>h.elim) id;have r2':SlD eC w3 (Old w1) (.slice (some ⟨g2,0,none⟩) (ofC ys).length c2) (ofC ys):=(r2.go (F':=Old w1) aA u3 fun b _ h=>h.elim (fun h=>h.elim) id).slD aA;refine Ok.use (Z2 r1' mx (by omega) b4 (by omega) r2' hg1 my (cU hy) (by omega)) ?_;rintro u w4 ⟨k,rfl,r4,u4⟩;simp(maxSteps:=3000000)(disch:=omega)only[push_cast,seval];refine⟨r4,((u1.trans u2 fun _ _ h=>h).trans u3 fun _ _ h=>h).trans u4 fun b hb h=>?_⟩;subst h;exact r1.free rfl hb
open Go
set_option maxRecDepth 100000
theorem uB : ∀(x y:List UInt8),Op.bytesLess x y=decide (Lib.compareBytes x y<0)
 | [],[]=>rfl
 | [],_ :: _=>rfl
 | _ :: _,[]=>rfl
 | a :: x,b :: y=>by
  rw[dN];unfold Op.bytesLess;rcases eZ a b with h | h | h
  ·simp[h]
  ·subst h;simp[dL,uB x y]
  ·have h2:=dM h;have h3 : ¬a=b:=fun e=>by subst e; exact dL h
   simp[h,h2,h3]
theorem uC : ∀(x y:List UInt8),Lib.compareBytes x y = -1∨Lib.compareBytes x y=0∨Lib.compareBytes x y=1
 | [],[]=>.inr (.inl rfl)
 | [],_ :: _=>.inl rfl
 | _ :: _,[]=>.inr (.inr rfl)
 | a :: x,b :: y=>by
  rw[dN];split
  ·exact .inl rfl
  ·split
   ·exact .inr (.inr rfl)
   ·exact uC x y
theorem Z4 {P:Program}{t:TypeId}{ox oy:Operand}{x y:ByteArray}{w:World}:binS P .lss t ox oy (.string x) (.string y) w=some (.bool (decide (Lib.compareBytes x.data.toList y.data.toList<0)),w):=by
 rw[←uB,←ByteArray.toList_eq,←ByteArray.toList_eq];simp[binS,lift,eqGuard,binOp,Op.stringOp]
theorem mV {b:Bool}{w:World}:Ok (den Tryz.prog 127 #[.bool b] w) fun u w'=>u = .int .i64 (if b then -1 else 1)∧w=w':=by
 refine aB (args:=[.bool b]) rs127 Tryz.func127 rfl mixed (by kernel_rfl) R7 rfl ?_;cases b <;> simp(disch:=omega)only[push_cast,seval] <;> simp
set_option maxHeartbeats 4000000 in
theorem mW {w:World}{G H:Nat→Prop}{c d:Cmd}{cs ds:List Value}(hc:eC.C w G c cs)(hd:eC.C w H d ds)(hl:(encC c).length≤80000000)(hl2:(encC d).length≤80000000) :
 Ok (den Tryz.prog 76 #[.agg cs.toArray,.agg ds.toArray] w) fun u w'=>u = .int .i64 (cmpC c d)∧Upd NoB w w':=by
 refine aB (args:=[.agg cs.toArray,.agg ds.toArray]) rs76 Tryz.func76 rfl mixed (by kernel_rfl) QR rfl ?_;have kc:=aA.len hc;have kd:=aA.len hd;rw[aD];generalize hKs:KS _ _ _ _ _=Ks;simp(disch:=omega)only[push_cast,seval];have b0:=(Blk.new (w:=w) (cs:=cs) (E:=76)).alloc (.cells ds.toArray 76 (0,0));have b1:=Blk.new (w:=w.alloc (.cells cs.toArray 76 (0,0))) (cs:=ds) (E:=76);have u0:Upd NoB w ((w.alloc (.cells cs.toArray 76 (0,0))).alloc (.cells ds.toArray 76 (0,0))):=Upd.alloc.alloc';rw[aI] at b1;generalize (w.alloc (.cells cs.toArray 76 (0,0))).alloc (.cells ds.toArray 76 (0,0))=w2 at *;have lA : ∀{w':World},Upd NoB w2 w'→ldS Tryz.prog 76 (.pointer (some ⟨w.heap.size,0,none⟩)) w'=some (.agg cs.toArray,w'):=fun u=>aJ (P:=Tryz.prog) (t:=76) (b0.upd u (fun h=>h)) (by kernel_rfl) (by rw[kc]; kernel_rfl);have lB : ∀{w':World},Upd NoB w2 w'→ldS Tryz.prog 76 (.pointer (some ⟨w.heap.size+1,0,none⟩)) w'=some (.agg ds.toArray,w'):=fun u=>aJ (P:=Tryz.prog) (t:=76) (b1.upd u (fun h=>h)) (by kernel_rfl) (by rw[kd]; kernel_rfl);have qa : ∀j,w2.cell? ⟨w.heap.size,j,none⟩=cs[j]? :=fun j=>b0.cell j;have qb : ∀j,w2.cell? ⟨w.heap.size+1,j,none⟩=ds[j]? :=fun j=>b1.cell j;have hc':=hc;have hd':=hd;obtain⟨wv,tv,rfl,_⟩:=hc';obtain⟨wv',tv',rfl,_⟩:=hd';subst hKs;rw[aC];by_cases h1:c.client=d.client;rotate_left
 ·simp(maxSteps:=3000000)(disch:=omega)only[push_cast,seval,qa,qb,h1];refine Ok.use mV ?_;rintro v _ ⟨rfl,rfl⟩;simp(maxSteps:=3000000)(disch:=omega)only[push_cast,seval];refine⟨?_,u0⟩;have e1:ordI c.client d.client≠0:=fun h=>h1 (cT.1 h);unfold cmpC;rw[if_pos e1];unfold ordI;by_cases h2:c.client<d.client
  ·simp[h2]
  ·have h3:d.client<c.client:=by omega
   simp[h2,h3]
 have h1':=eq_true h1;by_cases h2:c.seq=d.seq;rotate_left
 ·simp(maxSteps:=3000000)(disch:=omega)only[push_cast,seval,qa,qb,h1',h2];refine Ok.use mV ?_;rintro v _ ⟨rfl,rfl⟩;simp(maxSteps:=3000000)(disch:=omega)only[push_cast,seval];refine⟨?_,u0⟩;have e1 : ¬ordI c.client d.client≠0:=fun h=>h (cT.2 h1);have e2:ordI c.seq d.seq≠0:=fun h=>h2 (cT.1 h);unfold cmpC;rw[if_neg e1,if_pos e2];unfold ordI;by_cases h2:c.seq<d.seq
  ·simp[h2]
  ·have h3:d.seq<c.seq:=by omega
   simp[h2,h3]
 have e1 : ¬ordI c.client d.client≠0:=fun h=>h (cT.2 h1);have e2 : ¬ordI c.seq d.seq≠0:=fun h=>h (cT.2 h2);have h2':=eq_true h2;have e3:cmpC c d=ordL (encC c) (encC d):=by unfold cmpC; rw[if_neg e1,if_neg e2]
 have v2:Upd NoB w w2.drew:=u0.drew';simp(maxSteps:=3000000)(disch:=omega)only[push_cast,seval,↓aE,↓aF,qa,qb,h1',h2',lA Upd.drew];refine Ok.use (eJ (aA.q hc v2) hl) ?_;rintro v w3 ⟨h3,_,u3'⟩;have u3:Upd NoB w2 w3:=Upd.drew.trans u3' fun _ _ h=>h;obtain⟨va,vc,rfl,_⟩:=h3.form;simp(maxSteps:=3000000)(disch:=omega)only[push_cast,seval,↓aE,↓aF,lA Upd.drew,lB Upd.drew,lB u3,aN (h3.q Upd.refl)];refine Ok.use (eJ (aA.q hd (v2.trans u3' fun _ _ h=>h)) hl2) ?_;rintro v w4 ⟨h4,_,u4⟩;obtain⟨xa,xc,rfl,_⟩:=h4.form;have v4:=(v2.trans u3' fun _ _ h=>h).trans u4 fun _ _ h=>h;have hse:=dX (bI (cZ hc)) (bI (cZ hd));by_cases he:encC c=encC d
 ·simp(maxSteps:=3000000)(disch:=omega)only[push_cast,seval,↓aE,↓aF,lA Upd.drew,lB Upd.drew,lB u3,aN (h3.q Upd.refl),aN (h3.q u4),aN (h4.q Upd.refl),hse,eq_true he];refine⟨?_,v4⟩;rw[e3,(mL (bI (cZ hc)) (bI (cZ hd))).2 he]
 ·simp(maxSteps:=3000000)(disch:=omega)only[push_cast,seval,↓aE,↓aF,lA Upd.drew,lB Upd.drew,lB u3,aN (h3.q Upd.refl),aN (h3.q u4),aN (h4.q Upd.refl),hse,he,Z4];refine Ok.use mV ?_;rintro v _ ⟨rfl,rfl⟩;simp(maxSteps:=3000000)(disch:=omega)only[push_cast,seval];refine⟨?_,v4⟩;have hne:ordL (encC c) (encC d)≠0:=fun h=>he ((mL (bI (cZ hc)) (bI (cZ hd))).1 h);rw[e3];unfold ordL at hne ⊢;have hr:=uC (strOfNums (encC c)).data.toList (strOfNums (encC d)).data.toList;generalize Lib.compareBytes (strOfNums (encC c)).data.toList (strOfNums (encC d)).data.toList=r at *;rcases hr with rfl | rfl | rfl
  ·simp
  ·exact absurd rfl hne
  ·simp
open Go
set_option maxRecDepth 100000
theorem SlD.ld {F:Nat→Prop}{w:World}{a:Option Addr}{n c:Nat}{xs:List Cmd}(h:SlD eC w F (.slice a n c) xs){i:Nat}{x:Cmd}(hx:xs[i]? =some x) : ∃(b o:Nat) (cs:List Value),a=some ⟨b,o,none⟩∧eC.C w F x cs∧
 ∀{w':World},Upd NoB w w'→ldS Tryz.prog 76 (.pointer (some ⟨b,o+i*6,none⟩)) w'=some (.agg cs.toArray,w'):=by
 obtain⟨xb,xo,xc,xcs,hvv,hxl,_,hcx,hcell⟩:=h.at_ hx;injection hvv with e1 _ e3;exact⟨xb,xo,xcs,e1,hcx,fun hu=>ldC (aA.q hcx hu) (SlD.old (e:=eC) hxl hu (fun h=>h) hcell)⟩
set_option maxHeartbeats 4000000 in
theorem uD {w:World}{F G:Nat→Prop}{v:Value}{l:List Cmd}{t:Cmd}{ts:List Value}(hv:SlD eC w F v l)(hl : ∀x,x∈l→CmdS x)(ht:eC.C w G t ts)(st:CmdS t)(hn:l.length≤1000000) :
 Ok (den Tryz.prog 110 #[v,.agg ts.toArray] w) fun u w'=>u = .bool (decide (t∈l))∧Upd NoB w w':=by
 obtain⟨va,vc,rfl,_⟩:=hv.form;refine aB (args:=[.slice va l.length vc,.agg ts.toArray]) rs110 Tryz.func110 rfl mixed (by kernel_rfl) RO rfl ?_;have kt:=aA.len ht;rw[aD];generalize hKs:KS _ _ _ _ _=Ks;simp(disch:=omega)only[push_cast,seval];have b1:=Blk.new (w:=w) (cs:=ts) (E:=76);have u1:Upd NoB w (w.alloc (.cells ts.toArray 76 (0,0))):=Upd.alloc;generalize w.alloc (.cells ts.toArray 76 (0,0))=w1 at *;have lT : ∀{w':World},Upd NoB w1 w'→ldS Tryz.prog 76 (.pointer (some ⟨w.heap.size,0,none⟩)) w'=some (.agg ts.toArray,w'):=fun u=>aJ (P:=Tryz.prog) (t:=76) (b1.upd u (fun h=>h)) (by kernel_rfl) (by rw[kt]; kernel_rfl);subst hKs;rw[aC];simp(disch:=omega)only[push_cast,seval];refine aG (I:=fun k st w'=>Bx (∃i:Nat,k+i=l.length∧st = [.int .i64 (i:Int)]∧Upd NoB w1 w'∧t∉l.take i) ⟨⟩) ?_ l.length ⟨0,rfl,rfl,Upd.refl,by simp⟩;rintro k sv w2 ⟨i,hk,rfl,u2,hno⟩;have v2:=u1.trans u2 fun _ _ h=>h;by_cases hk0:k=0
 ·obtain rfl:i=l.length:=by omega
  rw[List.take_length] at hno;simp(maxSteps:=3000000)(disch:=omega)only[push_cast,seval];exact v2
 have hx:=List.getElem?_eq_getElem (l:=l) (i:=i) (by omega);generalize l[i]=x at *;have sx:=hl x (List.mem_of_getElem? hx);obtain⟨b,o,cs,rfl,hcx,lx⟩:=(hv.q aA v2).ld hx;have ei:((i:Int)).toNat=i:=by omega
 simp(maxSteps:=3000000)(disch:=omega)only[push_cast,seval,ei,lx Upd.drew,lT (u2.trans Upd.drew fun _ _ h=>h)];refine Ok.use (mW (aA.q hcx Upd.drew) (aA.q ht (v2.trans (Upd.drew (F:=NoB)) fun _ _ h=>h)) sx.2 st.2) ?_;rintro u w3 ⟨rfl,u3⟩;have v3:Upd NoB w2 w3:=Upd.drew.trans u3 fun _ _ h=>h;by_cases hz:cmpC x t=0
 ·simp(maxSteps:=3000000)(disch:=omega)only[push_cast,seval,ei,lx Upd.drew,lT (u2.trans Upd.drew fun _ _ h=>h),lx v3,lT (u2.trans v3 fun _ _ h=>h),hz];rw[(fA sx st).1 hz] at hx;exact⟨by rw[decide_eq_true (List.mem_of_getElem? hx)],v2.trans v3 fun _ _ h=>h⟩
 ·simp(maxSteps:=3000000)(disch:=omega)only[push_cast,seval,ei,lx Upd.drew,lT (u2.trans Upd.drew fun _ _ h=>h),lx v3,lT (u2.trans v3 fun _ _ h=>h),hz];refine⟨k-1,by omega,i+1,by omega,by simp,u2.trans v3 fun _ _ h=>h,?_⟩;rw[bS hx,List.mem_append,List.mem_singleton];rintro(h | h)
  ·exact hno h
  ·subst h;exact hz jI
theorem RowD.swap {F:Nat→Prop}{g n cap:Nat}{w:World}{zs:List Cmd}(h:RowD eC w F (.slice (some ⟨g,0,none⟩) n cap) zs){i j:Nat}{x y:Cmd}(hx:zs[i]? =some x)(hy:zs[j]? =some y) : ∃(cs ds:List Value) (w1 w2:World),
 ldS Tryz.prog 76 (.pointer (some ⟨g,i*6,none⟩)) w.drew=some (.agg cs.toArray,w.drew)∧
 ldS Tryz.prog 76 (.pointer (some ⟨g,j*6,none⟩)) w.drew=some (.agg ds.toArray,w.drew)∧
 stS Tryz.prog 76 (.pointer (some ⟨g,i*6,none⟩)) (.agg ds.toArray) w.drew=some (undef,w1)∧
 stS Tryz.prog 76 (.pointer (some ⟨g,j*6,none⟩)) (.agg cs.toArray) w1=some (undef,w2)∧RowD eC w2 F (.slice (some ⟨g,0,none⟩) n cap) ((zs.set i y).set j x)∧Upd (fun b=>b=g) w w2:=by
 obtain⟨cs,hcx,lx⟩:=h.ld hx;obtain⟨ds,hcy,ly⟩:=h.ld hy;have hn:=h.cap.1;have keep : ∀{c:Cmd} {zs:List Value} {w1 w2:World} {G:Nat→Prop},eC.C w1 (fun b=>F b∨b=g) c zs→Upd G w1 w2→(∀b,G b→b=g)→eC.C w2 (fun b=>F b∨b=g) c zs:=fun hc hu hG=>aA.go hc hu fun b _ h=>h.elim (fun h=>.inr (hG b h)) id;have h0:RowD eC w.drew F (.slice (some ⟨g,0,none⟩) n cap) zs:=h.go aA (Upd.drew (F:=NoB)) fun b _ h=>h.elim (fun h=>h.elim) id;have es:eC.s=6:=rfl;have es':eC.E=76:=rfl;obtain⟨w1,s1,r1,u1,_⟩:=eY aA (P:=Tryz.prog) (by kernel_rfl) h0 (i:=i) (List.getElem?_eq_some_iff.1 hx).1 hn (keep hcy (Upd.drew (F:=NoB)) fun _ h=>h.elim);have hcx1:=keep (keep hcx (Upd.drew (F:=NoB)) fun _ h=>h.elim) u1 fun _ h=>h;obtain⟨w2,s2,r2,u2,_⟩:=eY aA (P:=Tryz.prog) (by kernel_rfl) r1 (i:=j) (by rw[List.length_set]; exact(List.getElem?_eq_some_iff.1 hy).1) (by rw[List.length_set]; exact hn) hcx1;rw[es,es'] at s1 s2;exact⟨cs,ds,w1,w2,lx Upd.drew,ly Upd.drew,s1,s2,r2,((Upd.drew (F:=fun b=>b=g)).trans u1 fun _ _ h=>h).trans u2 fun _ _ h=>h⟩
structure Sink (ys : List Cmd) (x : Cmd) (k : Nat) (zs : List Cmd) : Prop where
 le:k≤ys.length
 eq:zs=ys.take k ++ (x :: ys.drop k)
 gt : ∀z,z∈ys.drop k→cmpC x z<0
theorem Sink.len {ys zs:List Cmd}{x:Cmd}{k:Nat}(h:Sink ys x k zs):zs.length=ys.length+1:=by
 have h1:=h.le;rw[h.eq];simp;omega
theorem Sink.at_ {ys zs:List Cmd}{x:Cmd}{k:Nat}(h:Sink ys x k zs):zs[k]? =some x:=by
 have h1:=h.le;rw[h.eq,List.getElem?_append_right (by simp; omega)];simp;rw[show k-min k ys.length=0 from by omega];rfl
theorem Sink.prev {ys zs:List Cmd}{x:Cmd}{k:Nat}(h:Sink ys x (k+1) zs):zs[k]? =ys[k]? :=by
 have h1:=h.le;rw[h.eq,List.getElem?_append_left (by simp; omega),List.getElem?_take,if_pos (by omega)]
theorem Sink.down {ys zs:List Cmd}{x y:Cmd}{k:Nat}(h:Sink ys x (k+1) zs)(hy:ys[k]? =some y)(hlt:cmpC x y<0):Sink ys x k ((zs.set k x).set (k+1) y) where
 le:=by have:=h.le; omega
 eq:=by
  have h1:=h.le;rw[h.eq];have e1:ys.take (k+1)=ys.take k ++ [y]:=bS hy;have e2:ys.drop k=y :: ys.drop (k+1):=by
   obtain⟨h2,rfl⟩:=List.getElem?_eq_some_iff.1 hy;exact List.drop_eq_getElem_cons h2
  rw[e1,e2];have hk:(ys.take k).length=k:=by simp; omega
  rw[List.append_assoc,List.set_append_right _ _ (by omega),List.set_append_right _ _ (by omega),hk,Nat.sub_self,show k+1-k=1 from by omega];rfl
 gt z hz:=by
  have e2:ys.drop k=y :: ys.drop (k+1):=by
   obtain⟨h2,rfl⟩:=List.getElem?_eq_some_iff.1 hy;exact List.drop_eq_getElem_cons h2
  rw[e2] at hz;rcases List.mem_cons.1 hz with rfl | hz
  ·exact hlt
  ·exact h.gt z hz
theorem Sink.start {ys:List Cmd}{x:Cmd}:Sink ys x ys.length (ys ++ [x]):=⟨Nat.le_refl _,by simp,fun z hz=>by simp at hz⟩
theorem Sink.mem {ys zs:List Cmd}{x z:Cmd}{k:Nat}(h:Sink ys x k zs):z∈zs↔z=x∨z∈ys:=by
 have e:z∈ys↔z∈ys.take k∨z∈ys.drop k:=by rw[←List.mem_append,List.take_append_drop]
 rw[h.eq,List.mem_append,List.mem_cons,e];constructor
 ·rintro(h | h | h) <;> simp[h]
 ·rintro(h | h | h) <;> simp[h]
theorem Sink.srt {ys zs:List Cmd}{x:Cmd}{k:Nat}(h:Sink ys x k zs)(hs:ys.Pairwise (fun a b=>cmpC a b<0))(hlo : ∀z,z∈ys.take k→cmpC z x<0):zs.Pairwise (fun a b=>cmpC a b<0):=by
 rw[h.eq,List.pairwise_append,List.pairwise_cons];have e:ys.take k ++ ys.drop k=ys:=List.take_append_drop k ys;rw[←e,List.pairwise_append] at hs;refine⟨hs.1,⟨h.gt,hs.2.1⟩,fun a ha b hb=>?_⟩;rcases List.mem_cons.1 hb with rfl | hb
 ·exact hlo a ha
 ·exact hs.2.2 a ha b hb
theorem mX {w:World}:bslS Tryz.prog 32 0 #[] w=some (.slice (some ⟨w.heap.size,0,none⟩) 0 0,w.alloc (.cells [].toArray 76 (0,0))):=by kernel_rfl
theorem uE {w:World}:RowD eC (w.alloc (.cells [].toArray 76 (0,0))) (Old w) (.slice (some ⟨w.heap.size,0,none⟩) 0 0) []:=RowD.empty (e:=eC) (Blk.new (w:=w) (cs:=[]) (E:=76)) (fun h=>Nat.lt_irrefl _ h)
def FO (F:Nat→Prop)(w:World)(b:Nat):Prop:=F b∧Old w b
theorem FO.lt {F:Nat→Prop}{w w':World}{G:Nat→Prop}(hu:Upd G w w') : ∀b,FO F w b→b<w'.heap.size:=fun _ h=>Nat.lt_of_lt_of_le h.2 hu.size
theorem uF {F:Nat→Prop}{w:World}:RowD eC (w.alloc (.cells [].toArray 76 (0,0))) (FO F w) (.slice (some ⟨w.heap.size,0,none⟩) 0 0) []:=(uE (w:=w)).go aA (Upd.refl (F:=NoB)) fun _ _ h=>h.elim (fun h=>h.elim) fun h=>h.2
theorem SlD.fo {F:Nat→Prop}{w w':World}{v:Value}{xs:List Cmd}(h:SlD eC w F v xs)(hu:Upd NoB w w'){H:Nat→Prop}(hH : ∀b,H b→w.heap.size≤b):SlD eC w' (fun b=>FO F w b∨H b) v xs:=h.go aA hu fun b hb h=>h.elim (fun h=>h.elim) fun h=>h.elim (fun h=>h.1) fun h=>by have:=hH b h; omega
set_option maxHeartbeats 8000000 in
theorem mY {w:World}{F:Nat→Prop}{v:Value}{xs:List Cmd}(hv:SlD eC w F v xs)(hs : ∀x,x∈xs→CmdS x)(hn:xs.length≤1000000) :
 Ok (den Tryz.prog 83 #[v] w) fun u w'=>RowD eC w' (FO F w) u (ofC xs)∧Upd NoB w w'∧∀g,u.ownBlock=some g→w.heap.size≤g:=by
 obtain⟨va,vc,rfl,_⟩:=hv.form;refine aB (args:=[.slice va xs.length vc]) rs83 Tryz.func83 rfl mixed (by kernel_rfl) QX rfl ?_;have r1:=uE (w:=w);have u1:Upd NoB w (w.alloc (.cells [].toArray 76 (0,0))):=Upd.alloc;simp(disch:=omega)only[push_cast,seval,mX];generalize w.alloc (.cells [].toArray 76 (0,0))=w1 at *;have q1:RowD eC w1 (FO F w) (.slice (some ⟨w.heap.size,0,none⟩) 0 0) []:=r1.go aA (Upd.refl (F:=NoB)) fun _ _ h=>h.elim (fun h=>h.elim) fun h=>h.2;refine aG (I:=fun k st w'=>Bx (∃(i:Nat) (o:Value) (ys:List Cmd),k+i=xs.length∧st = [o,.int .i64 (i:Int)]∧RowD eC w' (FO F w) o ys∧(∀g,o.ownBlock=some g→w.heap.size≤g)∧Upd NoB w w'∧ys.length≤i∧ys.Pairwise (fun a b=>cmpC a b<0)∧(∀z,z∈ys↔z∈xs.take i)) ⟨⟩) ?_ xs.length ⟨0,_,[],rfl,rfl,q1,fun g hg=>Nat.le_of_eq (Option.some.inj hg),u1,Nat.le_refl _,List.Pairwise.nil,by simp⟩;clear q1 r1;rintro k st w2 ⟨i,o,ys,hk,rfl,h2,f2,u2,yl,yp,ym⟩;obtain⟨oa,oc,rfl⟩:=h2.form;by_cases hk0:k=0
 ·obtain rfl:i=xs.length:=by omega
  rw[List.take_length] at ym;have e:=gS hs (gR yp) ym;simp(maxSteps:=3000000)(disch:=omega)only[push_cast,seval];rw[←e];exact⟨h2,u2,f2⟩
 have hx:=List.getElem?_eq_getElem (l:=xs) (i:=i) (by omega);generalize xs[i]=x at *;have sx:=hs x (List.mem_of_getElem? hx);have sy : ∀y,y∈ys→CmdS y:=fun y hy=>hs y (List.mem_of_mem_take ((ym y).1 hy));obtain⟨b,o',cs,rfl,hcx,lx⟩:=(hv.fo u2 (H:=fun b=>w.heap.size≤b) fun _ h=>h).ld hx;have ei:((i:Int)).toNat=i:=by omega
 simp(maxSteps:=3000000)(disch:=omega)only[push_cast,seval,ei,lx Upd.refl];refine Ok.use (uD (h2.slD aA) sy hcx sx (by omega)) ?_;rintro u w3 ⟨rfl,u3⟩;have v3:=u2.trans u3 fun _ _ h=>h;have h3:RowD eC w3 (FO F w) (.slice oa ys.length oc) ys:=h2.go aA u3 fun b _ h=>h.elim (fun h=>h.elim) id;by_cases hm:x∈ys
 ·simp(maxSteps:=3000000)(disch:=omega)only[push_cast,seval,hm];refine⟨k-1,by omega,i+1,_,ys,by omega,rfl,h3,f2,v3,by omega,yp,fun z=>?_⟩;rw[bS hx,List.mem_append,List.mem_singleton,←ym z];exact⟨.inl,fun h=>h.elim id fun h=>h ▸ hm⟩
 have hcx3:eC.C w3 (fun b=>FO F w b∨(Value.slice oa ys.length oc).ownBlock=some b) x cs:=aA.go hcx u3 fun b hb h=>by
  rcases h with h | h | h
  ·exact h.elim
  ·exact .inl h
  ·exact .inr (f2 b h)
 simp(maxSteps:=3000000)(disch:=omega)only[push_cast,seval,hm,ei,lx u3,mB hcx3];refine mA h3 hcx3 (FO.lt v3) (by omega) ?_;intro v' w4 r4 u4 f4;have g4 : ∀g,v'.ownBlock=some g→w.heap.size≤g:=fun g hg=>(f4 g hg).elim (f2 g) fun h=>Nat.le_trans v3.size h.1;have v4:Upd NoB w w4:=v3.trans u4 fun b hb h=>by have:=f2 b h; omega
 have hl4:(ys ++ [x]).length=ys.length+1:=by simp
 obtain⟨g,c4,rfl,hg4,_⟩:=r4.form0 (i:=0) (x:=(ys ++ [x])[0]) (List.getElem?_eq_getElem (by omega));have hgw:w.heap.size≤g:=g4 g rfl;rw[hl4] at r4;have eL:(ys.length:Int)+1-1=ys.length:=by omega
 simp(maxSteps:=3000000)(disch:=omega)only[push_cast,seval,hl4,eL];refine aG (I:=fun k st w'=>Bx (∃(m:Nat) (zs:List Cmd),k=m∧st = [.int .i64 (m:Int)]∧Sink ys x m zs∧RowD eC w' (FO F w) (.slice (some ⟨g,0,none⟩) (ys.length+1) c4) zs∧Upd NoB w w') ⟨⟩) ?_ ys.length ⟨ys.length,ys ++ [x],rfl,rfl,Sink.start,r4,v4⟩;rintro m st w5 ⟨m',zs,rfl,rfl,sk,h5,u5⟩;have hsl:zs.length=ys.length+1:=sk.len;have fin : ∀{w6:World},Upd NoB w5 w6→(∀z,z∈ys.take m→cmpC z x<0)→∃(ys':List Cmd),RowD eC w6 (FO F w) (.slice (some ⟨g,0,none⟩) (ys.length+1) c4) ys'∧ys'.length=ys.length+1∧Upd NoB w w6∧ys'.Pairwise (fun a b=>cmpC a b<0)∧(∀z,z∈ys'↔z∈xs.take (i+1)):=fun u6 hlo=>⟨zs,h5.go aA u6 fun b _ h=>h.elim (fun h=>h.elim) id,hsl,u5.trans u6 fun _ _ h=>h,sk.srt yp hlo,fun z=>by
  rw[sk.mem,bS hx,List.mem_append,List.mem_singleton,ym];exact or_comm⟩
 by_cases hm0:m=0
 ·subst hm0;obtain⟨ys',q1,q2,q3,q4,q5⟩:=fin (Upd.drew (F:=NoB)) (fun z hz=>by simp at hz);simp(maxSteps:=3000000)(disch:=omega)only[push_cast,seval];exact⟨k-1,by omega,i+1,_,ys',by omega,rfl,q1,fun g' hg'=>(Option.some.inj hg') ▸ hgw,q3,by omega,q4,q5⟩
 obtain⟨q,rfl⟩ : ∃q,m=q+1:=⟨m-1,by omega⟩;have hle:=sk.le;have hyq:=List.getElem?_eq_getElem (l:=ys) (i:=q) (by omega);generalize ys[q]=y at *;have syy:=sy y (List.mem_of_getElem? hyq);have zq:zs[q]? =some y:=by rw[sk.prev]; exact hyq
 have zq1:zs[q+1]? =some x:=sk.at_;obtain⟨cx,kx,lx'⟩:=h5.ld zq1;obtain⟨cy,ky,ly'⟩:=h5.ld zq;have e1:((q:Int)+1).toNat=q+1:=by omega
 have e2:((q:Int)+1-1).toNat=q:=by omega
 simp(maxSteps:=3000000)(disch:=omega)only[push_cast,seval,e1,e2,lx' Upd.drew,ly' Upd.drew];refine Ok.use (mW (aA.q ky Upd.drew) (aA.q kx Upd.drew) syy.2 sx.2) ?_;rintro u w6 ⟨rfl,u6⟩;have v6:Upd NoB w5 w6:=Upd.drew.trans u6 fun _ _ h=>h;have hne:cmpC y x≠0:=fun h=>hm ((fA syy sx).1 h ▸ List.mem_of_getElem? hyq);by_cases hgt:0<cmpC y x
 ·have hlt:cmpC x y<0:=tW hgt;have h6:RowD eC w6 (FO F w) (.slice (some ⟨g,0,none⟩) (ys.length+1) c4) zs:=h5.go aA v6 fun b _ h=>h.elim (fun h=>h.elim) id;obtain⟨cs',ds',w7,w8,s1,s2,s3,s4,h8,u8⟩:=h6.swap (i:=q) (j:=q+1) zq zq1;simp(maxSteps:=3000000)(disch:=omega)only[push_cast,seval,e1,e2,lx' Upd.drew,ly' Upd.drew,lx' v6,ly' v6,hgt,s1,s2,s3,s4];exact⟨q,by omega,q,_,rfl,by simp,sk.down hyq hlt,h8,(u5.trans v6 fun _ _ h=>h).trans u8 fun b hb h=>by omega⟩
 ·obtain⟨ys',q1,q2,q3,q4,q5⟩:=fin v6 (fun z hz=>by
   have hyx:cmpC y x<0:=by omega
   rw[bS hyq] at hz;rcases List.mem_append.1 hz with hz | hz
   ·obtain⟨p,hp⟩:=List.getElem?_of_mem hz;rw[List.getElem?_take] at hp;split at hp
    ·rw[List.pairwise_iff_getElem] at yp;obtain⟨a1,a2⟩:=List.getElem?_eq_some_iff.1 hp;obtain⟨a3,a4⟩:=List.getElem?_eq_some_iff.1 hyq;have:=yp p q a1 a3 (by omega);rw[a2,a4] at this;exact dB this hyx
    ·cases hp
   ·rw[List.mem_singleton] at hz;rw[hz];exact hyx)
  simp(maxSteps:=3000000)(disch:=omega)only[push_cast,seval,e1,e2,lx' Upd.drew,ly' Upd.drew,lx' v6,ly' v6,hgt];exact⟨k-1,by omega,i+1,_,ys',by omega,rfl,q1,fun g' hg'=>(Option.some.inj hg') ▸ hgw,q3,by omega,q4,q5⟩
end Go.Proofs.YtpgigkceoolgeaaGreatDoor.Fd
