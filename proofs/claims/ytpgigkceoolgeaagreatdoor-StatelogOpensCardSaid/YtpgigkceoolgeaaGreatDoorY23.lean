import Derived.Test.YtpgigkceoolgeaaGreatDoorY22
set_option linter.all false
namespace Go.Proofs.YtpgigkceoolgeaaGreatDoor.Fd
open Go
set_option maxRecDepth 100000
noncomputable instance decCmd:DecidableEq Cmd:=fun _ _=>Classical.propDecidable _
theorem fdiv2 {n:Nat}:((n:Int)).fdiv (2 ^ min 1 IntKind.u64.bits)=((n/2:Nat):Int):=by
 rw [b64u,show (2:Int) ^ min 1 64=2 from rfl,Int.fdiv_eq_ediv_of_nonneg _ (by omega)]
 omega
set_option maxHeartbeats 8000000 in
theorem search_ok {w:World} {F G:Nat→Prop} {v:Value} {l:List Cmd} {t:Cmd} {ts:List Value} (hv:SlD eC w F v l) (hl : ∀x,x∈l→CmdS x) (hs:SrtC l) (ht:eC.C w G t ts) (st:CmdS t) (hn:l.length≤1000000) :
   Ok (den Tryz.prog 117 #[v,.agg ts.toArray,.func (.func 118) #[] #[]] w) fun u w'=>(∃i:Int,u = .tuple #[.int .i64 i,.bool (decide (t∈l))])∧Upd NoB w w':=by
 obtain ⟨va,vc,rfl,_⟩:=hv.form
 refine den_ok (args:=[.slice va l.length vc,.agg ts.toArray,.func (.func 118) #[] #[]]) rs117 Tryz.func117 rfl mixed in117 ok117 rfl ?_
 have kt:=eC_ok.len ht
 have hp:=hs.pair
 rw [List.pairwise_iff_getElem] at hp
 rw [W_seq]
 generalize hKs:KS _ _ _ _ _=Ks
 simp (disch:=omega) only [push_cast,seval]
 have b1:=Blk.new (w:=w) (cs:=ts) (E:=76)
 have u1:Upd NoB w (w.alloc (.cells ts.toArray 76 (0,0))):=Upd.alloc
 generalize w.alloc (.cells ts.toArray 76 (0,0))=w1 at *
 have lT : ∀{w':World},Upd NoB w1 w'→ldS Tryz.prog 76 (.pointer (some ⟨w.heap.size,0,none⟩)) w'=some (.agg ts.toArray,w'):=fun u=>ld_blk (P:=Tryz.prog) (t:=76) (b1.upd u (fun h=>h)) (by kernel_rfl) (by rw [kt]; kernel_rfl)
 subst hKs
 rw [KS_nor]
 simp (disch:=omega) only [push_cast,seval]
 refine loop_inv (I:=fun k st w'=>Bx (∃i j:Nat,k=j-i∧i≤j∧j≤l.length∧st = [.int .i64 (i:Int),.int .i64 (j:Int)]∧Upd NoB w1 w'∧(∀(p:Nat) (x:Cmd),p<i→l[p]? =some x→cmpC x t<0)∧(∀(p:Nat) (x:Cmd),j≤p→l[p]? =some x→¬cmpC x t<0)) ⟨⟩) ?_ l.length ⟨0,l.length,by omega,by omega,by omega,rfl,Upd.refl,fun p x hp=>by omega,fun p x hp hx=>by rw [List.getElem?_eq_none (by omega)] at hx; cases hx⟩
 rintro k sv w2 ⟨i,j,rfl,hij,hj,rfl,u2,hlo,hhi⟩
 have v2:=u1.trans u2 fun _ _ h=>h
 have hv2:=hv.q eC_ok v2
 have ht2:=eC_ok.q ht v2
 by_cases he:j≤i
 · obtain rfl:i=j:=by omega
   by_cases hil:i<l.length
   · have hx:=List.getElem?_eq_getElem hil
     generalize l[i]=x at *
     have sx:=hl x (List.mem_of_getElem? hx)
     obtain ⟨xb,xo,xc,xcs,hvv,hxl,_,hcx,hcell⟩:=hv2.at_ hx
     injection hvv with e1 _ e3
     subst e1
     subst e3
     have es:eC.s=6:=rfl
     rw [es] at hcell
     have l1 : ∀{w':World},Upd NoB w2 w'→ldS Tryz.prog 76 (.pointer (some ⟨xb,xo+i*6,none⟩)) w'=some (.agg xcs.toArray,w'):=fun u=>ldC (eC_ok.q hcx u) (SlD.old (e:=eC) hxl u (fun h=>h) hcell)
     have ei:((i:Int)).toNat=i:=by omega
     simp (maxSteps:=3000000) (disch:=omega) only [push_cast,seval,ei,l1 Upd.drew,lT (u2.trans Upd.drew fun _ _ h=>h)]
     refine Ok.use (cCompare_ok (eC_ok.q hcx Upd.drew) (eC_ok.q ht2 Upd.drew) sx.2 st.2) ?_
     rintro u w3 ⟨rfl,u3⟩
     have v3:Upd NoB w2 w3:=Upd.drew.trans u3 fun _ _ h=>h
     simp (maxSteps:=3000000) (disch:=omega) only [push_cast,seval,ei,l1 Upd.drew,lT (u2.trans Upd.drew fun _ _ h=>h),l1 v3,lT (u2.trans v3 fun _ _ h=>h)]
     refine ⟨⟨(i:Int),?_⟩,v2.trans v3 fun _ _ h=>h⟩
     have hd : ∀{a b:Bool},a=b→Value.tuple #[.int .i64 (i:Int),.bool a]=Value.tuple #[.int .i64 (i:Int),.bool b]:=fun h=>by rw [h]
     refine hd ?_
     rw [decide_eq_decide]
     constructor
     · intro h
       rw [(cmpC_zero sx st).1 h] at hx
       exact List.mem_of_getElem? hx
     · intro h
       obtain ⟨p,hp'⟩:=List.getElem?_of_mem h
       by_cases hpi:p<i
       · exact absurd (hlo p t hpi hp') lt_irr
       · by_cases hpe:p=i
         · subst hpe
           rw [hx] at hp'
           injection hp' with hp'
           rw [hp']
           exact cmpC_self
         · obtain ⟨q1,q2⟩:=List.getElem?_eq_some_iff.1 hp'
           obtain ⟨q3,q4⟩:=List.getElem?_eq_some_iff.1 hx
           have:=hp i p q3 q1 (by omega)
           rw [q2,q4] at this
           exact absurd this (hhi i x (Nat.le_refl _) hx)
   · simp (maxSteps:=3000000) (disch:=omega) only [push_cast,seval]
     refine ⟨⟨(i:Int),?_⟩,v2.trans (Upd.drew (F:=NoB)) fun _ _ h=>h⟩
     have hd : ∀{a b:Bool},a=b→Value.tuple #[.int .i64 (i:Int),.bool a]=Value.tuple #[.int .i64 (i:Int),.bool b]:=fun h=>by rw [h]
     refine hd (decide_eq_false ?_).symm
     intro h
     obtain ⟨p,hp'⟩:=List.getElem?_of_mem h
     have:=(List.getElem?_eq_some_iff.1 hp').1
     exact absurd (hlo p t (by omega) hp') lt_irr
 obtain ⟨m,hm⟩ : ∃m:Nat,m=(i+j)/2:=⟨_,rfl⟩
 have hx:=List.getElem?_eq_getElem (l:=l) (i:=m) (by omega)
 generalize l[m]=x at *
 have sx:=hl x (List.mem_of_getElem? hx)
 obtain ⟨xb,xo,xc,xcs,hvv,hxl,_,hcx,hcell⟩:=hv2.at_ hx
 injection hvv with e1 _ e3
 subst e1
 subst e3
 have es:eC.s=6:=rfl
 rw [es] at hcell
 have l1 : ∀{w':World},Upd NoB w2 w'→ldS Tryz.prog 76 (.pointer (some ⟨xb,xo+m*6,none⟩)) w'=some (.agg xcs.toArray,w'):=fun u=>ldC (eC_ok.q hcx u) (SlD.old (e:=eC) hxl u (fun h=>h) hcell)
 obtain ⟨s,hs'⟩ : ∃s:Nat,s=i+j:=⟨_,rfl⟩
 have f1:(i:Int)+j=s:=by omega
 have f2:IntKind.u64.wrap (s:Int)=s:=u64_len (by omega)
 have f3:((s:Int)).fdiv (2 ^ min 1 IntKind.u64.bits)=(m:Int):=by rw [fdiv2]; omega
 have f4:IntKind.u64.wrap (m:Int)=m:=u64_len (by omega)
 have em:((m:Int)).toNat=m:=by omega
 have hm1:i≤m∧m<j:=by omega
 have f3':((s:Int)).fdiv (2 ^ 1)=(m:Int):=by rw [←f3]; rfl
 have f5:IntKind.i64.wrap (m:Int)=m:=i64_id ⟨by omega,by omega⟩
 simp (maxSteps:=3000000) (disch:=omega) only [push_cast,seval,f1,f2,f3,f4,f5,em,cnv_i_u,cnv_u_ib,l1 Upd.drew,lT (u2.trans Upd.drew fun _ _ h=>h)]
 refine Ok.use (cCompare_ok (eC_ok.q hcx Upd.drew) (eC_ok.q ht2 Upd.drew) sx.2 st.2) ?_
 rintro u w3 ⟨rfl,u3⟩
 have v3:Upd NoB w2 w3:=Upd.drew.trans u3 fun _ _ h=>h
 by_cases hlt:cmpC x t<0
 · simp (maxSteps:=3000000) (disch:=omega) only [push_cast,seval,em,l1 Upd.drew,lT (u2.trans Upd.drew fun _ _ h=>h),l1 v3,lT (u2.trans v3 fun _ _ h=>h),hlt]
   refine ⟨j-(m+1),by omega,m+1,j,by omega,by omega,by omega,by simp,u2.trans v3 fun _ _ h=>h,fun p y hp' hy=>?_,hhi⟩
   by_cases hpm:p=m
   · subst hpm
     rw [hx] at hy
     injection hy with hy
     rw [←hy]
     exact hlt
   · obtain ⟨q1,q2⟩:=List.getElem?_eq_some_iff.1 hy
     obtain ⟨q3,q4⟩:=List.getElem?_eq_some_iff.1 hx
     have:=hp p m q1 q3 (by omega)
     rw [q2,q4] at this
     exact cmpC_tr this hlt
 · simp (maxSteps:=3000000) (disch:=omega) only [push_cast,seval,em,l1 Upd.drew,lT (u2.trans Upd.drew fun _ _ h=>h),l1 v3,lT (u2.trans v3 fun _ _ h=>h),hlt]
   refine ⟨m-i,by omega,i,m,by omega,by omega,by omega,by simp,u2.trans v3 fun _ _ h=>h,hlo,fun p y hp' hy=>?_⟩
   by_cases hpm:p=m
   · subst hpm
     rw [hx] at hy
     injection hy with hy
     rw [←hy]
     exact hlt
   · obtain ⟨q1,q2⟩:=List.getElem?_eq_some_iff.1 hy
     obtain ⟨q3,q4⟩:=List.getElem?_eq_some_iff.1 hx
     have:=hp m p q3 q1 (by omega)
     rw [q2,q4] at this
     exact fun h=>hlt (cmpC_tr this h)
theorem minusf_ok {w:World} {F G:Nat→Prop} {B E:Nat} {v:Value} {l:List Cmd} {t:Cmd} {ts:List Value} (hB:Blk w B [v] E) (hv:SlD eC w F v l) (hl : ∀x,x∈l→CmdS x) (hs:SrtC l) (ht:eC.C w G t ts) (st:CmdS t) (hn:l.length≤1000000) :
   Ok (den Tryz.prog 116 #[.agg ts.toArray,.pointer (some ⟨B,0,none⟩)] w) fun u w'=>u = .bool (decide (t∈l))∧Upd NoB w w':=by
 obtain ⟨va,vc,rfl,_⟩:=hv.form
 refine den_ok (args:=[.agg ts.toArray,.pointer (some ⟨B,0,none⟩)]) rs116 Tryz.func116 rfl mixed in116 ok116 rfl ?_
 have kt:=eC_ok.len ht
 rw [W_seq]
 generalize hKs:KS _ _ _ _ _=Ks
 simp (disch:=omega) only [push_cast,seval]
 have b1:=Blk.new (w:=w) (cs:=ts) (E:=76)
 have u1:Upd NoB w (w.alloc (.cells ts.toArray 76 (0,0))):=Upd.alloc
 have hB1:=hB.upd u1 fun h=>h
 generalize w.alloc (.cells ts.toArray 76 (0,0))=w1 at *
 have lT:=ld_blk (P:=Tryz.prog) (t:=76) b1 (by kernel_rfl) (by rw [kt]; kernel_rfl)
 subst hKs
 rw [KS_nor]
 simp (maxSteps:=3000000) (disch:=omega) only [push_cast,seval,hB1.cell,lT]
 refine Ok.use (search_ok (hv.q eC_ok u1) hl hs (eC_ok.q ht u1) st hn) ?_
 rintro u w2 ⟨⟨i,rfl⟩,u2⟩
 simp (maxSteps:=3000000) (disch:=omega) only [push_cast,seval]
 exact u1.trans u2 fun _ _ h=>h
set_option maxHeartbeats 8000000 in
theorem index_ok {w:World} {F H:Nat→Prop} {g cap B E:Nat} {v:Value} {xs l:List Cmd} (h:RowD eC w F (.slice (some ⟨g,0,none⟩) xs.length cap) xs) (hx : ∀x,x∈xs→CmdS x) (hn:xs.length≤1000000) (hB:Blk w B [v] E) (hv:SlD eC w H v l) (hl : ∀x,x∈l→CmdS x) (hs:SrtC l) (hln:l.length≤1000000) :
   Ok (den Tryz.prog 149 #[.slice (some ⟨g,0,none⟩) xs.length cap,.func (.func 116) #[] #[.pointer (some ⟨B,0,none⟩)]] w) fun u w'=>((u = .int .i64 (-1)∧∀x,x∈xs→x∉l)∨∃(i:Nat) (x:Cmd),u = .int .i64 (i:Int)∧xs[i]? =some x∧x∈l∧∀(p:Nat) (y:Cmd),p<i→xs[p]? =some y→y∉l)∧Upd NoB w w':=by
 refine den_ok (args:=[.slice (some ⟨g,0,none⟩) xs.length cap,.func (.func 116) #[] #[.pointer (some ⟨B,0,none⟩)]]) rs149 Tryz.func149 rfl mixed in149 ok149 rfl ?_
 simp (disch:=omega) only [push_cast,seval]
 refine loop_inv (I:=fun k st w'=>Bx (∃i:Nat,k+i=xs.length∧st = [.int .i64 (i:Int)]∧Upd NoB w w'∧∀(p:Nat) (y:Cmd),p<i→xs[p]? =some y→y∉l) ⟨⟩) ?_ xs.length ⟨0,rfl,rfl,Upd.refl,fun p y h=>by omega⟩
 rintro k st w2 ⟨i,hk,rfl,u2,hq⟩
 by_cases hk0:k=0
 · obtain rfl:i=xs.length:=by omega
   simp (disch:=omega) only [push_cast,seval]
   refine ⟨.inl fun x hx'=>?_,u2⟩
   obtain ⟨p,hp⟩:=List.getElem?_of_mem hx'
   exact hq p x (List.getElem?_eq_some_iff.1 hp).1 hp
 have hi:i<xs.length:=by omega
 have hxi:=List.getElem?_eq_getElem hi
 generalize xs[i]=x at *
 obtain ⟨cs,kx,lx⟩:=h.ld hxi
 have ei:((i:Int)).toNat=i:=by omega
 have sx:=hx x (List.mem_of_getElem? hxi)
 simp (maxSteps:=3000000) (disch:=omega) only [push_cast,seval,ei,lx u2]
 refine Ok.use (minusf_ok (hB.upd u2 fun h=>h) (hv.q eC_ok u2) hl hs (eC_ok.q kx u2) sx hln) ?_
 rintro u w3 ⟨rfl,u3⟩
 by_cases hm:x∈l
 · simp (maxSteps:=3000000) (disch:=omega) only [push_cast,seval,hm]
   exact ⟨.inr ⟨i,x,rfl,hxi,hm,hq⟩,u2.trans u3 fun _ _ h=>h⟩
 · simp (maxSteps:=3000000) (disch:=omega) only [push_cast,seval,hm]
   refine ⟨k-1,by omega,i+1,by omega,by simp,u2.trans u3 fun _ _ h=>h,fun p y hp hy=>?_⟩
   by_cases hpi:p=i
   · subst hpi
     rw [hxi] at hy
     injection hy with hy
     rw [←hy]
     exact hm
   · exact hq p y (by omega) hy
open Go
set_option maxRecDepth 100000
theorem filter_snoc {p:Cmd→Bool} {xs:List Cmd} {m:Nat} {y:Cmd} (hy:xs[m]? =some y):(xs.take (m+1)).filter p=(xs.take m).filter p ++ if p y then [y] else []:=by
 rw [take_snoc hy,List.filter_append]
 congr 1
 cases h:p y <;> simp [h]
set_option maxHeartbeats 16000000 in
theorem delete_ok {w:World} {F H:Nat→Prop} {g cap B E:Nat} {v:Value} {xs l:List Cmd} (h:RowD eC w F (.slice (some ⟨g,0,none⟩) xs.length cap) xs) (hx : ∀x,x∈xs→CmdS x) (hn:xs.length≤1000000) (hB:Blk w B [v] E) (hBg:B≠g) (hv:SlD eC w H v l) (hHg:H g) (hl : ∀x,x∈l→CmdS x) (hs:SrtC l) (hln:l.length≤1000000) :
   Ok (den Tryz.prog 115 #[.slice (some ⟨g,0,none⟩) xs.length cap,.func (.func 116) #[] #[.pointer (some ⟨B,0,none⟩)]] w) fun u w'=>∃k,u = .slice (some ⟨g,0,none⟩) k cap∧RowD eC w' F (.slice (some ⟨g,0,none⟩) k cap) (xs.filter fun x=>decide (x∉l))∧Upd (fun b=>b=g) w w':=by
 refine den_ok (args:=[.slice (some ⟨g,0,none⟩) xs.length cap,.func (.func 116) #[] #[.pointer (some ⟨B,0,none⟩)]]) rs115 Tryz.func115 rfl mixed in115 ok115 rfl ?_
 have hg:g<w.heap.size:=h.lt rfl
 have hcap:=h.cap.2
 simp (disch:=omega) only [push_cast,seval]
 refine Ok.use (index_ok h hx hn hB hv hl hs hln) ?_
 rintro u w1 ⟨hu,u1⟩
 have h1:RowD eC w1 F (.slice (some ⟨g,0,none⟩) xs.length cap) xs:=h.go eC_ok u1 fun b _ h=>h.elim (fun h=>h.elim) id
 rcases hu with ⟨rfl,hno⟩ | ⟨i0,x0,rfl,hx0,hm0,hq0⟩
 · simp (disch:=omega) only [push_cast,seval]
   have e:xs.filter (fun x=>decide (x∉l))=xs:=List.filter_eq_self.2 fun x hx'=>decide_eq_true (hno x hx')
   rw [e]
   exact ⟨xs.length,rfl,h1,upd_g u1⟩
 have hi0:=(List.getElem?_eq_some_iff.1 hx0).1
 have hi0' : ¬((i0:Int) = -1):=by omega
 have e0:(xs.take i0).filter (fun x=>decide (x∉l))=xs.take i0:=List.filter_eq_self.2 fun x hx'=>by
   obtain ⟨p,hp⟩:=List.getElem?_of_mem hx'
   rw [List.getElem?_take] at hp
   split at hp
   · exact decide_eq_true (hq0 p x (by assumption) hp)
   · cases hp
 have e1:(xs.take (i0+1)).filter (fun x=>decide (x∉l))=xs.take i0:=by
   rw [filter_snoc hx0,e0,if_neg (by simp [hm0]),List.append_nil]
 simp (disch:=omega) only [push_cast,seval,hi0']
 refine loop_inv (I:=fun k st w'=>Bx (∃(j i:Nat) (zs:List Cmd),i0+1≤j∧j≤xs.length∧k=xs.length-j∧i+1≤j∧zs.length=xs.length∧zs.take i=(xs.take j).filter (fun x=>decide (x∉l))∧(∀p,j≤p→zs[p]? =xs[p]?)∧st = [.int .i64 (i:Int),.int .i64 (j:Int)]∧RowD eC w' F (.slice (some ⟨g,0,none⟩) xs.length cap) zs∧Upd (fun b=>b=g) w w') ⟨⟩) ?_ (xs.length-(i0+1)) ⟨i0+1,i0,xs,by omega,by omega,rfl,by omega,rfl,e1.symm,fun _ _=>rfl,by simp,h1,upd_g u1⟩
 rintro k2 st w3 ⟨j,i,zs,j1,j2,rfl,hij,hzl,hzf,hzx,rfl,h3,u3⟩
 have ecap : ¬cap=i:=by omega
 by_cases hj:xs.length≤j
 · obtain rfl:j=xs.length:=by omega
   rw [List.take_length] at hzf
   rw [←hzl] at h3
   obtain ⟨w4,r1,r2,r3⟩:=clr_row (c:=cap-i) h3 (k:=i) (by omega)
   rw [hzf] at r2
   rw [hzl] at r1
   simp (maxSteps:=3000000) (disch:=omega) only [push_cast,seval,ecap,r1]
   exact ⟨i,rfl,r2,u3.trans r3 fun _ _ h=>h⟩
 have hxj:=List.getElem?_eq_getElem (l:=xs) (i:=j) (by omega)
 generalize xs[j]=x at *
 have sx:=hx x (List.mem_of_getElem? hxj)
 obtain ⟨cs,kx,lx⟩:=h3.ld (i:=j) (by rw [hzx _ (Nat.le_refl _)]; exact hxj)
 have kc:=eC_ok.len kx
 have es:eC.s=6:=rfl
 rw [es] at kc
 have ej:((j:Int)).toNat=j:=by omega
 have ei:((i:Int)).toNat=i:=by omega
 have b3:=Blk.new (w:=w3) (cs:=[.int .i64 0,.int .i64 0,.int .i64 0,.slice none 0 0,.int .i64 0,.slice none 0 0]) (E:=76)
 have u4:Upd NoB w3 (w3.alloc (.cells #[.int .i64 0,.int .i64 0,.int .i64 0,.slice none 0 0,.int .i64 0,.slice none 0 0] 76 (0,0))):=Upd.alloc
 have b4:=b3.setRow (cs':=cs)
 simp (maxSteps:=3000000) (disch:=omega) only [push_cast,seval,ej,lx Upd.refl,zer_cmd,st_blk (P:=Tryz.prog) (t:=76) (cs':=cs) b3 (by rw [kc]; kernel_rfl) (by rw [kc]; rfl) (eC_ok.one kx),ld_blk (P:=Tryz.prog) (t:=76) b4 (by kernel_rfl) (by rw [kc]; kernel_rfl)]
 have u5:=u4.trans (Upd.setRow (F:=fun b=>b=w3.heap.size) (w:=w3.alloc (.cells #[.int .i64 0,.int .i64 0,.int .i64 0,.slice none 0 0,.int .i64 0,.slice none 0 0] 76 (0,0))) (g:=w3.heap.size) (cs:=cs.toArray) rfl) (F:=NoB) (fun b h1 h2=>by omega)
 generalize (w3.alloc (.cells #[.int .i64 0,.int .i64 0,.int .i64 0,.slice none 0 0,.int .i64 0,.slice none 0 0] 76 (0,0))).setRow w3.heap.size cs.toArray=w4 at *
 have v4:Upd (fun b=>b=g) w w4:=u3.trans (upd_g u5) fun _ _ h=>h
 refine Ok.use (minusf_ok (hB.upd v4 hBg) ((hv.go (F':=H) eC_ok v4 fun b _ h=>h.elim (fun h=>h ▸ hHg) id)) hl hs (eC_ok.q kx u5) sx hln) ?_
 rintro u w5 ⟨rfl,u6⟩
 have v6:Upd NoB w3 w5:=u5.trans u6 fun _ _ h=>h
 have h5:RowD eC w5 F (.slice (some ⟨g,0,none⟩) xs.length cap) zs:=h3.go eC_ok v6 fun b _ h=>h.elim (fun h=>h.elim) id
 have v5:Upd (fun b=>b=g) w w5:=u3.trans (upd_g v6) fun _ _ h=>h
 have l6:=ld_blk (P:=Tryz.prog) (t:=76) (b4.upd u6 fun h=>h) (by kernel_rfl) (by rw [kc]; kernel_rfl)
 by_cases hm:x∈l
 · simp (maxSteps:=3000000) (disch:=omega) only [push_cast,seval,hm]
   refine ⟨xs.length-(j+1),by omega,j+1,i,zs,by omega,by omega,rfl,by omega,hzl,?_,fun p hp=>hzx p (by omega),by simp,h5,v5⟩
   rw [hzf,filter_snoc hxj,if_neg (by simp [hm]),List.append_nil]
 · have kx5:eC.C w5 (fun b=>F b∨b=g) x cs:=eC_ok.go kx v6 fun b _ h=>h.elim (fun h=>h.elim) id
   obtain ⟨w6,s6,h6,u7,_⟩:=st_elt eC_ok (P:=Tryz.prog) (by kernel_rfl) h5 (i:=i) (by omega) (by omega) kx5
   rw [es,show eC.E=76 from rfl] at s6
   simp (maxSteps:=3000000) (disch:=omega) only [push_cast,seval,hm,ei,l6,s6]
   refine ⟨xs.length-(j+1),by omega,j+1,i+1,zs.set i x,by omega,by omega,rfl,by omega,by simp [hzl],?_,fun p hp=>?_,by simp,h6,v5.trans u7 fun _ _ h=>h⟩
   · rw [take_snoc (y:=x) (by rw [List.getElem?_set,if_pos rfl,if_pos (by omega)]),List.take_set,List.set_eq_of_length_le (by simp; omega),hzf,filter_snoc hxj,if_pos (by simp [hm])]
   · rw [List.getElem?_set_ne (by omega)]
     exact hzx p (by omega)
noncomputable def minC (xs l:List Cmd):List Cmd:=(ofC xs).filter fun x=>decide (x∉ofC l)
set_option maxHeartbeats 4000000 in
theorem minus_ok {w:World} {F G:Nat→Prop} {a b:Value} {xs ys:List Cmd} (ha:SlD eC w F a xs) (hb:SlD eC w G b ys) (hx : ∀x,x∈xs→CmdS x) (hy : ∀x,x∈ys→CmdS x) (hl:xs.length≤1000000) (hl2:ys.length≤1000000) :
   Ok (den Tryz.prog 66 #[a,b] w) fun u w'=>RowD eC w' (Old w) u (minC xs ys)∧Upd NoB w w':=by
 obtain ⟨aa,ac,rfl,_⟩:=ha.form
 obtain ⟨ba,bc,rfl,_⟩:=hb.form
 refine den_ok (args:=[.slice aa xs.length ac,.slice ba ys.length bc]) rs66 Tryz.func66 rfl mixed in66 ok66 rfl ?_
 have mx : ∀x,x∈ofC xs→CmdS x:=fun x h=>hx x ((ofC_mem hx).1 h)
 have my : ∀x,x∈ofC ys→CmdS x:=fun x h=>hy x ((ofC_mem hy).1 h)
 have lx:=ofC_len (l:=xs)
 have ly:=ofC_len (l:=ys)
 simp (disch:=omega) only [push_cast,seval]
 refine Ok.use (of_ok ha hx hl) ?_
 rintro u w1 ⟨r1,u1,g,c,rfl⟩
 simp (disch:=omega) only [push_cast,seval]
 refine Ok.use (of_ok (hb.q eC_ok u1) hy hl2) ?_
 rintro u' w2 ⟨r2,u2,g2,c2,rfl⟩
 have hg1:g<w1.heap.size:=r1.lt rfl
 have s2:=u2.size
 have u3:Upd NoB w2 ((w2.alloc (.cells #[.slice none 0 0] 32 (0,0))).setCell ⟨w2.heap.size,0,none⟩ (.slice (some ⟨g2,0,none⟩) (ofC ys).length c2)):=Upd.alloc.setNew (Nat.le_refl _)
 have b3:=Blk.new (w:=w2) (cs:=[.slice none 0 0]) (E:=32)
 have b4:=b3.set 0 (.slice (some ⟨g2,0,none⟩) (ofC ys).length c2)
 simp only [List.set_cons_zero] at b4
 simp (maxSteps:=3000000) (disch:=omega) only [push_cast,seval,b3.cell,b3.free]
 generalize (w2.alloc (.cells #[.slice none 0 0] 32 (0,0))).setCell ⟨w2.heap.size,0,none⟩ (.slice (some ⟨g2,0,none⟩) (ofC ys).length c2)=w3 at *
 have r1':RowD eC w3 (Old w) (.slice (some ⟨g,0,none⟩) (ofC xs).length c) (ofC xs):=r1.go eC_ok (u2.trans u3 fun _ _ h=>h) fun b _ h=>h.elim (fun h=>h.elim) id
 have r2':SlD eC w3 (Old w1) (.slice (some ⟨g2,0,none⟩) (ofC ys).length c2) (ofC ys):=(r2.go (F':=Old w1) eC_ok u3 fun b _ h=>h.elim (fun h=>h.elim) id).slD eC_ok
 refine Ok.use (delete_ok r1' mx (by omega) b4 (by omega) r2' hg1 my (ofC_srt hy) (by omega)) ?_
 rintro u w4 ⟨k,rfl,r4,u4⟩
 simp (maxSteps:=3000000) (disch:=omega) only [push_cast,seval]
 refine ⟨r4,((u1.trans u2 fun _ _ h=>h).trans u3 fun _ _ h=>h).trans u4 fun b hb h=>?_⟩
 subst h
 exact r1.free rfl hb
open Go
set_option maxRecDepth 100000
open Go
set_option maxRecDepth 100000
end Go.Proofs.YtpgigkceoolgeaaGreatDoor.Fd
