import Derived.Test.YtpgigkceoolgeaaGreatDoorS019
set_option linter.all false
namespace Go.Proofs.YtpgigkceoolgeaaGreatDoor.Fd
open Go
set_option maxRecDepth 100000
set_option maxHeartbeats 4000000 in
theorem YV {F:Nat→Prop}{g n cap:Nat}{w:World}(hn:n≤1000000000){a b:Nat}(hab:a<b)(hb:b≤n)(h:SR F g n cap w) :
 Ok (den Tryz.prog 178 #[.slice (some ⟨g,0,none⟩) n cap,.int .i64 (a:Int),.int .i64 (b:Int),.func (.func 118) #[] #[]] w) fun u w'=>u = .tuple #[]∧SR F g n cap w'∧Upd (fun b=>b=g) w w':=by
 refine aB (args:=[.slice (some ⟨g,0,none⟩) n cap,.int .i64 (a:Int),.int .i64 (b:Int),.func (.func 118) #[] #[]]) rs178 Tryz.func178 rfl mixed (by kernel_rfl) YK rfl ?_;obtain⟨m,rfl⟩ : ∃m,b=m+1:=⟨b-1,by omega⟩;have em:(m:Int)+1-1=m:=by omega
 simp(disch:=omega)only[push_cast,seval,em];refine aG (I:=fun k st w'=>Bx (∃i j:Nat,j<n∧k=j-i∧st = [.int .i64 (i:Int),.int .i64 (j:Int)]∧SR F g n cap w'∧Upd (fun b=>b=g) w w') ⟨⟩) ?_ (m-a) ⟨a,m,by omega,rfl,rfl,h,Upd.refl⟩;rintro k st w1 ⟨i,j,hj,rfl,rfl,h1,u1⟩;by_cases hij:j≤i
 ·simp(disch:=omega)only[push_cast,seval];exact⟨h1,u1⟩
 obtain⟨l,rfl⟩ : ∃l,j=l+1:=⟨j-1,by omega⟩;obtain⟨cs',ds',w4,w5,s1,s2,s3,s4,h5,u5⟩:=h1.swap (i:=i) (j:=l+1) (by omega) (by omega);have e1:((l:Int)+1).toNat=l+1:=by omega
 have e2:(l:Int)+1-1=l:=by omega
 simp(maxSteps:=3000000)(disch:=omega)only[push_cast,seval,e1,e2,s1,s2,s3,s4];exact⟨l-(i+1),by omega,i+1,l,by omega,rfl,by simp,h5,u1.trans u5 fun _ _ h=>h⟩
set_option maxHeartbeats 8000000 in
theorem tT {F:Nat→Prop}{g n cap:Nat}{w:World}(hn:n≤1000000000){lo hi first:Nat}(hlo:lo≤n)(hb:first+hi≤n)(h:SR F g n cap w) :
 Ok (den Tryz.prog 187 #[.slice (some ⟨g,0,none⟩) n cap,.int .i64 (lo:Int),.int .i64 (hi:Int),.int .i64 (first:Int),.func (.func 118) #[] #[]] w) fun u w'=>u = .tuple #[]∧SR F g n cap w'∧Upd (fun b=>b=g) w w':=by
 refine aB (args:=[.slice (some ⟨g,0,none⟩) n cap,.int .i64 (lo:Int),.int .i64 (hi:Int),.int .i64 (first:Int),.func (.func 118) #[] #[]]) rs187 Tryz.func187 rfl mixed (by kernel_rfl) YO rfl ?_
 simp(disch:=omega)only[push_cast,seval];refine aG (I:=fun k st w'=>Bx (∃r:Nat,r≤n∧k=hi-r∧st = [.int .i64 (r:Int)]∧SR F g n cap w'∧Upd (fun b=>b=g) w w') ⟨⟩) ?_ (hi-lo) ⟨lo,by omega,rfl,rfl,h,Upd.refl⟩;rintro k st w1 ⟨r,hr,rfl,rfl,h1,u1⟩;have ut : ∀{w3:World},Upd NoB w1 w3→Upd (fun b=>b=g) w w3:=fun u=>u1.trans (aZ u) fun _ _ h=>h;obtain⟨c,hc⟩ : ∃c:Nat,c=2*r+1:=⟨_,rfl⟩;have ec:(2:Int)*r+1=c:=by omega
 by_cases hch:hi≤c
 ·simp(disch:=omega)only[push_cast,seval,ec];exact⟨h1,u1⟩
 obtain⟨x,cs,hx,hcx,lx⟩:=h1.ld (i:=first+r) (by omega)
 obtain⟨y,ds,hy,hcy,ly⟩:=h1.ld (i:=first+c) (by omega)
 have e1:((first:Int)+r).toNat=first+r:=by omega
 have e2:((first:Int)+c).toNat=first+c:=by omega
 have e3:((first:Int)+c+1).toNat=first+(c+1):=by omega
 have e4:((first:Int)+(c+1)).toNat=first+(c+1):=by omega
 have main : ∀{w2:World} {c':Nat} {z:Cmd} {es:List Value},Upd NoB w1 w2→c≤c'→c'<hi→True:=fun _ _ _=>trivial;by_cases hc1:c+1<hi
 ·obtain⟨z,es,hz,hcz,lz⟩:=h1.ld (i:=first+(c+1)) (by omega)
  simp(maxSteps:=3000000)(disch:=omega)only[push_cast,seval,ec,e1,e2,e3,e4,lx Upd.drew,ly Upd.drew,lz Upd.drew];refine Ok.use (aY (aA.q hcy Upd.drew) (aA.q hcz Upd.drew) hy hz) ?_;rintro u w3 ⟨rfl,u3⟩;have v3:Upd NoB w1 w3:=Upd.drew.trans u3 fun _ _ h=>h;have v3':Upd NoB w1 w3.drew:=v3.trans (Upd.drew (F:=NoB)) fun _ _ h=>h;by_cases hlt:cmpC y z<0
  ·simp(maxSteps:=3000000)(disch:=omega)only[push_cast,seval,ec,e1,e2,e3,e4,lx Upd.drew,ly Upd.drew,lz Upd.drew,lx v3,ly v3,lz v3,hlt,lx v3',ly v3',lz v3'];refine Ok.use (aY (aA.q hcx v3') (aA.q hcz v3') hx hz) ?_;rintro u w4 ⟨rfl,u4⟩;have v4:Upd NoB w1 w4:=v3'.trans u4 fun _ _ h=>h;by_cases hlt2:cmpC x z<0
   ·obtain⟨cs',ds',w5,w6,s1,s2,s3,s4,h6,u6⟩:=(h1.q v4).swap (i:=first+r) (j:=first+(c+1)) (by omega) (by omega)
    simp(maxSteps:=3000000)(disch:=omega)only[push_cast,seval,ec,e1,e2,e3,e4,lx Upd.drew,ly Upd.drew,lz Upd.drew,lx v3,ly v3,lz v3,hlt,lx v3',ly v3',lz v3',lx v4,ly v4,lz v4,hlt2,s1,s2,s3,s4];exact⟨hi-(c+1),by omega,c+1,by omega,rfl,by simp,h6,(ut v4).trans u6 fun _ _ h=>h⟩
   ·simp(maxSteps:=3000000)(disch:=omega)only[push_cast,seval,ec,e1,e2,e3,e4,lx Upd.drew,ly Upd.drew,lz Upd.drew,lx v3,ly v3,lz v3,hlt,lx v3',ly v3',lz v3',lx v4,ly v4,lz v4,hlt2];exact⟨h1.q v4,ut v4⟩
  ·simp(maxSteps:=3000000)(disch:=omega)only[push_cast,seval,ec,e1,e2,e3,e4,lx Upd.drew,ly Upd.drew,lz Upd.drew,lx v3,ly v3,lz v3,hlt,lx v3',ly v3',lz v3'];refine Ok.use (aY (aA.q hcx v3') (aA.q hcy v3') hx hy) ?_;rintro u w4 ⟨rfl,u4⟩;have v4:Upd NoB w1 w4:=v3'.trans u4 fun _ _ h=>h;by_cases hlt2:cmpC x y<0
   ·obtain⟨cs',ds',w5,w6,s1,s2,s3,s4,h6,u6⟩:=(h1.q v4).swap (i:=first+r) (j:=first+c) (by omega) (by omega)
    simp(maxSteps:=3000000)(disch:=omega)only[push_cast,seval,ec,e1,e2,e3,e4,lx Upd.drew,ly Upd.drew,lz Upd.drew,lx v3,ly v3,lz v3,hlt,lx v3',ly v3',lz v3',lx v4,ly v4,lz v4,hlt2,s1,s2,s3,s4];exact⟨hi-c,by omega,c,by omega,rfl,by simp,h6,(ut v4).trans u6 fun _ _ h=>h⟩
   ·simp(maxSteps:=3000000)(disch:=omega)only[push_cast,seval,ec,e1,e2,e3,e4,lx Upd.drew,ly Upd.drew,lz Upd.drew,lx v3,ly v3,lz v3,hlt,lx v3',ly v3',lz v3',lx v4,ly v4,lz v4,hlt2];exact⟨h1.q v4,ut v4⟩
 ·have v3':Upd NoB w1 w1.drew.drew:=Upd.drew.trans (Upd.drew (F:=NoB)) fun _ _ h=>h;simp(maxSteps:=3000000)(disch:=omega)only[push_cast,seval,ec,e1,e2,e3,e4,lx Upd.drew,ly Upd.drew,lx v3',ly v3'];refine Ok.use (aY (aA.q hcx v3') (aA.q hcy v3') hx hy) ?_;rintro u w4 ⟨rfl,u4⟩;have v4:Upd NoB w1 w4:=v3'.trans u4 fun _ _ h=>h;by_cases hlt2:cmpC x y<0
  ·obtain⟨cs',ds',w5,w6,s1,s2,s3,s4,h6,u6⟩:=(h1.q v4).swap (i:=first+r) (j:=first+c) (by omega) (by omega)
   simp(maxSteps:=3000000)(disch:=omega)only[push_cast,seval,ec,e1,e2,e3,e4,lx Upd.drew,ly Upd.drew,lx v3',ly v3',lx v4,ly v4,hlt2,s1,s2,s3,s4];exact⟨hi-c,by omega,c,by omega,rfl,by simp,h6,(ut v4).trans u6 fun _ _ h=>h⟩
  ·simp(maxSteps:=3000000)(disch:=omega)only[push_cast,seval,ec,e1,e2,e3,e4,lx Upd.drew,ly Upd.drew,lx v3',ly v3',lx v4,ly v4,hlt2];exact⟨h1.q v4,ut v4⟩
open Go
set_option maxRecDepth 100000
set_option maxHeartbeats 4000000 in
theorem YW {F:Nat→Prop}{g n cap:Nat}{w:World}(hn:n≤1000000000){a b:Nat}(hab:a<b)(hb:b≤n)(h:SR F g n cap w) :
 Ok (den Tryz.prog 175 #[.slice (some ⟨g,0,none⟩) n cap,.int .i64 (a:Int),.int .i64 (b:Int),.func (.func 118) #[] #[]] w) fun u w'=>u = .tuple #[]∧SR F g n cap w'∧Upd (fun b=>b=g) w w':=by
 refine aB (args:=[.slice (some ⟨g,0,none⟩) n cap,.int .i64 (a:Int),.int .i64 (b:Int),.func (.func 118) #[] #[]]) rs175 Tryz.func175 rfl mixed (by kernel_rfl) YH rfl ?_;obtain⟨m,hm⟩ : ∃m:Nat,b=a+(m+1):=⟨b-a-1,by omega⟩;subst hm;obtain⟨M,hM⟩ : ∃M:Nat,M=m+1:=⟨_,rfl⟩;obtain⟨s,hs⟩ : ∃s:Nat,s=m/2:=⟨_,rfl⟩;have e0:(a:Int)+(m+1)-a=M:=by omega
 have e1:(M:Int)-1=m:=by omega
 have e2:(m:Int).tdiv 2=(s:Int):=by rw[Int.tdiv_eq_ediv_of_nonneg (by omega)]; omega
 simp(disch:=omega)only[push_cast,seval,e0,e1,e2];refine aG (I:=fun k st w'=>Bx (∃i:Int,-1≤i∧i≤m∧k=(i+1).toNat∧st = [.int .i64 i]∧SR F g n cap w'∧Upd (fun b=>b=g) w w') ⟨⟩) ?_ (s+1) ⟨(s:Int),by omega,by omega,by omega,by simp,h,Upd.refl⟩;rintro k st w1 ⟨i,hi,him,rfl,rfl,h1,u1⟩;by_cases hi0:0≤i
 ·obtain⟨l,rfl⟩:=Int.eq_ofNat_of_zero_le hi0;simp(disch:=omega)only[push_cast,seval];refine Ok.use (tT hn (lo:=l) (hi:=M) (first:=a) (by omega) (by omega) h1) ?_
  rintro u w2 ⟨rfl,h2,u2⟩;simp(disch:=omega)only[push_cast,seval];exact⟨l,by omega,(l:Int)-1,by omega,by omega,by omega,by simp,h2,u1.trans u2 fun _ _ h=>h⟩
 simp(disch:=omega)only[push_cast,seval,e1];refine aG (I:=fun k st w'=>Bx (∃i:Int,-1≤i∧i≤m∧k=(i+1).toNat∧st = [.int .i64 i]∧SR F g n cap w'∧Upd (fun b=>b=g) w w') ⟨⟩) ?_ (m+1) ⟨(m:Int),by omega,by omega,by omega,by simp,h1,u1⟩;rintro k st w2 ⟨j,hj,hjm,rfl,rfl,h2,u2⟩;by_cases hj0:0≤j
 ·obtain⟨l,rfl⟩:=Int.eq_ofNat_of_zero_le hj0;obtain⟨cs',ds',w4,w5,s1,s2,s3,s4,h5,u5⟩:=h2.swap (i:=a) (j:=a+l) (by omega) (by omega);have e3:((a:Int)+l).toNat=a+l:=by omega
  simp(maxSteps:=3000000)(disch:=omega)only[push_cast,seval,e3,s1,s2,s3,s4];refine Ok.use (tT hn (lo:=0) (hi:=l) (first:=a) (by omega) (by omega) h5) ?_
  rintro u w6 ⟨rfl,h6,u6⟩;simp(disch:=omega)only[push_cast,seval];exact⟨l,by omega,(l:Int)-1,by omega,by omega,by omega,by simp,h6,(u2.trans u5 fun _ _ h=>h).trans u6 fun _ _ h=>h⟩
 ·simp(disch:=omega)only[push_cast,seval];exact⟨h2,u2⟩
set_option maxHeartbeats 16000000 in
theorem YX {F:Nat→Prop}{g n cap:Nat}{w:World}(hn:n≤1000000000){a b p:Nat}(hap:a≤p)(hpb:p<b)(hb:b≤n)(h:SR F g n cap w) :
 Ok (den Tryz.prog 181 #[.slice (some ⟨g,0,none⟩) n cap,.int .i64 (a:Int),.int .i64 (b:Int),.int .i64 (p:Int),.func (.func 118) #[] #[]] w) fun u w'=>(∃(j:Nat) (t:Bool),u = .tuple #[.int .i64 (j:Int),.bool t]∧a≤j∧j<b)∧SR F g n cap w'∧Upd (fun b=>b=g) w w':=by
 refine aB (args:=[.slice (some ⟨g,0,none⟩) n cap,.int .i64 (a:Int),.int .i64 (b:Int),.int .i64 (p:Int),.func (.func 118) #[] #[]]) rs181 Tryz.func181 rfl mixed (by kernel_rfl) YN rfl ?_;obtain⟨cs0,ds0,w2,w3,s1,s2,s3,s4,h3,u3⟩:=h.swap (i:=a) (j:=p) (by omega) (by omega);obtain⟨m,hbm⟩ : ∃m,b=m+1:=⟨b-1,by omega⟩;subst hbm;have em:(m:Int)+1-1=m:=by omega
 simp(maxSteps:=3000000)(disch:=omega)only[push_cast,seval,s1,s2,s3,s4,em];clear s1 s2 s3 s4 h em;generalize hKA:KO _=KA;have hB : ∀(ρ:Env) (w5:World) (i m':Nat),ρ 0 = .slice (some ⟨g,0,none⟩) n cap→ρ 1 = .int .i64 (a:Int)→ρ 4 = .func (.func 118) #[] #[]→ρ 12 = .int .i64 (i:Int)→ρ 13 = .int .i64 (m':Int)→a+1≤i→i≤m+1→m'=m→SR F g n cap w5→Upd (fun b=>b=g) w w5→KA ((.exit 0,ρ),w5):=by
  intro ρ w5 i m' p0 p1 p4 p12 p13 q1 q2 q3 h5 u5;rw[q3] at p13;clear q3 m';subst hKA;simp(maxSteps:=3000000)(disch:=omega)only[push_cast,seval,p0,p1,p4,p12,p13];generalize hKB:KO _=KB';have hC : ∀(ρ:Env) (w5:World) (j:Nat),ρ 0 = .slice (some ⟨g,0,none⟩) n cap→ρ 1 = .int .i64 (a:Int)→ρ 4 = .func (.func 118) #[] #[]→ρ 12 = .int .i64 (i:Int)→ρ 13 = .int .i64 (j:Int)→a≤j→j≤m→SR F g n cap w5→Upd (fun b=>b=g) w w5→KB' ((.exit 2,ρ),w5):=by
   intro ρ2 w6 j z0 z1 z4 z12 z13 r1 r2 h6 u6;subst hKB;by_cases hij:j<i
   ·obtain⟨cs1,ds1,w7,w8,s1,s2,s3,s4,h8,u8⟩:=h6.swap (i:=j) (j:=a) (by omega) (by omega);simp(maxSteps:=3000000)(disch:=omega)only[push_cast,seval,z0,z1,z4,z12,z13,s1,s2,s3,s4];exact⟨⟨j,true,rfl,by omega,by omega⟩,h8,u6.trans u8 fun _ _ h=>h⟩
   obtain⟨L,hL⟩ : ∃L:Nat,j=L+1:=⟨j-1,by omega⟩;subst hL;have eL:(L:Int)+1-1=L:=by omega
   have eM:((L:Int)+1).toNat=L+1:=by omega
   obtain⟨cs1,ds1,w7,w8,s1,s2,s3,s4,h8,u8⟩:=h6.swap (i:=i) (j:=L+1) (by omega) (by omega);simp(maxSteps:=3000000)(disch:=omega)only[push_cast,seval,z0,z1,z4,z12,z13,s1,s2,s3,s4,eL,eM];have v8:Upd (fun b=>b=g) w w8:=u6.trans u8 fun _ _ h=>h;clear s1 s2 s3 s4;refine aG (I:=fun k st w'=>Bx (∃i j:Nat,a+1≤i∧i≤m+1∧a≤j∧j≤m∧k=m+1+j-i∧st = [.int .i64 (i:Int),.int .i64 (j:Int)]∧SR F g n cap w'∧Upd (fun b=>b=g) w w') ⟨⟩) ?_ (m+1+L-(i+1)) ⟨i+1,L,by omega,by omega,by omega,by omega,rfl,by simp,h8,v8⟩;rintro ko st w9 ⟨io,jo,o1,o2,o3,o4,hko,rfl,h9,u9⟩;simp(maxSteps:=3000000)(disch:=omega)only[push_cast,seval,z0,z1,z4];generalize hKC:KO _=KC;have hD : ∀(ρ:Env) (w5:World) (i' j':Nat),ρ 0 = .slice (some ⟨g,0,none⟩) n cap→ρ 1 = .int .i64 (a:Int)→ρ 4 = .func (.func 118) #[] #[]→ρ 12 = .int .i64 (i':Int)→ρ 13 = .int .i64 (j':Int)→io≤i'→i'≤m+1→j'=jo→SR F g n cap w5→Upd (fun b=>b=g) w w5→KC ((.exit 6,ρ),w5):=by
    intro ρ3 w10 i' j' y0 y1 y4 y12 y13 t1 t2 t3 h10 u10;rw[t3] at y13;clear t3 j';subst hKC;simp(maxSteps:=3000000)(disch:=omega)only[push_cast,seval,y0,y1,y4,y12,y13];generalize hKD:KO _=KD';have hE : ∀(ρ:Env) (w5:World) (j':Nat),ρ 0 = .slice (some ⟨g,0,none⟩) n cap→ρ 1 = .int .i64 (a:Int)→ρ 4 = .func (.func 118) #[] #[]→ρ 12 = .int .i64 (i':Int)→ρ 13 = .int .i64 (j':Int)→a≤j'→j'≤jo→SR F g n cap w5→Upd (fun b=>b=g) w w5→KD' ((.exit 8,ρ),w5):=by
     intro ρ4 w11 j' x0 x1 x4 x12 x13 f1 f2 h11 u11;subst hKD;by_cases hij':j'<i'
     ·obtain⟨cs1,ds1,w7',w8',s1,s2,s3,s4,h12,u12⟩:=h11.swap (i:=j') (j:=a) (by omega) (by omega);simp(maxSteps:=3000000)(disch:=omega)only[push_cast,seval,x0,x1,x4,x12,x13,z0,z1,z4,s1,s2,s3,s4];exact⟨⟨j',false,rfl,by omega,by omega⟩,h12,u11.trans u12 fun _ _ h=>h⟩
     obtain⟨L',hL'⟩ : ∃L:Nat,j'=L+1:=⟨j'-1,by omega⟩;subst hL';have eL':(L':Int)+1-1=L':=by omega
     have eM':((L':Int)+1).toNat=L'+1:=by omega
     obtain⟨cs1,ds1,w7',w8',s1,s2,s3,s4,h12,u12⟩:=h11.swap (i:=i') (j:=L'+1) (by omega) (by omega);simp(maxSteps:=3000000)(disch:=omega)only[push_cast,seval,x0,x1,x4,x12,x13,s1,s2,s3,s4,eL',eM'];exact⟨m+1+L'-(i'+1),by omega,i'+1,L',by omega,by omega,by omega,by omega,rfl,by simp,h12,u11.trans u12 fun _ _ h=>h⟩
    refine aG (I:=fun k st w'=>Bx (∃jj:Nat,a≤jj∧jj≤jo∧k=jj∧st = [.int .i64 (jj:Int)]∧SR F g n cap w'∧Upd (fun b=>b=g) w w') ⟨⟩) ?_ jo ⟨jo,by omega,by omega,rfl,by simp,h10,u10⟩;rintro kq st wq ⟨jj,hq1,hq2,hkq,rfl,hq,uq⟩;have utq : ∀{w3:World},Upd NoB wq w3→Upd (fun b=>b=g) w w3:=fun u=>uq.trans (aZ u) fun _ _ h=>h;by_cases hgq:jj<i'
    ·simp(maxSteps:=3000000)(disch:=omega)only[push_cast,seval,y0,y1,y4,y12,];exact hE _ _ jj (by first | rfl | exact y0) (by first | rfl | exact y1) (by first | rfl | exact y4) (by first | rfl | exact y12) rfl (by omega) (by omega) (hq.drew) (utq Upd.drew)
    obtain⟨Lq,hLq⟩ : ∃L:Nat,jj=L+1:=⟨jj-1,by omega⟩;subst hLq;have eLq:(Lq:Int)+1-1=Lq:=by omega
    have eMq:((Lq:Int)+1).toNat=Lq+1:=by omega
    obtain⟨cAq,csAq,hAq,kAq,lAq⟩:=hq.ld (i:=a) (by omega);obtain⟨cIq,csIq,hIq,kIq,lIq⟩:=hq.ld (i:=Lq+1) (by omega);simp(maxSteps:=3000000)(disch:=omega)only[push_cast,seval,y0,y1,y4,y12,lAq Upd.drew,lIq Upd.drew,eLq,eMq];refine Ok.use (aY (aA.q kIq Upd.drew) (aA.q kAq Upd.drew) hIq hAq) ?_;rintro u wxq ⟨rfl,uxq⟩;have vq:Upd NoB wq wxq:=Upd.drew.trans uxq fun _ _ h=>h;by_cases hltq:cmpC cIq cAq<0
    ·simp(maxSteps:=3000000)(disch:=omega)only[push_cast,seval,y0,y1,y4,y12,lAq Upd.drew,lIq Upd.drew,lAq vq,lIq vq,hltq,eLq,eMq];exact hE _ _ (Lq+1) (by first | rfl | exact y0) (by first | rfl | exact y1) (by first | rfl | exact y4) (by first | rfl | exact y12) rfl (by omega) (by omega) (hq.q vq) (utq vq)
    ·simp(maxSteps:=3000000)(disch:=omega)only[push_cast,seval,y0,y1,y4,y12,lAq Upd.drew,lIq Upd.drew,lAq vq,lIq vq,hltq,eLq,eMq];subst hkq;exact⟨Lq,by omega,Lq,by omega,by omega,rfl,by simp,hq.q vq,utq vq⟩
   refine aG (I:=fun k st w'=>Bx (∃ii:Nat,io≤ii∧ii≤m+1∧k=m+1-ii∧st = [.int .i64 (ii:Int)]∧SR F g n cap w'∧Upd (fun b=>b=g) w w') ⟨⟩) ?_ (m+1-(io)) ⟨io,by omega,by omega,rfl,by simp,h9,u9⟩;rintro kp st wp ⟨ii,hp1,hp2,hkp,rfl,hp,up⟩;have utp : ∀{w3:World},Upd NoB wp w3→Upd (fun b=>b=g) w w3:=fun u=>up.trans (aZ u) fun _ _ h=>h;by_cases hgp:jo<ii
   ·simp(maxSteps:=3000000)(disch:=omega)only[push_cast,seval,z0,z1,z4,];exact hD _ _ ii jo (by first | rfl | exact z0) (by first | rfl | exact z1) (by first | rfl | exact z4) rfl rfl (by omega) (by omega) rfl (hp.drew) (utp Upd.drew)
   obtain⟨cAp,csAp,hAp,kAp,lAp⟩:=hp.ld (i:=a) (by omega);obtain⟨cIp,csIp,hIp,kIp,lIp⟩:=hp.ld (i:=ii) (by omega);simp(maxSteps:=3000000)(disch:=omega)only[push_cast,seval,z0,z1,z4,lAp Upd.drew,lIp Upd.drew];refine Ok.use (aY (aA.q kIp Upd.drew) (aA.q kAp Upd.drew) hIp hAp) ?_;rintro u wxp ⟨rfl,uxp⟩;have vp:Upd NoB wp wxp:=Upd.drew.trans uxp fun _ _ h=>h;by_cases hltp:cmpC cIp cAp<0
   ·simp(maxSteps:=3000000)(disch:=omega)only[push_cast,seval,z0,z1,z4,lAp Upd.drew,lIp Upd.drew,lAp vp,lIp vp,hltp];subst hkp;exact⟨m+1-(ii+1),by omega,ii+1,by omega,by omega,rfl,by simp,hp.q vp,utp vp⟩
   ·simp(maxSteps:=3000000)(disch:=omega)only[push_cast,seval,z0,z1,z4,lAp Upd.drew,lIp Upd.drew,lAp vp,lIp vp,hltp];exact hD _ _ ii jo (by first | rfl | exact z0) (by first | rfl | exact z1) (by first | rfl | exact z4) rfl rfl (by omega) (by omega) rfl (hp.q vp) (utp vp)
  refine aG (I:=fun k st w'=>Bx (∃j:Nat,a≤j∧j≤m∧k=j∧st = [.int .i64 (j:Int)]∧SR F g n cap w'∧Upd (fun b=>b=g) w w') ⟨⟩) ?_ m ⟨m,by omega,by omega,rfl,by simp,h5,u5⟩;rintro kb st wb ⟨j,hb1,hb2,hkb,rfl,hb,ub⟩;have utb : ∀{w3:World},Upd NoB wb w3→Upd (fun b=>b=g) w w3:=fun u=>ub.trans (aZ u) fun _ _ h=>h;by_cases hgb:j<i
  ·simp(maxSteps:=3000000)(disch:=omega)only[push_cast,seval,p0,p1,p4,p12,];exact hC _ _ j (by first | rfl | exact p0) (by first | rfl | exact p1) (by first | rfl | exact p4) (by first | rfl | exact p12) rfl (by omega) (by omega) (hb.drew) (utb Upd.drew)
  obtain⟨Lb,hLb⟩ : ∃L:Nat,j=L+1:=⟨j-1,by omega⟩;subst hLb;have eLb:(Lb:Int)+1-1=Lb:=by omega
  have eMb:((Lb:Int)+1).toNat=Lb+1:=by omega
  obtain⟨cAb,csAb,hAb,kAb,lAb⟩:=hb.ld (i:=a) (by omega);obtain⟨cIb,csIb,hIb,kIb,lIb⟩:=hb.ld (i:=Lb+1) (by omega);simp(maxSteps:=3000000)(disch:=omega)only[push_cast,seval,p0,p1,p4,p12,lAb Upd.drew,lIb Upd.drew,eLb,eMb];refine Ok.use (aY (aA.q kIb Upd.drew) (aA.q kAb Upd.drew) hIb hAb) ?_;rintro u wxb ⟨rfl,uxb⟩;have vb:Upd NoB wb wxb:=Upd.drew.trans uxb fun _ _ h=>h;by_cases hltb:cmpC cIb cAb<0
  ·simp(maxSteps:=3000000)(disch:=omega)only[push_cast,seval,p0,p1,p4,p12,lAb Upd.drew,lIb Upd.drew,lAb vb,lIb vb,hltb,eLb,eMb];exact hC _ _ (Lb+1) (by first | rfl | exact p0) (by first | rfl | exact p1) (by first | rfl | exact p4) (by first | rfl | exact p12) rfl (by omega) (by omega) (hb.q vb) (utb vb)
  ·simp(maxSteps:=3000000)(disch:=omega)only[push_cast,seval,p0,p1,p4,p12,lAb Upd.drew,lIb Upd.drew,lAb vb,lIb vb,hltb,eLb,eMb];subst hkb;exact⟨Lb,by omega,Lb,by omega,by omega,rfl,by simp,hb.q vb,utb vb⟩
 refine aG (I:=fun k st w'=>Bx (∃i:Nat,a+1≤i∧i≤m+1∧k=m+1-i∧st = [.int .i64 (i:Int)]∧SR F g n cap w'∧Upd (fun b=>b=g) w w') ⟨⟩) ?_ (m+1-(a+1)) ⟨a+1,by omega,by omega,rfl,by simp,h3,u3⟩;rintro ka st wa ⟨i,ha1,ha2,hka,rfl,ha,ua⟩;have uta : ∀{w3:World},Upd NoB wa w3→Upd (fun b=>b=g) w w3:=fun u=>ua.trans (aZ u) fun _ _ h=>h;by_cases hga:m<i
 ·simp(maxSteps:=3000000)(disch:=omega)only[push_cast,seval];exact hB _ _ i m rfl rfl rfl rfl rfl (by omega) (by omega) rfl (ha.drew) (uta Upd.drew)
 obtain⟨cAa,csAa,hAa,kAa,lAa⟩:=ha.ld (i:=a) (by omega);obtain⟨cIa,csIa,hIa,kIa,lIa⟩:=ha.ld (i:=i) (by omega);simp(maxSteps:=3000000)(disch:=omega)only[push_cast,seval,lAa Upd.drew,lIa Upd.drew];refine Ok.use (aY (aA.q kIa Upd.drew) (aA.q kAa Upd.drew) hIa hAa) ?_;rintro u wxa ⟨rfl,uxa⟩;have va:Upd NoB wa wxa:=Upd.drew.trans uxa fun _ _ h=>h;by_cases hlta:cmpC cIa cAa<0
 ·simp(maxSteps:=3000000)(disch:=omega)only[push_cast,seval,lAa Upd.drew,lIa Upd.drew,lAa va,lIa va,hlta];subst hka;exact⟨m+1-(i+1),by omega,i+1,by omega,by omega,rfl,by simp,ha.q va,uta va⟩
 ·simp(maxSteps:=3000000)(disch:=omega)only[push_cast,seval,lAa Upd.drew,lIa Upd.drew,lAa va,lIa va,hlta];exact hB _ _ i m rfl rfl rfl rfl rfl (by omega) (by omega) rfl (ha.q va) (uta va)
open Go
set_option maxRecDepth 100000
set_option maxHeartbeats 16000000 in
theorem YY {F:Nat→Prop}{g n cap:Nat}{w:World}(hn:n≤1000000000){a b p:Nat}(hap:a≤p)(hpb:p<b)(hb:b≤n)(h:SR F g n cap w) :
 Ok (den Tryz.prog 180 #[.slice (some ⟨g,0,none⟩) n cap,.int .i64 (a:Int),.int .i64 (b:Int),.int .i64 (p:Int),.func (.func 118) #[] #[]] w) fun u w'=>(∃(j:Nat),u = .int .i64 (j:Int)∧a+1≤j∧j≤b)∧SR F g n cap w'∧Upd (fun b=>b=g) w w':=by
 refine aB (args:=[.slice (some ⟨g,0,none⟩) n cap,.int .i64 (a:Int),.int .i64 (b:Int),.int .i64 (p:Int),.func (.func 118) #[] #[]]) rs180 Tryz.func180 rfl mixed (by kernel_rfl) YM rfl ?_;obtain⟨cs0,ds0,w2,w3,s1,s2,s3,s4,h3,u3⟩:=h.swap (i:=a) (j:=p) (by omega) (by omega);obtain⟨m,hbm⟩ : ∃m,b=m+1:=⟨b-1,by omega⟩;subst hbm;have em:(m:Int)+1-1=m:=by omega
 simp(maxSteps:=3000000)(disch:=omega)only[push_cast,seval,s1,s2,s3,s4,em];clear s1 s2 s3 s4 h em;refine aG (I:=fun k st w'=>Bx (∃i j:Nat,a+1≤i∧i≤m+1∧a≤j∧j≤m∧k=m+1+j-i∧st = [.int .i64 (i:Int),.int .i64 (j:Int)]∧SR F g n cap w'∧Upd (fun b=>b=g) w w') ⟨⟩) ?_ (m+1+m-(a+1)) ⟨a+1,m,by omega,by omega,by omega,by omega,rfl,by simp,h3,u3⟩;rintro ko st w9 ⟨io,jo,o1,o2,o3,o4,hko,rfl,h9,u9⟩;simp(maxSteps:=3000000)(disch:=omega)only[push_cast,seval];generalize hKC:KO _=KC;have hD : ∀(ρ:Env) (w5:World) (i' j':Nat),ρ 0 = .slice (some ⟨g,0,none⟩) n cap→ρ 1 = .int .i64 (a:Int)→ρ 4 = .func (.func 118) #[] #[]→ρ 11 = .int .i64 (i':Int)→ρ 12 = .int .i64 (j':Int)→io≤i'→i'≤m+1→j'=jo→SR F g n cap w5→Upd (fun b=>b=g) w w5→KC ((.exit 2,ρ),w5):=by
  intro ρ3 w10 i' j' y0 y1 y4 y11 y12 t1 t2 t3 h10 u10;rw[t3] at y12;clear t3 j';subst hKC;simp(maxSteps:=3000000)(disch:=omega)only[push_cast,seval,y0,y1,y4,y11,y12];generalize hKD:KO _=KD';have hE : ∀(ρ:Env) (w5:World) (j':Nat),ρ 0 = .slice (some ⟨g,0,none⟩) n cap→ρ 1 = .int .i64 (a:Int)→ρ 4 = .func (.func 118) #[] #[]→ρ 11 = .int .i64 (i':Int)→ρ 12 = .int .i64 (j':Int)→a≤j'→j'≤jo→SR F g n cap w5→Upd (fun b=>b=g) w w5→KD' ((.exit 4,ρ),w5):=by
   intro ρ4 w11 j' x0 x1 x4 x11 x12 f1 f2 h11 u11;subst hKD;by_cases hij':j'<i'
   ·simp(maxSteps:=3000000)(disch:=omega)only[push_cast,seval,x0,x1,x4,x11,x12];exact⟨⟨i',rfl,by omega,by omega⟩,h11,u11⟩
   obtain⟨L',hL'⟩ : ∃L:Nat,j'=L+1:=⟨j'-1,by omega⟩;subst hL';have eL':(L':Int)+1-1=L':=by omega
   have eM':((L':Int)+1).toNat=L'+1:=by omega
   obtain⟨cs1,ds1,w7',w8',s1,s2,s3,s4,h12,u12⟩:=h11.swap (i:=i') (j:=L'+1) (by omega) (by omega);simp(maxSteps:=3000000)(disch:=omega)only[push_cast,seval,x0,x1,x4,x11,x12,s1,s2,s3,s4,eL',eM'];exact⟨m+1+L'-(i'+1),by omega,i'+1,L',by omega,by omega,by omega,by omega,rfl,by simp,h12,u11.trans u12 fun _ _ h=>h⟩
  refine aG (I:=fun k st w'=>Bx (∃jj:Nat,a≤jj∧jj≤jo∧k=jj∧st = [.int .i64 (jj:Int)]∧SR F g n cap w'∧Upd (fun b=>b=g) w w') ⟨⟩) ?_ jo ⟨jo,by omega,by omega,rfl,by simp,h10,u10⟩;rintro kq st wq ⟨jj,hq1,hq2,hkq,rfl,hq,uq⟩;have utq : ∀{w3:World},Upd NoB wq w3→Upd (fun b=>b=g) w w3:=fun u=>uq.trans (aZ u) fun _ _ h=>h;by_cases hgq:jj<i'
  ·simp(maxSteps:=3000000)(disch:=omega)only[push_cast,seval,y0,y1,y4,y11,];exact hE _ _ jj (by first | rfl | exact y0) (by first | rfl | exact y1) (by first | rfl | exact y4) (by first | rfl | exact y11) rfl (by omega) (by omega) (hq.drew) (utq Upd.drew)
  obtain⟨Lq,hLq⟩ : ∃L:Nat,jj=L+1:=⟨jj-1,by omega⟩;subst hLq;have eLq:(Lq:Int)+1-1=Lq:=by omega
  have eMq:((Lq:Int)+1).toNat=Lq+1:=by omega
  obtain⟨cAq,csAq,hAq,kAq,lAq⟩:=hq.ld (i:=a) (by omega);obtain⟨cIq,csIq,hIq,kIq,lIq⟩:=hq.ld (i:=Lq+1) (by omega);simp(maxSteps:=3000000)(disch:=omega)only[push_cast,seval,y0,y1,y4,y11,lAq Upd.drew,lIq Upd.drew,eLq,eMq];refine Ok.use (aY (aA.q kAq Upd.drew) (aA.q kIq Upd.drew) hAq hIq) ?_;rintro u wxq ⟨rfl,uxq⟩;have vq:Upd NoB wq wxq:=Upd.drew.trans uxq fun _ _ h=>h;by_cases hltq:cmpC cAq cIq<0
  ·simp(maxSteps:=3000000)(disch:=omega)only[push_cast,seval,y0,y1,y4,y11,lAq Upd.drew,lIq Upd.drew,lAq vq,lIq vq,hltq,eLq,eMq];subst hkq;exact⟨Lq,by omega,Lq,by omega,by omega,rfl,by simp,hq.q vq,utq vq⟩
  ·simp(maxSteps:=3000000)(disch:=omega)only[push_cast,seval,y0,y1,y4,y11,lAq Upd.drew,lIq Upd.drew,lAq vq,lIq vq,hltq,eLq,eMq];exact hE _ _ (Lq+1) (by first | rfl | exact y0) (by first | rfl | exact y1) (by first | rfl | exact y4) (by first | rfl | exact y11) rfl (by omega) (by omega) (hq.q vq) (utq vq)
 refine aG (I:=fun k st w'=>Bx (∃ii:Nat,io≤ii∧ii≤m+1∧k=m+1-ii∧st = [.int .i64 (ii:Int)]∧SR F g n cap w'∧Upd (fun b=>b=g) w w') ⟨⟩) ?_ (m+1-(io)) ⟨io,by omega,by omega,rfl,by simp,h9,u9⟩;rintro kp st wp ⟨ii,hp1,hp2,hkp,rfl,hp,up⟩;have utp : ∀{w3:World},Upd NoB wp w3→Upd (fun b=>b=g) w w3:=fun u=>up.trans (aZ u) fun _ _ h=>h;by_cases hgp:jo<ii
 ·simp(maxSteps:=3000000)(disch:=omega)only[push_cast,seval];exact hD _ _ ii jo rfl rfl rfl rfl rfl (by omega) (by omega) rfl (hp.drew) (utp Upd.drew)
 obtain⟨cAp,csAp,hAp,kAp,lAp⟩:=hp.ld (i:=a) (by omega);obtain⟨cIp,csIp,hIp,kIp,lIp⟩:=hp.ld (i:=ii) (by omega);simp(maxSteps:=3000000)(disch:=omega)only[push_cast,seval,lAp Upd.drew,lIp Upd.drew];refine Ok.use (aY (aA.q kAp Upd.drew) (aA.q kIp Upd.drew) hAp hIp) ?_;rintro u wxp ⟨rfl,uxp⟩;have vp:Upd NoB wp wxp:=Upd.drew.trans uxp fun _ _ h=>h;by_cases hltp:cmpC cAp cIp<0
 ·simp(maxSteps:=3000000)(disch:=omega)only[push_cast,seval,lAp Upd.drew,lIp Upd.drew,lAp vp,lIp vp,hltp];exact hD _ _ ii jo rfl rfl rfl rfl rfl (by omega) (by omega) rfl (hp.q vp) (utp vp)
 ·simp(maxSteps:=3000000)(disch:=omega)only[push_cast,seval,lAp Upd.drew,lIp Upd.drew,lAp vp,lIp vp,hltp];subst hkp;exact⟨m+1-(ii+1),by omega,ii+1,by omega,by omega,rfl,by simp,hp.q vp,utp vp⟩
set_option maxHeartbeats 16000000 in
theorem YZ {F:Nat→Prop}{g n cap:Nat}{w:World}(hn:n≤1000000000){a b:Nat}(hab:a<b)(hb:b≤n)(h:SR F g n cap w) :
 Ok (den Tryz.prog 179 #[.slice (some ⟨g,0,none⟩) n cap,.int .i64 (a:Int),.int .i64 (b:Int),.func (.func 118) #[] #[]] w) fun u w'=>(∃(t:Bool),u = .bool t)∧SR F g n cap w'∧Upd (fun b=>b=g) w w':=by
 refine aB (args:=[.slice (some ⟨g,0,none⟩) n cap,.int .i64 (a:Int),.int .i64 (b:Int),.func (.func 118) #[] #[]]) rs179 Tryz.func179 rfl mixed (by kernel_rfl) YL rfl ?_;simp(maxSteps:=3000000)(disch:=omega)only[push_cast,seval];refine aG (I:=fun k st w'=>Bx (∃i c:Nat,a+1≤i∧i≤b∧c≤5∧k=5-c∧st = [.int .i64 (i:Int),.int .i64 (c:Int)]∧SR F g n cap w'∧Upd (fun b=>b=g) w w') ⟨⟩) ?_ 5 ⟨a+1,0,by omega,by omega,by omega,rfl,by simp,h,Upd.refl⟩;rintro ko st w9 ⟨io,c,o1,o2,o3,hko,rfl,h9,u9⟩;by_cases hc5:5≤c
 ·simp(maxSteps:=3000000)(disch:=omega)only[push_cast,seval];exact⟨⟨false,rfl⟩,h9,u9⟩
 simp(maxSteps:=3000000)(disch:=omega)only[push_cast,seval];generalize hKC:KO _=KC;have hD : ∀(ρ:Env) (w5:World) (i' c':Nat),ρ 0 = .slice (some ⟨g,0,none⟩) n cap→ρ 1 = .int .i64 (a:Int)→ρ 2 = .int .i64 (b:Int)→ρ 3 = .func (.func 118) #[] #[]→ρ 9 = .int .i64 (i':Int)→ρ 10 = .int .i64 (c':Int)→io≤i'→i'≤b→c'=c→SR F g n cap w5→Upd (fun b=>b=g) w w5→KC ((.exit 2,ρ),w5):=by
  intro ρ3 w10 i' c' y0 y1 y2 y3 y9 y10 t1 t2 t3 h10 u10;rw[t3] at y10;clear t3 c';subst hKC;by_cases hib:i'=b
  ·subst hib;simp(maxSteps:=3000000)(disch:=omega)only[push_cast,seval,y0,y1,y2,y3,y9,y10];exact⟨⟨true,rfl⟩,h10,u10⟩
  have hib' : ¬((i':Int)=(b:Int)):=by omega
  by_cases h50:(b:Int)-a<50
  ·simp(maxSteps:=3000000)(disch:=omega)only[push_cast,seval,y0,y1,y2,y3,y9,y10,hib',h50];exact⟨⟨false,rfl⟩,h10,u10⟩
  obtain⟨L,hL⟩ : ∃L:Nat,i'=L+1:=⟨i'-1,by omega⟩;subst hL;have eL:(L:Int)+1-1=L:=by omega
  have eM:((L:Int)+1).toNat=L+1:=by omega
  obtain⟨cs1,ds1,w7',w8',s1,s2,s3,s4,h12,u12⟩:=h10.swap (i:=L+1) (j:=L) (by omega) (by omega);have v12:Upd (fun b=>b=g) w w8':=u10.trans u12 fun _ _ h=>h;have hib'' : ¬((L:Int)+1=(b:Int)):=by omega
  by_cases hA:(2:Int)≤(L:Int)+1-a
  ·simp(maxSteps:=3000000)(disch:=omega)only[push_cast,seval,y0,y1,y2,y3,y9,y10,hib',hib'',h50,eL,eM,s1,s2,s3,s4,hA];clear s1 s2 s3 s4;generalize hKE:KO _=KE;have hF : ∀(ρ:Env) (w5:World) (i2 c2:Nat),ρ 0 = .slice (some ⟨g,0,none⟩) n cap→ρ 1 = .int .i64 (a:Int)→ρ 2 = .int .i64 (b:Int)→ρ 3 = .func (.func 118) #[] #[]→ρ 9 = .int .i64 (i2:Int)→ρ 10 = .int .i64 (c2:Int)→i2=L+1→c2=c→SR F g n cap w5→Upd (fun b=>b=g) w w5→KE ((.exit 4,ρ),w5):=by
    intro ρ4 w11 i2 c2 z0 z1 z2 z3 z9 z10 f1 f2 h11 u11;rw[f1] at z9;rw[f2] at z10;clear f1 f2 i2 c2;subst hKE;by_cases hB:(2:Int)≤(b:Int)-((L:Int)+1)
    ·simp(maxSteps:=3000000)(disch:=omega)only[push_cast,seval,z0,z1,z2,z3,z9,z10,hB];refine aG (I:=fun k st w'=>Bx (∃j:Nat,1≤j∧j≤b∧k=b-j∧st = [.int .i64 (j:Int)]∧SR F g n cap w'∧Upd (fun b=>b=g) w w') ⟨⟩) ?_ (b-(L+1+1)) ⟨L+1+1,by omega,by omega,rfl,by simp,h11,u11⟩;rintro kk st w13 ⟨j,j1,j2,hkk,rfl,h13,u13⟩;have ut : ∀{w3:World},Upd NoB w13 w3→Upd (fun b=>b=g) w w3:=fun u=>u13.trans (aZ u) fun _ _ h=>h;by_cases hjb:b≤j
     ·simp(maxSteps:=3000000)(disch:=omega)only[push_cast,seval,z0,z1,z2,z3,z9,z10,hB];exact⟨5-(c+1),by omega,L+1,c+1,by omega,by omega,by omega,rfl,by simp,h13,u13⟩
     obtain⟨M,hM⟩ : ∃M:Nat,j=M+1:=⟨j-1,by omega⟩;subst hM;have eM1:(M:Int)+1-1=M:=by omega
     have eM2:((M:Int)+1).toNat=M+1:=by omega
     obtain⟨x,cs,hx,hcx,lx⟩:=h13.ld (i:=M+1) (by omega);obtain⟨y,ds,hy,hcy,ly⟩:=h13.ld (i:=M) (by omega);simp(maxSteps:=3000000)(disch:=omega)only[push_cast,seval,z0,z1,z2,z3,z9,z10,hB,eM1,eM2,lx Upd.drew,ly Upd.drew];refine Ok.use (aY (aA.q hcx Upd.drew) (aA.q hcy Upd.drew) hx hy) ?_;rintro u w14 ⟨rfl,u14⟩;have v14:Upd NoB w13 w14:=Upd.drew.trans u14 fun _ _ h=>h;by_cases hlt:cmpC x y<0
     ·obtain⟨cs',ds',w15,w16,q1,q2,q3,q4,h16,u16⟩:=(h13.q v14).swap (i:=M+1) (j:=M) (by omega) (by omega);simp(maxSteps:=3000000)(disch:=omega)only[push_cast,seval,z0,z1,z2,z3,z9,z10,hB,eM1,eM2,lx Upd.drew,ly Upd.drew,lx v14,ly v14,hlt,q1,q2,q3,q4];exact⟨b-(M+1+1),by omega,M+1+1,by omega,by omega,rfl,by simp,h16,(ut v14).trans u16 fun _ _ h=>h⟩
     ·simp(maxSteps:=3000000)(disch:=omega)only[push_cast,seval,z0,z1,z2,z3,z9,z10,hB,eM1,eM2,lx Upd.drew,ly Upd.drew,lx v14,ly v14,hlt];exact⟨5-(c+1),by omega,L+1,c+1,by omega,by omega,by omega,rfl,by simp,h13.q v14,ut v14⟩
    ·simp(maxSteps:=3000000)(disch:=omega)only[push_cast,seval,z0,z1,z2,z3,z9,z10,hB];exact⟨5-(c+1),by omega,L+1,c+1,by omega,by omega,by omega,rfl,by simp,h11,u11⟩
   refine aG (I:=fun k st w'=>Bx (∃j:Nat,j≤b∧j<n∧k=j∧st = [.int .i64 (j:Int)]∧SR F g n cap w'∧Upd (fun b=>b=g) w w') ⟨⟩) ?_ L ⟨L,by omega,by omega,rfl,rfl,h12,v12⟩;rintro kk st w13 ⟨j,j1,j2,hkk,rfl,h13,u13⟩;have ut : ∀{w3:World},Upd NoB w13 w3→Upd (fun b=>b=g) w w3:=fun u=>u13.trans (aZ u) fun _ _ h=>h;have fin : ∀(ρ:Env) (w5:World),ρ 0 = .slice (some ⟨g,0,none⟩) n cap→ρ 1 = .int .i64 (a:Int)→ρ 2 = .int .i64 (b:Int)→ρ 3 = .func (.func 118) #[] #[]→ρ 9 = .int .i64 ((L+1:Nat):Int)→ρ 10 = .int .i64 (c:Int)→SR F g n cap w5→Upd (fun b=>b=g) w w5→KE ((.exit 4,ρ),w5):=fun ρ w5 a0 a1 a2 a3 a9 a10 hs hu=>hF ρ w5 (L+1) c a0 a1 a2 a3 a9 a10 rfl rfl hs hu;have d0 : ∀{w5:World} {ρ:Env},True:=trivial;by_cases hj0:j<1
   ·simp(maxSteps:=3000000)(disch:=omega)only[push_cast,seval,y0,y1,y2,y3];exact fin _ _ (by first | rfl | exact y0) (by first | rfl | exact y1) (by first | rfl | exact y2) (by first | rfl | exact y3) (by first | rfl | exact y9) (by first | rfl | exact y10) h13 u13
   obtain⟨M,hM⟩ : ∃M:Nat,j=M+1:=⟨j-1,by omega⟩;subst hM;have eM1:(M:Int)+1-1=M:=by omega
   have eM2:((M:Int)+1).toNat=M+1:=by omega
   obtain⟨x,cs,hx,hcx,lx⟩:=h13.ld (i:=M+1) (by omega);obtain⟨y,ds,hy,hcy,ly⟩:=h13.ld (i:=M) (by omega);simp(maxSteps:=3000000)(disch:=omega)only[push_cast,seval,y0,y1,y2,y3,eM1,eM2,lx Upd.drew,ly Upd.drew];refine Ok.use (aY (aA.q hcx Upd.drew) (aA.q hcy Upd.drew) hx hy) ?_;rintro u w14 ⟨rfl,u14⟩;have v14:Upd NoB w13 w14:=Upd.drew.trans u14 fun _ _ h=>h;by_cases hlt:cmpC x y<0
   ·obtain⟨cs',ds',w15,w16,q1,q2,q3,q4,h16,u16⟩:=(h13.q v14).swap (i:=M+1) (j:=M) (by omega) (by omega);simp(maxSteps:=3000000)(disch:=omega)only[push_cast,seval,y0,y1,y2,y3,eM1,eM2,lx Upd.drew,ly Upd.drew,lx v14,ly v14,hlt,q1,q2,q3,q4];exact⟨M,by omega,M,by omega,by omega,rfl,by simp,h16,(ut v14).trans u16 fun _ _ h=>h⟩
   ·simp(maxSteps:=3000000)(disch:=omega)only[push_cast,seval,y0,y1,y2,y3,eM1,eM2,lx Upd.drew,ly Upd.drew,lx v14,ly v14,hlt];exact fin _ _ (by first | rfl | exact y0) (by first | rfl | exact y1) (by first | rfl | exact y2) (by first | rfl | exact y3) (by first | rfl | exact y9) (by first | rfl | exact y10) (h13.q v14) (ut v14)
  by_cases hB:(2:Int)≤(b:Int)-((L:Int)+1)
  ·simp(maxSteps:=3000000)(disch:=omega)only[push_cast,seval,y0,y1,y2,y3,y9,y10,hib',hib'',h50,eL,eM,s1,s2,s3,s4,hA,hB];refine aG (I:=fun k st w'=>Bx (∃j:Nat,1≤j∧j≤b∧k=b-j∧st = [.int .i64 (j:Int)]∧SR F g n cap w'∧Upd (fun b=>b=g) w w') ⟨⟩) ?_ (b-(L+1+1)) ⟨L+1+1,by omega,by omega,rfl,by simp,h12,v12⟩;rintro kk st w13 ⟨j,j1,j2,hkk,rfl,h13,u13⟩;have ut : ∀{w3:World},Upd NoB w13 w3→Upd (fun b=>b=g) w w3:=fun u=>u13.trans (aZ u) fun _ _ h=>h;by_cases hjb:b≤j
   ·simp(maxSteps:=3000000)(disch:=omega)only[push_cast,seval,y0,y1,y2,y3,y9,y10,hib',hib'',h50,eL,eM,s1,s2,s3,s4,hA,hB];exact⟨5-(c+1),by omega,L+1,c+1,by omega,by omega,by omega,rfl,by simp,h13,u13⟩
   obtain⟨M,hM⟩ : ∃M:Nat,j=M+1:=⟨j-1,by omega⟩;subst hM;have eM1:(M:Int)+1-1=M:=by omega
   have eM2:((M:Int)+1).toNat=M+1:=by omega
   obtain⟨x,cs,hx,hcx,lx⟩:=h13.ld (i:=M+1) (by omega);obtain⟨y,ds,hy,hcy,ly⟩:=h13.ld (i:=M) (by omega);simp(maxSteps:=3000000)(disch:=omega)only[push_cast,seval,y0,y1,y2,y3,y9,y10,hib',hib'',h50,eL,eM,s1,s2,s3,s4,hA,hB,eM1,eM2,lx Upd.drew,ly Upd.drew];refine Ok.use (aY (aA.q hcx Upd.drew) (aA.q hcy Upd.drew) hx hy) ?_;rintro u w14 ⟨rfl,u14⟩;have v14:Upd NoB w13 w14:=Upd.drew.trans u14 fun _ _ h=>h;by_cases hlt:cmpC x y<0
   ·obtain⟨cs',ds',w15,w16,q1,q2,q3,q4,h16,u16⟩:=(h13.q v14).swap (i:=M+1) (j:=M) (by omega) (by omega);simp(maxSteps:=3000000)(disch:=omega)only[push_cast,seval,y0,y1,y2,y3,y9,y10,hib',hib'',h50,eL,eM,s1,s2,s3,s4,hA,hB,eM1,eM2,lx Upd.drew,ly Upd.drew,lx v14,ly v14,hlt,q1,q2,q3,q4];exact⟨b-(M+1+1),by omega,M+1+1,by omega,by omega,rfl,by simp,h16,(ut v14).trans u16 fun _ _ h=>h⟩
   ·simp(maxSteps:=3000000)(disch:=omega)only[push_cast,seval,y0,y1,y2,y3,y9,y10,hib',hib'',h50,eL,eM,s1,s2,s3,s4,hA,hB,eM1,eM2,lx Upd.drew,ly Upd.drew,lx v14,ly v14,hlt];exact⟨5-(c+1),by omega,L+1,c+1,by omega,by omega,by omega,rfl,by simp,h13.q v14,ut v14⟩
  ·exfalso; omega
 refine aG (I:=fun k st w'=>Bx (∃ii:Nat,io≤ii∧ii≤b∧k=b-ii∧st = [.int .i64 (ii:Int)]∧SR F g n cap w'∧Upd (fun b=>b=g) w w') ⟨⟩) ?_ (b-io) ⟨io,by omega,by omega,rfl,rfl,h9,u9⟩;rintro kp st wp ⟨ii,hp1,hp2,hkp,rfl,hp,up⟩;have utp : ∀{w3:World},Upd NoB wp w3→Upd (fun b=>b=g) w w3:=fun u=>up.trans (aZ u) fun _ _ h=>h;by_cases hgp:b≤ii
 ·simp(maxSteps:=3000000)(disch:=omega)only[push_cast,seval];exact hD _ _ ii c rfl rfl rfl rfl rfl rfl (by omega) (by omega) rfl hp.drew (utp Upd.drew)
 obtain⟨M,hM⟩ : ∃M:Nat,ii=M+1:=⟨ii-1,by omega⟩;subst hM;have eM1:(M:Int)+1-1=M:=by omega
 have eM2:((M:Int)+1).toNat=M+1:=by omega
 obtain⟨x,cs,hx,hcx,lx⟩:=hp.ld (i:=M+1) (by omega);obtain⟨y,ds,hy,hcy,ly⟩:=hp.ld (i:=M) (by omega);simp(maxSteps:=3000000)(disch:=omega)only[push_cast,seval,eM1,eM2,lx Upd.drew,ly Upd.drew];refine Ok.use (aY (aA.q hcx Upd.drew) (aA.q hcy Upd.drew) hx hy) ?_;rintro u w14 ⟨rfl,u14⟩;have v14:Upd NoB wp w14:=Upd.drew.trans u14 fun _ _ h=>h;by_cases hlt:cmpC x y<0
 ·simp(maxSteps:=3000000)(disch:=omega)only[push_cast,seval,eM1,eM2,lx Upd.drew,ly Upd.drew,lx v14,ly v14,hlt];exact hD _ _ (M+1) c rfl rfl rfl rfl rfl rfl (by omega) (by omega) rfl (hp.q v14) (utp v14)
 ·simp(maxSteps:=3000000)(disch:=omega)only[push_cast,seval,eM1,eM2,lx Upd.drew,ly Upd.drew,lx v14,ly v14,hlt];exact⟨b-(M+1+1),by omega,M+1+1,by omega,by omega,rfl,by simp,hp.q v14,utp v14⟩
end Go.Proofs.YtpgigkceoolgeaaGreatDoor.Fd
