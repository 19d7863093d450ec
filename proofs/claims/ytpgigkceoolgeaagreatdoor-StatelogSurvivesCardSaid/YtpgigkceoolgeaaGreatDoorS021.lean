import Derived.Test.YtpgigkceoolgeaaGreatDoorS020
import Derived.Shelf.Small.Bits
import Derived.Lib.ItoaNum
import Derived.Shelf.SlSortCmp.WholeK
import Derived.Shelf.SlLaysF0
import Derived.Shelf.SlGeneric
import Derived.Ground.SlsfProg
import Derived.Test.YtpgigkceoolgeaaGreatDoorProg
set_option linter.all false
namespace Go.Proofs.YtpgigkceoolgeaaGreatDoor.Fd
open Go Go.Shelf
set_option maxRecDepth 100000
set_option maxHeartbeats 4000000 in
theorem mO {F:Nat→Prop}{g n cap p E:Nat}{w:World}(hn:n≤1000000000){a b:Nat}{s:Int}(ha:a<n)(hb:b<n)(h:SR F g n cap w)(hp:Blk w p [.int .i64 s] E)(hF:F p) :
 Ok (den Tryz.prog 193 #[.slice (some ⟨g,0,none⟩) n cap,.int .i64 (a:Int),.int .i64 (b:Int),.pointer (some ⟨p,0,none⟩),.func (.func 118) #[] #[]] w) fun u w'=>(∃x y:Nat,u = .tuple #[.int .i64 (x:Int),.int .i64 (y:Int)]∧((x=a∧y=b)∨(x=b∧y=a)))∧SR F g n cap w'∧(∃s',Blk w' p [.int .i64 s'] E)∧Upd (fun b=>b=p) w w':=by
 refine aB (args:=[.slice (some ⟨g,0,none⟩) n cap,.int .i64 (a:Int),.int .i64 (b:Int),.pointer (some ⟨p,0,none⟩),.func (.func 118) #[] #[]]) rs193 Tryz.func193 rfl mixed (by kernel_rfl) YT rfl ?_;obtain⟨x,cs,hx,hcx,lx⟩:=h.ld (i:=b) hb;obtain⟨y,ds,hy,hcy,ly⟩:=h.ld (i:=a) ha;simp(maxSteps:=3000000)(disch:=omega)only[push_cast,seval,lx Upd.drew,ly Upd.drew];refine Ok.use (aY (aA.q hcx Upd.drew) (aA.q hcy Upd.drew) hx hy) ?_;rintro u w3 ⟨rfl,u3⟩;have v3:Upd NoB w w3:=Upd.drew.trans u3 fun _ _ h=>h;have p3:=hp.upd v3 fun h=>h;by_cases hlt:cmpC x y<0
 ·simp(maxSteps:=3000000)(disch:=omega)only[push_cast,seval,lx Upd.drew,ly Upd.drew,lx v3,ly v3,hlt,p3.cell,p3.free];have p4:=p3.set 0 (.int .i64 (IntKind.i64.wrap (s+1)));simp only[List.set_cons_zero] at p4;have u4:Upd (fun b=>b=p) w3 (w3.setCell ⟨p,0,none⟩ (.int .i64 (IntKind.i64.wrap (s+1)))):=Upd.set rfl;exact⟨⟨b,a,rfl,.inr ⟨rfl,rfl⟩⟩,(h.q v3).go u4 fun b _ h=>h.elim (fun h=>h ▸ hF) id,⟨_,p4⟩,(v3.mono fun _ _ h=>h.elim).trans u4 fun _ _ h=>h⟩
 ·simp(maxSteps:=3000000)(disch:=omega)only[push_cast,seval,lx Upd.drew,ly Upd.drew,lx v3,ly v3,hlt];exact⟨⟨a,b,rfl,.inl ⟨rfl,rfl⟩⟩,h.q v3,⟨_,p3⟩,v3.mono fun _ _ h=>h.elim⟩
set_option maxHeartbeats 4000000 in
theorem mP {F:Nat→Prop}{g n cap p E lo hi:Nat}{w:World}(hn:n≤1000000000){a b c:Nat}{s:Int}(hhi:hi≤n)(ha:lo≤a∧a<hi)(hb:lo≤b∧b<hi)(hc:lo≤c∧c<hi)(h:SR F g n cap w)(hp:Blk w p [.int .i64 s] E)(hF:F p) :
 Ok (den Tryz.prog 191 #[.slice (some ⟨g,0,none⟩) n cap,.int .i64 (a:Int),.int .i64 (b:Int),.int .i64 (c:Int),.pointer (some ⟨p,0,none⟩),.func (.func 118) #[] #[]] w) fun u w'=>(∃x:Nat,u = .int .i64 (x:Int)∧lo≤x∧x<hi)∧SR F g n cap w'∧(∃s',Blk w' p [.int .i64 s'] E)∧Upd (fun b=>b=p) w w':=by
 refine aB (args:=[.slice (some ⟨g,0,none⟩) n cap,.int .i64 (a:Int),.int .i64 (b:Int),.int .i64 (c:Int),.pointer (some ⟨p,0,none⟩),.func (.func 118) #[] #[]]) rs191 Tryz.func191 rfl mixed (by kernel_rfl) YS rfl ?_;simp(disch:=omega)only[push_cast,seval];refine Ok.use (mO hn (by omega) (by omega) h hp hF) ?_;rintro u w1 ⟨⟨x1,y1,rfl,q1⟩,h1,⟨s1,p1⟩,u1⟩;simp(disch:=omega)only[push_cast,seval];refine Ok.use (mO hn (by omega) (by omega) h1 p1 hF) ?_;rintro u w2 ⟨⟨x2,y2,rfl,q2⟩,h2,⟨s2,p2⟩,u2⟩;simp(disch:=omega)only[push_cast,seval];refine Ok.use (mO hn (by omega) (by omega) h2 p2 hF) ?_;rintro u w3 ⟨⟨x3,y3,rfl,q3⟩,h3,⟨s3,p3⟩,u3⟩;simp(disch:=omega)only[push_cast,seval];exact⟨⟨y3,rfl,by omega,by omega⟩,h3,⟨s3,p3⟩,(u1.trans u2 fun _ _ h=>h).trans u3 fun _ _ h=>h⟩
set_option maxHeartbeats 4000000 in
theorem mQ {F:Nat→Prop}{g n cap p E lo hi:Nat}{w:World}(hn:n≤1000000000){a:Nat}{s:Int}(hhi:hi≤n)(ha:lo≤a∧a+2<hi)(h:SR F g n cap w)(hp:Blk w p [.int .i64 s] E)(hF:F p) :
 Ok (den Tryz.prog 190 #[.slice (some ⟨g,0,none⟩) n cap,.int .i64 ((a:Int)+1),.pointer (some ⟨p,0,none⟩),.func (.func 118) #[] #[]] w) fun u w'=>(∃x:Nat,u = .int .i64 (x:Int)∧lo≤x∧x<hi)∧SR F g n cap w'∧(∃s',Blk w' p [.int .i64 s'] E)∧Upd (fun b=>b=p) w w':=by
 refine aB (args:=[.slice (some ⟨g,0,none⟩) n cap,.int .i64 ((a:Int)+1),.pointer (some ⟨p,0,none⟩),.func (.func 118) #[] #[]]) rs190 Tryz.func190 rfl mixed (by kernel_rfl) YR rfl ?_;obtain⟨b,hb⟩ : ∃b:Nat,b=a+1:=⟨_,rfl⟩;obtain⟨c,hc⟩ : ∃c:Nat,c=a+2:=⟨_,rfl⟩;have e1:(a:Int)+1=b:=by omega
 have e2:(b:Int)-1=a:=by omega
 have e3:(b:Int)+1=c:=by omega
 simp(disch:=omega)only[push_cast,seval,e1,e2,e3];refine Ok.use (mP (lo:=lo) (hi:=hi) hn hhi (by omega) (by omega) (by omega) h hp hF) ?_;rintro u w1 ⟨⟨x1,rfl,q1⟩,h1,⟨s1,p1⟩,u1⟩;simp(disch:=omega)only[push_cast,seval];exact⟨⟨x1,rfl,q1⟩,h1,⟨s1,p1⟩,u1⟩
theorem SR.into {F:Nat→Prop}{g n cap:Nat}{w w':World}(h:SR F g n cap w)(hu:Upd NoB w w'):SR (fun b=>F b∨b=w.heap.size) g n cap w':=h.go hu fun b hb h=>h.elim (fun h=>h.elim) fun h=>h.elim id fun h=>by omega
set_option maxHeartbeats 8000000 in
theorem Y0 {F:Nat→Prop}{g n cap:Nat}{w:World}(hn:n≤1000000000){a b:Nat}(hab:a+12<b)(hb:b≤n)(h:SR F g n cap w) :
 Ok (den Tryz.prog 177 #[.slice (some ⟨g,0,none⟩) n cap,.int .i64 (a:Int),.int .i64 (b:Int),.func (.func 118) #[] #[]] w) fun u w'=>(∃(x:Nat) (t:Int),u = .tuple #[.int .i64 (x:Int),.int .i64 t]∧a≤x∧x<b)∧SR F g n cap w'∧Upd NoB w w':=by
 refine aB (args:=[.slice (some ⟨g,0,none⟩) n cap,.int .i64 (a:Int),.int .i64 (b:Int),.func (.func 118) #[] #[]]) rs177 Tryz.func177 rfl mixed (by kernel_rfl) YJ rfl ?_;obtain⟨l,hl⟩ : ∃l:Nat,b=a+l:=⟨b-a,by omega⟩;subst hl;obtain⟨q,hq⟩ : ∃q:Nat,q=l/4:=⟨_,rfl⟩;obtain⟨i,hi⟩ : ∃i:Nat,i=a+q:=⟨_,rfl⟩;obtain⟨j,hj⟩ : ∃j:Nat,j=a+q*2:=⟨_,rfl⟩;obtain⟨k,hk⟩ : ∃k:Nat,k=a+q*3:=⟨_,rfl⟩;have e0:(a:Int)+l-a=l:=by omega
 have e1:(l:Int).tdiv 4=(q:Int):=by rw[Int.tdiv_eq_ediv_of_nonneg (by omega)]; omega
 have e2:(a:Int)+q*1=i:=by omega
 have e3:(a:Int)+q*2=j:=by omega
 have e4:(a:Int)+q*3=k:=by omega
 have e2':(a:Int)+q=i:=by omega
 have u1:Upd NoB w (w.alloc (.cells #[.int .i64 0] 3 (0,0))):=Upd.alloc;have p1:=Blk.new (w:=w) (cs:=[.int .i64 0]) (E:=3);have h1:=h.into u1;have fin : ∀{w2 w3:World} {x:Nat} {s:Int},True:=trivial;by_cases h50:50≤l
 ·obtain⟨i',hi'⟩ : ∃i':Nat,i=i'+1:=⟨i-1,by omega⟩;obtain⟨j',hj'⟩ : ∃j':Nat,j=j'+1:=⟨j-1,by omega⟩;obtain⟨k',hk'⟩ : ∃k':Nat,k=k'+1:=⟨k-1,by omega⟩;have f1:(i:Int)=i'+1:=by omega
  have f2:(j:Int)=j'+1:=by omega
  have f3:(k:Int)=k'+1:=by omega
  simp(maxSteps:=3000000)(disch:=omega)only[push_cast,seval,e0,e1,e2,e2',e3,e4];rw[f1,f2,f3] ;generalize w.alloc (.cells #[.int .i64 0] 3 (0,0))=w1 at *;refine Ok.use (mQ (lo:=a) (hi:=a+l) hn hb (by omega) h1 p1 (.inr rfl)) ?_;rintro u w2 ⟨⟨x2,rfl,q2⟩,h2,⟨s2,p2⟩,u2⟩;simp(maxSteps:=3000000)(disch:=omega)only[push_cast,seval];refine Ok.use (mQ (lo:=a) (hi:=a+l) hn hb (by omega) h2 p2 (.inr rfl)) ?_;rintro u w3 ⟨⟨x3,rfl,q3⟩,h3,⟨s3,p3⟩,u3⟩;simp(maxSteps:=3000000)(disch:=omega)only[push_cast,seval];refine Ok.use (mQ (lo:=a) (hi:=a+l) hn hb (by omega) h3 p3 (.inr rfl)) ?_;rintro u w4 ⟨⟨x4,rfl,q4⟩,h4,⟨s4,p4⟩,u4⟩;simp(maxSteps:=3000000)(disch:=omega)only[push_cast,seval];refine Ok.use (mP (lo:=a) (hi:=a+l) hn hb q2 q3 q4 h4 p4 (.inr rfl)) ?_;rintro u w5 ⟨⟨x5,rfl,q5⟩,h5,⟨s5,p5⟩,u5⟩;have v5:Upd NoB w w5:=(((u1.trans u2 fun b hb h=>by omega).trans u3 fun b hb h=>by omega).trans u4 fun b hb h=>by omega).trans u5 fun b hb h=>by omega
  have k5:SR F g n cap w5:=h5.go (Upd.refl (F:=NoB)) fun b _ h=>h.elim (fun h=>h.elim) .inl;by_cases z0:s5=0
  ·simp(maxSteps:=3000000)(disch:=omega)only[push_cast,seval,p5.cell,z0];exact⟨⟨x5,1,rfl,q5⟩,k5,v5⟩
  ·by_cases z1:s5=12
   ·simp(maxSteps:=3000000)(disch:=omega)only[push_cast,seval,p5.cell,z0,z1];exact⟨⟨x5,2,rfl,q5⟩,k5,v5⟩
   ·simp(maxSteps:=3000000)(disch:=omega)only[push_cast,seval,p5.cell,z0,z1];exact⟨⟨x5,0,rfl,q5⟩,k5,v5⟩
 ·simp(maxSteps:=3000000)(disch:=omega)only[push_cast,seval,e0,e1,e2,e2',e3,e4];generalize w.alloc (.cells #[.int .i64 0] 3 (0,0))=w1 at *;refine Ok.use (mP (lo:=a) (hi:=a+l) hn hb (by omega) (by omega) (by omega) h1 p1 (.inr rfl)) ?_;rintro u w5 ⟨⟨x5,rfl,q5⟩,h5,⟨s5,p5⟩,u5⟩;have v5:Upd NoB w w5:=u1.trans u5 fun b hb h=>by omega
  have k5:SR F g n cap w5:=h5.go (Upd.refl (F:=NoB)) fun b _ h=>h.elim (fun h=>h.elim) .inl;by_cases z0:s5=0
  ·simp(maxSteps:=3000000)(disch:=omega)only[push_cast,seval,p5.cell,z0];exact⟨⟨x5,1,rfl,q5⟩,k5,v5⟩
  ·by_cases z1:s5=12
   ·simp(maxSteps:=3000000)(disch:=omega)only[push_cast,seval,p5.cell,z0,z1];exact⟨⟨x5,2,rfl,q5⟩,k5,v5⟩
   ·simp(maxSteps:=3000000)(disch:=omega)only[push_cast,seval,p5.cell,z0,z1];exact⟨⟨x5,0,rfl,q5⟩,k5,v5⟩
open Go Go.Shelf
set_option maxRecDepth 100000
def layB_ren:Go.Shelf.Ren:=⟨fun | 125=>167 | 128=>182 | 129=>183 | n=>n,fun | 3=>3 | 4=>4 | 5=>5 | 9=>9 | 46=>147 | 51=>225 | 53=>106 | n=>n,fun n=>n⟩
theorem Y4:Go.Proofs.Lays.n125 Tryz.prog layB_ren:={
 mixed:=by kernel_rfl
 f125:=Tryz.func167.trans (congrArg some (by kernel_rfl))
 f128:=Tryz.func182.trans (congrArg some (by kernel_rfl))
 f129:=Tryz.func183.trans (congrArg some (by kernel_rfl))
 t3:=Tryz.underlying3
 a3:=Tryz.isAgg3
 z3:=Tryz.sizeOf3
 v3:=Tryz.zeroValue3
 t4:=Tryz.underlying4
 a4:=Tryz.isAgg4
 z4:=Tryz.sizeOf4
 v4:=Tryz.zeroValue4
 t5:=Tryz.underlying5
 a5:=Tryz.isAgg5
 z5:=Tryz.sizeOf5
 v5:=Tryz.zeroValue5
 t9:=Tryz.underlying9
 a9:=Tryz.isAgg9
 z9:=Tryz.sizeOf9
 v9:=Tryz.zeroValue9
 t46:=Tryz.underlying147
 a46:=Tryz.isAgg147
 z46:=Tryz.sizeOf147
 v46:=Tryz.zeroValue147
 t51:=Tryz.underlying225
 a51:=Tryz.isAgg225
 z51:=Tryz.sizeOf225
 v51:=Tryz.zeroValue225
 t53:=Tryz.underlying106
 a53:=Tryz.isAgg106
 z53:=Tryz.sizeOf106
 v53:=Tryz.zeroValue106}
theorem tU {n:Nat}(hn:n<2 ^ 63){w:World}:Ok (den Tryz.prog 167 #[.int .u64 (n:Int)] w) fun u w'=>u = .int .i64 (Lib.bitLen n:Nat)∧w=w':=by
 have h:=Any.bits_Len Y4 (n:Int) w (by omega) (by omega);rw[Int.toNat_natCast] at h;refine⟨(_,_),iG (by kernel_rfl) (h.mono ?_),rfl,rfl⟩;rintro e w' ⟨rfl,rfl⟩;exact⟨rfl,rfl⟩
theorem Y5 {n:Nat}(h0:n≠0)(hn:n<2 ^ 62):Lib.bitLen n≤62∧2 ^ Lib.bitLen n≤2*n:=by
 have h1:=Lib.bitLen_le n 62 (by omega) hn;obtain⟨h2,h3,_⟩:=Lib.bitLenAux_bounds 64 n (by omega) h0;refine⟨h1,?_⟩;have e:Lib.bitLen n=Lib.bitLenAux 64 n:=rfl;rw[e];obtain⟨k,hk⟩ : ∃k,Lib.bitLenAux 64 n=k+1:=⟨Lib.bitLenAux 64 n-1,by omega⟩;rw[hk] at h3 ⊢;rw[Nat.add_sub_cancel] at h3;rw[Nat.pow_succ];omega
theorem mR {k:IntKind}{n:Int}{w:World}:cnvS Tryz.prog 147 3 (.int k n) w=some (.int .i64 (IntKind.i64.wrap n),w):=bK (by kernel_rfl) (by kernel_rfl)
theorem gP:knd Tryz.prog 233=some false:=by kernel_rfl
theorem jK:siz Tryz.prog 233=some 1:=by kernel_rfl
theorem Y6 {k:IntKind}{n:Int}{w:World}:cnvS Tryz.prog 3 233 (.int k n) w=some (.int .u64 (IntKind.u64.wrap n),w):=bK (by kernel_rfl) (by kernel_rfl)
theorem Y7 {l:Nat}(h0:l≠0)(hl:l≤1000000000){w:World}:Ok (den Tryz.prog 188 #[.int .i64 (l:Int)] w) fun u w'=>(∃M:Nat,u = .int .u64 ((M:Int)+1)∧M<2*l)∧w=w':=by
 refine aB (args:=[.int .i64 (l:Int)]) rs188 Tryz.func188 rfl mixed (by kernel_rfl) YP rfl ?_;have e1:IntKind.u64.wrap (l:Int)=l:=bD (by omega);simp(disch:=omega)only[push_cast,seval,gD,e1];refine Ok.use (tU (by omega)) ?_;rintro u _ ⟨rfl,rfl⟩;obtain⟨b1,b2⟩:=Y5 h0 (by omega);generalize Lib.bitLen l=B at *;have hp:(1:Nat)≤2 ^ B:=Nat.one_le_two_pow;have hm:min B IntKind.u64.bits=B:=by rw[gJ]; omega
 obtain⟨M,hM⟩ : ∃M,2 ^ B=M+1:=⟨2 ^ B-1,by omega⟩;have e2:(2:Int) ^ B=((M:Int)+1):=by
  have:((2 ^ B:Nat):Int)=((M+1:Nat):Int):=by rw[hM]
  rw[Int.natCast_pow] at this;simpa using this
 simp(disch:=omega)only[push_cast,seval,Int.toNat_natCast,hm,e2,Int.one_mul];have e3:IntKind.u64.wrap ((M:Int)+1)=(M:Int)+1:=by rw[IntKind.wrap_u64]; omega
 rw[e3];exact⟨M,rfl,by omega⟩
set_option maxHeartbeats 4000000 in
theorem Y8 {p E:Nat}{w:World}{X:Int}(hp:Blk w p [.int .u64 X] E):Ok (den Tryz.prog 189 #[.pointer (some ⟨p,0,none⟩)] w) fun u w'=>∃Y:Int,u = .int .u64 Y∧Blk w' p [.int .u64 Y] E∧Upd (fun b=>b=p) w w':=by
 refine aB (args:=[.pointer (some ⟨p,0,none⟩)]) rs189 Tryz.func189 rfl mixed (by kernel_rfl) YQ rfl ?_;rw[aD];generalize hKs:KS _ _ _ _ _=Ks;simp(maxSteps:=3000000)(disch:=omega)only[push_cast,seval];subst hKs;rw[aC];have hp1:=hp;generalize hw1:w=w1 at *;have p1:=hp1.drew;rw[aD];generalize hKs:KS _ _ _ _ _=Ks;simp(maxSteps:=3000000)(disch:=omega)only[push_cast,seval,gP,jK,p1.cell,p1.free];generalize IntKind.u64.wrap ((BitVec.toNat _:Nat):Int)=Y1;have hp2:=(hp1.set 0 (.int .u64 Y1)).drew;have u2:Upd (fun b=>b=p) w1 (w1.setCell ⟨p,0,none⟩ (.int .u64 Y1)).drew:=(Upd.set (F:=fun b=>b=p) rfl).trans Upd.drew fun _ _ h=>h;simp only[List.set_cons_zero] at hp2;generalize (w1.setCell ⟨p,0,none⟩ (.int .u64 Y1)).drew=w2 at *;subst hKs;rw[aC];have p2:=hp2.drew;rw[aD];generalize hKs:KS _ _ _ _ _=Ks;simp(maxSteps:=3000000)(disch:=omega)only[push_cast,seval,gP,jK,p2.cell,p2.free];generalize IntKind.u64.wrap ((BitVec.toNat _:Nat):Int)=Y2;have hp3:=(hp2.set 0 (.int .u64 Y2)).drew;have u3:Upd (fun b=>b=p) w2 (w2.setCell ⟨p,0,none⟩ (.int .u64 Y2)).drew:=(Upd.set (F:=fun b=>b=p) rfl).trans Upd.drew fun _ _ h=>h;simp only[List.set_cons_zero] at hp3;generalize (w2.setCell ⟨p,0,none⟩ (.int .u64 Y2)).drew=w3 at *;subst hKs;rw[aC];have p3:=hp3.drew;rw[aD];generalize hKs:KS _ _ _ _ _=Ks;simp(maxSteps:=3000000)(disch:=omega)only[push_cast,seval,gP,jK,p3.cell,p3.free];generalize IntKind.u64.wrap ((BitVec.toNat _:Nat):Int)=Y3;have hp4:=(hp3.set 0 (.int .u64 Y3)).drew;have u4:Upd (fun b=>b=p) w3 (w3.setCell ⟨p,0,none⟩ (.int .u64 Y3)).drew:=(Upd.set (F:=fun b=>b=p) rfl).trans Upd.drew fun _ _ h=>h;simp only[List.set_cons_zero] at hp4;generalize (w3.setCell ⟨p,0,none⟩ (.int .u64 Y3)).drew=w4 at *;subst hKs;rw[aC];simp(disch:=omega)only[push_cast,seval,gP,hp4.cell,hp4.free];exact⟨Y3,rfl,hp4,(u2.trans u3 fun _ _ h=>h).trans u4 fun _ _ h=>h⟩
open Go Go.Shelf
set_option maxRecDepth 100000
theorem Y9 {Y:Int}{M:Nat}(hM:M<2 ^ 64):(BitVec.ofInt IntKind.u64.bits Y &&& BitVec.ofInt IntKind.u64.bits (M:Int)).toNat≤M:=by
 rw[BitVec.toNat_and];refine Nat.le_trans Nat.and_le_right ?_;have:=iX hM;rw[gJ];omega
set_option maxHeartbeats 8000000 in
theorem ZA {F:Nat→Prop}{g n cap:Nat}{w:World}(hn:n≤1000000000){a b:Nat}(hab:a+12<b)(hb:b≤n)(h:SR F g n cap w)(hg:g<w.heap.size) :
 Ok (den Tryz.prog 176 #[.slice (some ⟨g,0,none⟩) n cap,.int .i64 (a:Int),.int .i64 (b:Int),.func (.func 118) #[] #[]] w) fun u w'=>u = .tuple #[]∧SR F g n cap w'∧Upd (fun b=>b=g) w w':=by
 refine aB (args:=[.slice (some ⟨g,0,none⟩) n cap,.int .i64 (a:Int),.int .i64 (b:Int),.func (.func 118) #[] #[]]) rs176 Tryz.func176 rfl mixed (by kernel_rfl) YI rfl ?_;obtain⟨l,hl⟩ : ∃l:Nat,b=a+l:=⟨b-a,by omega⟩;subst hl;obtain⟨q,hq⟩ : ∃q:Nat,q=l/4:=⟨_,rfl⟩;obtain⟨s,hs⟩ : ∃s:Nat,s=a+q*2-1:=⟨_,rfl⟩;obtain⟨t,ht⟩ : ∃t:Nat,t=a+q*2+1:=⟨_,rfl⟩;have e0:(a:Int)+l-a=l:=by omega
 have e1:(l:Int).tdiv 4=(q:Int):=by rw[Int.tdiv_eq_ediv_of_nonneg (by omega)]; omega
 have e2:(a:Int)+q*2-1=s:=by omega
 have e3:(a:Int)+q*2+1=t:=by omega
 have e4:IntKind.u64.wrap (l:Int)=l:=bD (by omega);have u1:Upd NoB w ((w.alloc (.cells #[.int .u64 0] 233 (0,0))).setCell ⟨w.heap.size,0,none⟩ (.int .u64 (l:Int))):=Upd.alloc.setNew (Nat.le_refl _);have p1:=(Blk.new (w:=w) (cs:=[.int .u64 0]) (E:=233)).set 0 (.int .u64 (l:Int));have p0:=(Blk.new (w:=w) (cs:=[.int .u64 0]) (E:=233));have hzx:zer Tryz.prog 233=some (.int .u64 0):=by kernel_rfl
 simp only[List.set_cons_zero] at p1;have h1:=h.into u1;have sz:w.heap.size<((w.alloc (.cells #[.int .u64 0] 233 (0,0))).setCell ⟨w.heap.size,0,none⟩ (.int .u64 (l:Int))).heap.size:=p1.lt;rw[aD];generalize hKs:KS _ _ _ _ _=Ks;simp(maxSteps:=3000000)(disch:=omega)only[push_cast,seval,e0];subst hKs;rw[aC];simp(maxSteps:=3000000)(disch:=omega)only[push_cast,seval,e0,e4,Y6,gP,jK,hzx,p0.cell,p0.free,aI];generalize (w.alloc (.cells #[.int .u64 0] 233 (0,0))).setCell ⟨w.heap.size,0,none⟩ (.int .u64 (l:Int))=w1 at *;refine Ok.use (Y7 (l:=l) (by omega) (by omega)) ?_;rintro u _ ⟨⟨M,rfl,hM⟩,rfl⟩;simp(maxSteps:=3000000)(disch:=omega)only[push_cast,seval,e0,e1,e2,e3];refine aG (I:=fun k st w'=>Bx (∃i:Nat,s≤i∧i≤t+1∧k=t+1-i∧st = [.int .i64 (i:Int)]∧SR (fun b=>F b∨b=w.heap.size) g n cap w'∧(∃X,Blk w' w.heap.size [.int .u64 X] 233)∧Upd (fun b=>b=g) w w') ⟨⟩) ?_ (t+1-s) ⟨s,by omega,by omega,rfl,by simp,h1,⟨_,p1⟩,aZ u1⟩;rintro k st w2 ⟨i,i1,i2,hk,rfl,h2,⟨X,p2⟩,u2⟩;by_cases hit:t<i
 ·simp(maxSteps:=3000000)(disch:=omega)only[push_cast,seval,e0,e1,e2,e3];exact⟨h2.go (Upd.refl (F:=NoB)) fun b _ h=>h.elim (fun h=>h.elim) .inl,u2⟩
 simp(maxSteps:=3000000)(disch:=omega)only[push_cast,seval,e0,e1,e2,e3];refine Ok.use (Y8 p2) ?_;rintro u w3 ⟨Y,rfl,p3,u3⟩;have h3:SR (fun b=>F b∨b=w.heap.size) g n cap w3:=h2.go u3 fun b _ h=>h.elim .inr id;have v3:Upd (fun b=>b=g) w w3:=u2.trans u3 fun b hb h=>by omega
 obtain⟨Z,hZ⟩ : ∃Z:Nat,(BitVec.ofInt IntKind.u64.bits Y &&& BitVec.ofInt IntKind.u64.bits (M:Int)).toNat=Z:=⟨_,rfl⟩;have hZM:Z≤M:=hZ ▸ Y9 (by omega);have e5:(M:Int)+1-1=M:=by omega
 have e6:IntKind.u64.wrap (Z:Int)=Z:=bD (by omega);have e7:IntKind.u64.wrap (M:Int)=M:=bD (by omega);have ng:w.heap.size≠g:=by omega
 by_cases hlz:l≤Z
 ·obtain⟨o,ho⟩ : ∃o:Nat,Z=l+o:=⟨Z-l,by omega⟩;have e8:(Z:Int)-l=o:=by omega
  have e9:((a:Int)+o).toNat=a+o:=by omega
  obtain⟨cs',ds',w4,w5,s1,s2,s3,s4,h5,u5⟩:=h3.swap (i:=i) (j:=a+o) (by omega) (by omega);simp(maxSteps:=3000000)(disch:=omega)only[push_cast,seval,e0,e1,e2,e3,e5,e7,hZ,e6,mR,e8,e9,s1,s2,s3,s4];exact⟨t+1-(i+1),by omega,i+1,by omega,by omega,rfl,by simp,h5,⟨Y,p3.upd u5 ng⟩,v3.trans u5 fun _ _ h=>h⟩
 ·have e9:((a:Int)+Z).toNat=a+Z:=by omega
  obtain⟨cs',ds',w4,w5,s1,s2,s3,s4,h5,u5⟩:=h3.swap (i:=i) (j:=a+Z) (by omega) (by omega);simp(maxSteps:=3000000)(disch:=omega)only[push_cast,seval,e0,e1,e2,e3,e5,e7,hZ,e6,mR,e9,s1,s2,s3,s4];exact⟨t+1-(i+1),by omega,i+1,by omega,by omega,rfl,by simp,h5,⟨Y,p3.upd u5 ng⟩,v3.trans u5 fun _ _ h=>h⟩
open Go Go.Shelf
set_option maxRecDepth 100000
set_option maxHeartbeats 16000000 in
theorem ZB {F:Nat→Prop}{g n cap:Nat}(hn:n≤1000000000) : ∀(N:Nat) {w:World} {a b lim:Nat},b-a<N→a≤b→b≤n→lim≤1000000000→SR F g n cap w→g<w.heap.size→
 Ok (den Tryz.prog 166 #[.slice (some ⟨g,0,none⟩) n cap,.int .i64 (a:Int),.int .i64 (b:Int),.int .i64 (lim:Int),.func (.func 118) #[] #[]] w) fun u w'=>u = .tuple #[]∧SR F g n cap w'∧Upd (fun b=>b=g) w w':=by
 intro N;induction N with
 | zero=>intro w a b lim h; omega
 | succ N ih=>
  intro w a0 b0 lim0 hN hab0 hb0 hlim0 h hg;refine aB (args:=[.slice (some ⟨g,0,none⟩) n cap,.int .i64 (a0:Int),.int .i64 (b0:Int),.int .i64 (lim0:Int),.func (.func 118) #[] #[]]) rs166 Tryz.func166 rfl mixed (by kernel_rfl) YF rfl ?_;simp(disch:=omega)only[push_cast,seval];refine aG (I:=fun k st w'=>Bx (∃(a b lim:Nat) (wb wp:Bool),a≤b∧b≤n∧b-a≤N∧lim≤1000000000∧k=b-a∧st = [.int .i64 (a:Int),.int .i64 (b:Int),.int .i64 (lim:Int),.bool wb,.bool wp]∧SR F g n cap w'∧Upd (fun b=>b=g) w w') ⟨⟩) ?_ (b0-a0) ⟨a0,b0,lim0,true,true,hab0,hb0,by omega,hlim0,rfl,rfl,h,Upd.refl⟩;rintro k st w1 ⟨a,b,lim,wb,wp,hab,hb,hNb,hlim,hk,rfl,h1,u1⟩;obtain⟨l,hl⟩ : ∃l:Nat,b=a+l:=⟨b-a,by omega⟩;have e0:(b:Int)-a=l:=by omega
  rw[o5];rw[aD];generalize hKs:KS _ _ _ _ _=Ks;simp(disch:=omega)only[push_cast,seval,e0];subst hKs;rw[aC];by_cases h12:l≤12
  ·simp(disch:=omega)only[push_cast,seval];refine Ok.use (YU hn hab hb h1) ?_;rintro u w2 ⟨rfl,h2,u2⟩;simp(disch:=omega)only[push_cast,seval];exact⟨h2,u1.trans u2 fun _ _ h=>h⟩
  rw[aD];generalize hKs:KS _ _ _ _ _=Ks;simp(disch:=omega)only[push_cast,seval];subst hKs;rw[aC];by_cases hl0:lim=0
  ·subst hl0;simp(disch:=omega)only[push_cast,seval];refine Ok.use (YW hn (by omega) hb h1) ?_;rintro u w2 ⟨rfl,h2,u2⟩;simp(disch:=omega)only[push_cast,seval];exact⟨h2,u1.trans u2 fun _ _ h=>h⟩
  have hl0' : ¬((lim:Int)=0):=by omega
  rw[aD];generalize hKs:KS _ _ _ _ _=Ks;simp(disch:=omega)only[push_cast,seval,hl0'];subst hKs;rw[aC];rw[aD];generalize hKs:KS _ _ _ _ _=Ks;have hA : ∀(ρ:Env) (w5:World) (lim':Nat),ρ 0 = .slice (some ⟨g,0,none⟩) n cap→ρ 1 = .int .i64 (a:Int)→ρ 2 = .int .i64 (b:Int)→ρ 4 = .func (.func 118) #[] #[]→ρ 10 = .bool wb→ρ 11 = .bool wp→ρ 12 = .int .i64 (l:Int)→ρ 3 = .int .i64 (lim':Int)→lim'≤lim→SR F g n cap w5→Upd (fun b=>b=g) w w5→Ks (.normal,ρ,w5):=by
   intro ρ w5 lim' z0 z1 z2 z4 z10 z11 z12 z3 c1 h5 u5;subst hKs;rw[aC];have hg5:g<w5.heap.size:=Nat.lt_of_lt_of_le hg u5.size;rw[aD];generalize hKs:KS _ _ _ _ _=Ks;simp(disch:=omega)only[push_cast,seval,z0,z1,z2,z4,z10,z11,z12,z3];refine Ok.use (Y0 hn (by omega) hb h5) ?_;rintro u w6 ⟨⟨p,t,rfl,p1,p2⟩,h6,u6⟩;have v6:Upd (fun b=>b=g) w w6:=u5.trans (aZ u6) fun _ _ h=>h;simp(disch:=omega)only[push_cast,seval,z0,z1,z2,z4,z10,z11,z12,z3];subst hKs;rw[aC];rw[aD];generalize hKs:KS _ _ _ _ _=Ks;have hB : ∀(ρ:Env) (w5:World) (p:Nat) (t:Int),ρ 0 = .slice (some ⟨g,0,none⟩) n cap→ρ 1 = .int .i64 (a:Int)→ρ 2 = .int .i64 (b:Int)→ρ 4 = .func (.func 118) #[] #[]→ρ 10 = .bool wb→ρ 11 = .bool wp→ρ 12 = .int .i64 (l:Int)→ρ 3 = .int .i64 (lim':Int)→ρ 13 = .int .i64 (p:Int)→ρ 14 = .int .i64 t→a≤p→p<b→SR F g n cap w5→Upd (fun b=>b=g) w w5→Ks (.normal,ρ,w5):=by
    intro ρ w5 p t z0 z1 z2 z4 z10 z11 z12 z3 z13 z14 q1 q2 h5 u5;subst hKs;rw[aC];rw[aD];generalize hKs:KS _ _ _ _ _=Ks;have hC : ∀(ρ:Env) (w5:World) (p:Nat),ρ 0 = .slice (some ⟨g,0,none⟩) n cap→ρ 1 = .int .i64 (a:Int)→ρ 2 = .int .i64 (b:Int)→ρ 4 = .func (.func 118) #[] #[]→ρ 10 = .bool wb→ρ 11 = .bool wp→ρ 12 = .int .i64 (l:Int)→ρ 3 = .int .i64 (lim':Int)→ρ 13 = .int .i64 (p:Int)→a≤p→p<b→SR F g n cap w5→Upd (fun b=>b=g) w w5→Ks (.normal,ρ,w5):=by
     intro ρ w5 p z0 z1 z2 z4 z10 z11 z12 z3 z13 q1 q2 h5 u5;subst hKs;rw[aC];rw[aD];generalize hKs:KS _ _ _ _ _=Ks;have hD : ∀(ρ:Env) (w5:World) (p:Nat),ρ 0 = .slice (some ⟨g,0,none⟩) n cap→ρ 1 = .int .i64 (a:Int)→ρ 2 = .int .i64 (b:Int)→ρ 4 = .func (.func 118) #[] #[]→ρ 10 = .bool wb→ρ 11 = .bool wp→ρ 12 = .int .i64 (l:Int)→ρ 3 = .int .i64 (lim':Int)→ρ 13 = .int .i64 (p:Int)→a≤p→p<b→SR F g n cap w5→Upd (fun b=>b=g) w w5→Ks (.normal,ρ,w5):=by
      intro ρ w5 p z0 z1 z2 z4 z10 z11 z12 z3 z13 q1 q2 h5 u5;subst hKs;rw[aC];simp(maxSteps:=3000000)(disch:=omega)only[push_cast,seval,z0,z1,z2,z4,z10,z11,z12,z3,z13];refine Ok.use (YX hn q1 q2 hb h5) ?_;rintro u w6 ⟨⟨m,tt,rfl,m1,m2⟩,h6,u6⟩;have v6:Upd (fun b=>b=g) w w6:=u5.trans u6 fun _ _ h=>h;have hg6:g<w6.heap.size:=Nat.lt_of_lt_of_le hg v6.size;obtain⟨b8,hb8⟩ : ∃b8:Nat,b8=l/8:=⟨_,rfl⟩;have e8:(l:Int).tdiv 8=(b8:Int):=by rw[Int.tdiv_eq_ediv_of_nonneg (by omega)]; omega
      by_cases hlr:(m:Int)-a<(b:Int)-m
      ·simp(maxSteps:=3000000)(disch:=omega)only[push_cast,seval,z0,z1,z2,z4,z10,z11,z12,z3,z13,e8,hlr];refine Ok.use (ih (by omega) (by omega) (by omega) (by omega) h6 hg6) ?_;rintro u w7 ⟨rfl,h7,u7⟩;simp(maxSteps:=3000000)(disch:=omega)only[push_cast,seval,z0,z1,z2,z4,z10,z11,z12,z3,z13,e8,hlr];exact⟨b-(m+1),by omega,m+1,b,lim',decide ((b8:Int)≤(m:Int)-a),tt,by omega,by omega,by omega,by omega,rfl,by simp,h7,v6.trans u7 fun _ _ h=>h⟩
      ·obtain⟨m',hm'⟩ : ∃m':Nat,m'=m+1:=⟨_,rfl⟩;have e9:(m:Int)+1=m':=by omega
       simp(maxSteps:=3000000)(disch:=omega)only[push_cast,seval,z0,z1,z2,z4,z10,z11,z12,z3,z13,e8,hlr,e9];refine Ok.use (ih (by omega) (by omega) (by omega) (by omega) h6 hg6) ?_;rintro u w7 ⟨rfl,h7,u7⟩;simp(maxSteps:=3000000)(disch:=omega)only[push_cast,seval,z0,z1,z2,z4,z10,z11,z12,z3,z13,e8,hlr];exact⟨m-a,by omega,a,m,lim',decide ((b8:Int)≤(b:Int)-m),tt,by omega,by omega,by omega,by omega,rfl,by simp,h7,v6.trans u7 fun _ _ h=>h⟩
     have ut : ∀{w3:World},Upd NoB w5 w3→Upd (fun b=>b=g) w w3:=fun u=>u5.trans (aZ u) fun _ _ h=>h;by_cases ha0:a=0
     ·simp(maxSteps:=3000000)(disch:=omega)only[push_cast,seval,z0,z1,z2,z4,z10,z11,z12,z3,z13,ha0];exact hD _ _ p (by first | rfl | exact z0) (by first | rfl | exact z1) (by first | rfl | exact z2) (by first | rfl | exact z4) (by first | rfl | exact z10) (by first | rfl | exact z11) (by first | rfl | exact z12) (by first | rfl | exact z3) (by first | rfl | exact z13) q1 q2 (h5.drew) (ut Upd.drew)
     obtain⟨a',ha'⟩ : ∃a':Nat,a=a'+1:=⟨a-1,by omega⟩;have ea:(a:Int)-1=a':=by omega
     have ea0:(0:Int)<a:=by omega
     obtain⟨x,cs,hx,hcx,lx⟩:=h5.ld (i:=a') (by omega);obtain⟨y,ds,hy,hcy,ly⟩:=h5.ld (i:=p) (by omega);simp(maxSteps:=3000000)(disch:=omega)only[push_cast,seval,z0,z1,z2,z4,z10,z11,z12,z3,z13,ea,ea0,lx Upd.drew,ly Upd.drew];refine Ok.use (aY (aA.q hcx Upd.drew) (aA.q hcy Upd.drew) hx hy) ?_;rintro u w6 ⟨rfl,u6⟩;have v6:Upd NoB w5 w6:=Upd.drew.trans u6 fun _ _ h=>h;by_cases hlt:cmpC x y<0
     ·simp(maxSteps:=3000000)(disch:=omega)only[push_cast,seval,z0,z1,z2,z4,z10,z11,z12,z3,z13,ea,ea0,lx Upd.drew,ly Upd.drew,lx v6,ly v6,hlt];exact hD _ _ p (by first | rfl | exact z0) (by first | rfl | exact z1) (by first | rfl | exact z2) (by first | rfl | exact z4) (by first | rfl | exact z10) (by first | rfl | exact z11) (by first | rfl | exact z12) (by first | rfl | exact z3) (by first | rfl | exact z13) q1 q2 (h5.q v6) (ut v6)
     ·simp(maxSteps:=3000000)(disch:=omega)only[push_cast,seval,z0,z1,z2,z4,z10,z11,z12,z3,z13,ea,ea0,lx Upd.drew,ly Upd.drew,lx v6,ly v6,hlt];refine Ok.use (YY hn q1 q2 hb (h5.q v6)) ?_;rintro u w7 ⟨⟨m,rfl,m1,m2⟩,h7,u7⟩;simp(maxSteps:=3000000)(disch:=omega)only[push_cast,seval,z0,z1,z2,z4,z10,z11,z12,z3,z13];subst hKs;simp(maxSteps:=3000000)(disch:=omega)only[push_cast,seval,z0,z1,z2,z4,z10,z11,z12,z3,z13];exact⟨b-m,by omega,m,b,lim',wb,wp,by omega,by omega,by omega,by omega,rfl,by simp,h7,(ut v6).trans u7 fun _ _ h=>h⟩
    by_cases ht1:wb=true∧wp=true∧t=1
    ·obtain⟨rfl,rfl,rfl⟩:=ht1;simp(maxSteps:=3000000)(disch:=omega)only[push_cast,seval,z0,z1,z2,z4,z10,z11,z12,z3,z13,z14];refine Ok.use (YZ hn (by omega) hb h5) ?_;rintro u w6 ⟨⟨r,rfl⟩,h6,u6⟩;have v6:Upd (fun b=>b=g) w w6:=u5.trans u6 fun _ _ h=>h;cases r with
     | true=>
      simp(maxSteps:=3000000)(disch:=omega)only[push_cast,seval,z0,z1,z2,z4,z10,z11,z12,z3,z13,z14];subst hKs;simp(maxSteps:=3000000)(disch:=omega)only[push_cast,seval,z0,z1,z2,z4,z10,z11,z12,z3,z13,z14];exact⟨h6,v6⟩
     | false=>
      simp(maxSteps:=3000000)(disch:=omega)only[push_cast,seval,z0,z1,z2,z4,z10,z11,z12,z3,z13,z14];exact hC _ _ p (by first | rfl | exact z0) (by first | rfl | exact z1) (by first | rfl | exact z2) (by first | rfl | exact z4) (by first | rfl | exact z10) (by first | rfl | exact z11) (by first | rfl | exact z12) (by first | rfl | exact z3) (by first | rfl | exact z13) q1 q2 (h6) (v6)
    ·cases wb with
     | false=>
      simp(maxSteps:=3000000)(disch:=omega)only[push_cast,seval,z0,z1,z2,z4,z10,z11,z12,z3,z13,z14];exact hC _ _ p (by first | rfl | exact z0) (by first | rfl | exact z1) (by first | rfl | exact z2) (by first | rfl | exact z4) (by first | rfl | exact z10) (by first | rfl | exact z11) (by first | rfl | exact z12) (by first | rfl | exact z3) (by first | rfl | exact z13) q1 q2 (h5) (u5)
     | true=>
      cases wp with
      | false=>
       simp(maxSteps:=3000000)(disch:=omega)only[push_cast,seval,z0,z1,z2,z4,z10,z11,z12,z3,z13,z14];exact hC _ _ p (by first | rfl | exact z0) (by first | rfl | exact z1) (by first | rfl | exact z2) (by first | rfl | exact z4) (by first | rfl | exact z10) (by first | rfl | exact z11) (by first | rfl | exact z12) (by first | rfl | exact z3) (by first | rfl | exact z13) q1 q2 (h5) (u5)
      | true=>
       have ht : ¬t=1:=fun e=>ht1 ⟨rfl,rfl,e⟩;simp(maxSteps:=3000000)(disch:=omega)only[push_cast,seval,z0,z1,z2,z4,z10,z11,z12,z3,z13,z14,ht];exact hC _ _ p (by first | rfl | exact z0) (by first | rfl | exact z1) (by first | rfl | exact z2) (by first | rfl | exact z4) (by first | rfl | exact z10) (by first | rfl | exact z11) (by first | rfl | exact z12) (by first | rfl | exact z3) (by first | rfl | exact z13) q1 q2 (h5) (u5)
   by_cases ht2:t=2
   ·subst ht2;obtain⟨p',hp'⟩ : ∃p':Nat,p'=b-1-(p-a):=⟨_,rfl⟩;have ep:(b:Int)-1-((p:Int)-a)=p':=by omega
    simp(maxSteps:=3000000)(disch:=omega)only[push_cast,seval,z0,z1,z2,z4,z10,z11,z12,z3];refine Ok.use (YV hn (by omega) hb h6) ?_;rintro u w7 ⟨rfl,h7,u7⟩;simp(maxSteps:=3000000)(disch:=omega)only[push_cast,seval,z0,z1,z2,z4,z10,z11,z12,z3,ep];exact hB _ _ p' 1 (by first | rfl | exact z0) (by first | rfl | exact z1) (by first | rfl | exact z2) (by first | rfl | exact z4) (by first | rfl | exact z10) (by first | rfl | exact z11) (by first | rfl | exact z12) (by first | rfl | exact z3) (by rfl) (by rfl) (by omega) (by omega) (h7) (v6.trans u7 fun _ _ h=>h)
   ·simp(maxSteps:=3000000)(disch:=omega)only[push_cast,seval,z0,z1,z2,z4,z10,z11,z12,z3,ht2];exact hB _ _ p t (by first | rfl | exact z0) (by first | rfl | exact z1) (by first | rfl | exact z2) (by first | rfl | exact z4) (by first | rfl | exact z10) (by first | rfl | exact z11) (by first | rfl | exact z12) (by first | rfl | exact z3) (by rfl) (by rfl) p1 p2 (h6) (v6)
  cases wb with
  | false=>
   simp(disch:=omega)only[push_cast,seval];refine Ok.use (ZA hn (by omega) hb h1 (Nat.lt_of_lt_of_le hg u1.size)) ?_;rintro u w2 ⟨rfl,h2,u2⟩;obtain⟨lim',hl'⟩ : ∃lim':Nat,lim'=lim-1:=⟨_,rfl⟩;have el:(lim:Int)-1=lim':=by omega
   simp(disch:=omega)only[push_cast,seval,el];exact hA _ _ lim' rfl rfl rfl rfl rfl rfl rfl rfl (by omega) h2 (u1.trans u2 fun _ _ h=>h)
  | true=>
   simp(disch:=omega)only[push_cast,seval];exact hA _ _ lim rfl rfl rfl rfl rfl rfl rfl rfl (by omega) h1 u1
theorem ZC {F:Nat→Prop}{g n cap:Nat}{w:World}(hn:n≤1000000000)(h:SR F g n cap w)(hg:g<w.heap.size) :
 Ok (den Tryz.prog 146 #[.slice (some ⟨g,0,none⟩) n cap,.func (.func 118) #[] #[]] w) fun u w'=>u = .tuple #[]∧SR F g n cap w'∧Upd (fun b=>b=g) w w':=by
 refine aB (args:=[.slice (some ⟨g,0,none⟩) n cap,.func (.func 118) #[] #[]]) rs146 Tryz.func146 rfl mixed (by kernel_rfl) SQ rfl ?_;have e1:IntKind.u64.wrap (n:Int)=n:=bD (by omega);simp(disch:=omega)only[push_cast,seval,gD,e1];refine Ok.use (tU (by omega)) ?_;rintro u _ ⟨rfl,rfl⟩;have hl:=Lib.bitLen_le n 62 (by omega) (by omega);simp(disch:=omega)only[push_cast,seval];refine Ok.use (ZB hn (n+1) (a:=0) (by omega) (by omega) (by omega) (by omega) h hg) ?_;rintro u w1 ⟨rfl,h1,u1⟩;simp(disch:=omega)only[push_cast,seval];exact⟨h1,u1⟩
open Go Go.Sort
set_option maxRecDepth 100000
theorem Upd.grows {w w':World}(h:Upd NoB w w') : ∃q os',w'=Go.Sort.grow (w.drewN q) os':=by
 obtain⟨h1,h2,h3,h4,h5,h6⟩:=h;refine⟨w'.drawn-w.drawn,w'.heap.extract w.heap.size w'.heap.size,?_⟩;have e1:w'.heap=w.heap ++ w'.heap.extract w.heap.size w'.heap.size:=by
  apply Array.ext_getElem?;intro i;by_cases hi:i<w.heap.size
  ·rw[Array.getElem?_append_left hi];exact h5 i hi fun h=>h
  ·rw[Array.getElem?_append_right (by omega)];rw[Array.getElem?_extract];by_cases hj:i<w'.heap.size
   ·rw[if_pos (by omega)];congr 1;omega
   ·rw[if_neg (by omega),Array.getElem?_eq_none (by omega)]
 cases w';cases w;simp only at h1 h2 h3 h4 h6 e1;subst h1 h2 h3;simp only[Go.Sort.grow,World.drewN];rw[←e1];congr 1;omega
theorem ZD {α:Type}[Inhabited α]{enc:α→List Value}{k:Nat}{w:World}{blk off m:Nat}{dk:Array α}{os:Array Obj}:Upd (fun b=>b=blk) w (sortWorldK enc k w blk off m dk os):=by
 unfold sortWorldK putRowK;refine⟨rfl,rfl,rfl,by simp,fun k hk hne=>?_,?_⟩
 ·have h:blk≠k:=fun e=>hne e.symm;simp only[Go.Sort.grow];rw[Array.getElem?_append_left (by simpa using hk)];simp[Go.Sort.putRow,Go.Sort.mapBlock,Go.Sort.ahead,Array.getElem?_modify,h]
 ·simp[Go.Sort.grow,Go.Sort.putRow,Go.Sort.mapBlock,Go.Sort.ahead]
open Go Go.Shelf
set_option maxRecDepth 100000
def layQ_ren:Go.Shelf.Ren:=⟨fun | 6=>146 | 15=>167 | 14=>166 | 28=>182 | 29=>183 | 20=>174 | 21=>175 | 22=>176 | 23=>177 | 24=>178 | 25=>179 | 26=>180 | 27=>181 | 46=>187 | 47=>188 | 48=>189 | 49=>190 | 50=>191 | 57=>193 | n=>n,fun | 22=>32 | 24=>76 | 25=>131 | 3=>3 | 39=>147 | 0=>0 | 53=>225 | 55=>106 | 4=>4 | 46=>219 | 45=>218 | 50=>111 | 5=>5 | 9=>9 | 66=>233 | 70=>236 | 76=>240 | 77=>241 | n=>n,fun | n=>n⟩
theorem ZE:Go.Proofs.SlLaysF0.n6 Tryz.prog layQ_ren:={
 mixed:=by kernel_rfl
 f6:=⟨Tryz.f146.name,by decide,Tryz.func146.trans (congrArg some (by kernel_rfl))⟩
 f14:=⟨Tryz.f166.name,by decide,Tryz.func166.trans (congrArg some (by kernel_rfl))⟩
 f15:=Tryz.func167.trans (congrArg some (by kernel_rfl))
 f20:=⟨Tryz.f174.name,by decide,Tryz.func174.trans (congrArg some (by kernel_rfl))⟩
 f21:=⟨Tryz.f175.name,by decide,Tryz.func175.trans (congrArg some (by kernel_rfl))⟩
 f22:=⟨Tryz.f176.name,by decide,Tryz.func176.trans (congrArg some (by kernel_rfl))⟩
 f23:=⟨Tryz.f177.name,by decide,Tryz.func177.trans (congrArg some (by kernel_rfl))⟩
 f24:=⟨Tryz.f178.name,by decide,Tryz.func178.trans (congrArg some (by kernel_rfl))⟩
 f25:=⟨Tryz.f179.name,by decide,Tryz.func179.trans (congrArg some (by kernel_rfl))⟩
 f26:=⟨Tryz.f180.name,by decide,Tryz.func180.trans (congrArg some (by kernel_rfl))⟩
 f27:=⟨Tryz.f181.name,by decide,Tryz.func181.trans (congrArg some (by kernel_rfl))⟩
 f28:=Tryz.func182.trans (congrArg some (by kernel_rfl))
 f29:=Tryz.func183.trans (congrArg some (by kernel_rfl))
 f46:=⟨Tryz.f187.name,by decide,Tryz.func187.trans (congrArg some (by kernel_rfl))⟩
 f47:=Tryz.func188.trans (congrArg some (by kernel_rfl))
 f48:=Tryz.func189.trans (congrArg some (by kernel_rfl))
 f49:=⟨Tryz.f190.name,by decide,Tryz.func190.trans (congrArg some (by kernel_rfl))⟩
 f50:=⟨Tryz.f191.name,by decide,Tryz.func191.trans (congrArg some (by kernel_rfl))⟩
 f57:=⟨Tryz.f193.name,by decide,Tryz.func193.trans (congrArg some (by kernel_rfl))⟩
 t0:=Tryz.underlying0
 a0:=Tryz.isAgg0
 z0:=Tryz.sizeOf0
 v0:=Tryz.zeroValue0
 t3:=Tryz.underlying3
 a3:=Tryz.isAgg3
 z3:=Tryz.sizeOf3
 v3:=Tryz.zeroValue3
 t4:=Tryz.underlying4
 a4:=Tryz.isAgg4
 z4:=Tryz.sizeOf4
 v4:=Tryz.zeroValue4
 t5:=Tryz.underlying5
 a5:=Tryz.isAgg5
 z5:=Tryz.sizeOf5
 v5:=Tryz.zeroValue5
 t9:=Tryz.underlying9
 a9:=Tryz.isAgg9
 z9:=Tryz.sizeOf9
 v9:=Tryz.zeroValue9
 t22:=Tryz.underlying32
 a22:=Tryz.isAgg32
 z22:=Tryz.sizeOf32
 v22:=Tryz.zeroValue32
 t25:=Tryz.underlying131
 a25:=Tryz.isAgg131
 z25:=Tryz.sizeOf131
 v25:=Tryz.zeroValue131
 t39:=Tryz.underlying147
 a39:=Tryz.isAgg147
 z39:=Tryz.sizeOf147
 v39:=Tryz.zeroValue147
 t45:=Tryz.underlying218
 a45:=Tryz.isAgg218
 z45:=Tryz.sizeOf218
 v45:=Tryz.zeroValue218
 t46:=Tryz.underlying219
 a46:=Tryz.isAgg219
 z46:=Tryz.sizeOf219
 v46:=Tryz.zeroValue219
 t50:=Tryz.underlying111
 a50:=Tryz.isAgg111
 z50:=Tryz.sizeOf111
 v50:=Tryz.zeroValue111
 t53:=Tryz.underlying225
 a53:=Tryz.isAgg225
 z53:=Tryz.sizeOf225
 v53:=Tryz.zeroValue225
 t55:=Tryz.underlying106
 a55:=Tryz.isAgg106
 z55:=Tryz.sizeOf106
 v55:=Tryz.zeroValue106
 t66:=Tryz.underlying233
 a66:=Tryz.isAgg233
 z66:=Tryz.sizeOf233
 v66:=Tryz.zeroValue233
 t70:=Tryz.underlying236
 a70:=Tryz.isAgg236
 z70:=Tryz.sizeOf236
 v70:=Tryz.zeroValue236
 t76:=Tryz.underlying240
 a76:=Tryz.isAgg240
 z76:=Tryz.sizeOf240
 v76:=Tryz.zeroValue240
 t77:=Tryz.underlying241
 a77:=Tryz.isAgg241
 z77:=Tryz.sizeOf241
 v77:=Tryz.zeroValue241}
end Go.Proofs.YtpgigkceoolgeaaGreatDoor.Fd
