import Derived.Test.YtpgigkceoolgeaaGreatDoorV26
import Derived.Laws.Slices
import Derived.Lib.BufferWrite
set_option linter.all false
namespace Go.Proofs.YtpgigkceoolgeaaGreatDoor.Fd
open Go
set_option maxRecDepth 100000
def initP:H8:=⟨1779033703#32,3144134277#32,1013904242#32,2773480762#32,1359893119#32,2600822924#32,528734635#32,1541459225#32⟩
def fo (B:List Int)(s:H8):Nat→H8
 | 0=>s
 | t+1=>blkP ((B.drop (64*t)).take 64) (fo B s t)
def wby (x:BitVec 32):List Int:=beL 4 x.toNat
def outP (s:H8):Nat→List Int
 | 0=>[]
 | t+1=>outP s t ++ wby (s.get t)
def sumP (b:List Int):List Int:=outP (fo (padP b) initP ((padP b).length/64)) 8
theorem mE {s:H8} : ∀{t:Nat},(outP s t).length=4*t
 | 0=>rfl
 | t+1=>by rw[outP,List.length_append,mE (t:=t),wby,bA]; omega
theorem gK {b:List Int}:(sumP b).length=32:=by rw [sumP,mE]
theorem tK {s:H8} : ∀{t:Nat},Rng (outP s t)
 | 0=>fun x hx=>by cases hx
 | t+1=>(tK (t:=t)).append jI
theorem tL {b:List Int}:Rng (sumP b):=tK
theorem X1 (a b c d:Int)(w:World):bslS Tryz.prog 55 4 #[(0,.int .u8 a),(1,.int .u8 b),(2,.int .u8 c),(3,.int .u8 d)] w=some (.slice (some ⟨w.heap.size,0,none⟩) 4 4,w.alloc (.cells [.int .u8 a,.int .u8 b,.int .u8 c,.int .u8 d].toArray 5 (0,0))):=by kernel_rfl
theorem X2 {k:IntKind}{n:Int}{w:World}:cnvS Tryz.prog 225 5 (.int k n) w=some (.int .u8 (IntKind.u8.wrap n),w):=bF (by kernel_rfl) (by kernel_rfl)
attribute [push_cast] X1 X2
theorem X3 {x:BitVec 32}:wby x = [IntKind.u8.wrap ((x >>> 24).toNat:Int),IntKind.u8.wrap ((x >>> 16).toNat:Int),IntKind.u8.wrap ((x >>> 8).toNat:Int),IntKind.u8.wrap (x.toNat:Int)]:=by
 simp only[cY,BitVec.toNat_ushiftRight,Nat.shiftRight_eq_div_pow];unfold wby beL beL beL beL beL;simp
theorem Fr.push4 {w0 w:World}{v:Value}{l:List Int}(h:Fr w0 w v l){x:BitVec 32}(hlen:l.length<900000000){ty:TypeId}
 {K:Value×World→Prop} (hk : ∀v' w',Fr w0 w' v' (l ++ wby x)→Upd (fun b=>w0.heap.size≤b) w w'→K (v',w')) :
 Okk (appS Tryz.prog #[55,55] ty v (.slice (some ⟨w.heap.size,0,none⟩) 4 4) (w.alloc (.cells [.int .u8 (IntKind.u8.wrap ((x >>> 24).toNat:Int)),.int .u8 (IntKind.u8.wrap ((x >>> 16).toNat:Int)),.int .u8 (IntKind.u8.wrap ((x >>> 8).toNat:Int)),.int .u8 (IntKind.u8.wrap (x.toNat:Int))].toArray 5 (0,0)))) K:=by
 rw[X3] at hk;exact(h.quiet Upd.alloc).app (cM (l:=[_,_,_,_]) Blk.new (F:=fun _=>False) fun h=>h) (by show _+4≤_; omega) fun v' w' h1 h2=>hk v' w' h1 ((Upd.alloc (F:=fun b=>w0.heap.size≤b)).trans h2 fun _ _ h=>h)
theorem tM:initP.val = .agg #[.int .u32 1779033703,.int .u32 3144134277,.int .u32 1013904242,.int .u32 2773480762,.int .u32 1359893119,.int .u32 2600822924,.int .u32 528734635,.int .u32 1541459225]:=by rfl
open Go
set_option maxRecDepth 100000
set_option maxHeartbeats 2000000 in
theorem X4 {w:World}:Ok (den Tryz.prog 185 #[] w) fun v w'=>v=initP.val∧Upd (fun _=>False) w w':=by
 refine cF (args:=[]) 0 228 Tryz.func185 rfl mixed (by kernel_rfl) QD rfl ?_;rw[tM];have hup:Upd (fun _=>False) w (set8 (w.alloc (.cells [Value.int .u32 0,.int .u32 0,.int .u32 0,.int .u32 0,.int .u32 0,.int .u32 0,.int .u32 0,.int .u32 0].toArray 228 (0,0))) w.heap.size initP):=Upd.alloc.trans dJ fun x hx e=>by omega
 unfold set8 at hup;simp(maxSteps:=3000000)(disch:=omega)only[push_cast,seval];exact hup
def SO (w:World)(p:Nat)(s:H8)(rest:Value)(n:Nat):Prop:=Blk w p (s.row ++ [rest,.int .i64 n]) 231
theorem X5 (a b c d e f g h:Int)(w:World):bldS Tryz.prog 231 #[(0,.agg #[.int .u32 a,.int .u32 b,.int .u32 c,.int .u32 d,.int .u32 e,.int .u32 f,.int .u32 g,.int .u32 h])] w =
 some (.agg #[.int .u32 a,.int .u32 b,.int .u32 c,.int .u32 d,.int .u32 e,.int .u32 f,.int .u32 g,.int .u32 h,.slice none 0 0,.int .i64 0],w):=by kernel_rfl
attribute [push_cast] X5
set_option maxHeartbeats 2000000 in
theorem X6 {w:World}:Ok (den Tryz.prog 171 #[] w) fun v w'=>∃p,v = .pointer (some ⟨p,0,none⟩)∧w.heap.size≤p∧SO w' p initP (.slice none 0 0) 0∧Upd (fun _=>False) w w':=by
 refine aB (args:=[]) rs171 Tryz.func171 rfl mixed (by kernel_rfl) QA rfl ?_;simp(maxSteps:=3000000)(disch:=omega)only[push_cast,seval];refine Ok.use X4 ?_;rintro v w1 ⟨rfl,hu1⟩;rw[tM];simp(maxSteps:=3000000)(disch:=omega)only[push_cast,seval];exact⟨_,rfl,hu1.size,Blk.new,hu1.trans Upd.alloc fun _ _ h=>h⟩
theorem mF {w:World}{F:Nat→Prop}{b o c:Nat}{d:List Int}(h:SlB w F (.slice (some ⟨b,o,none⟩) d.length c) d){l:Nat}(hl:l≤d.length)(hc:d.length≤c):SlC w F (.slice (some ⟨b,if c=l then o else o+l,none⟩) (d.length-l) (c-l)) (d.drop l):=by
 have hl2:(d.drop l).length=d.length-l:=by rw[List.length_drop]
 have h2:=fQ h (l:=l) (n:=d.length-l) (by omega) hc;rw[List.take_of_length_le (by omega)] at h2;exact⟨h2,_,_,by rw[hl2],by omega⟩
theorem X7 {w:World}{b:Nat}{s r:H8}{E:TypeId}{tl:List Value}(h:Blk w b (r.row ++ tl) E):Blk (set8 w b s) b (s.row ++ tl) E:=
 (((((((h.set 0 (vW s.a)).set 1 (vW s.b)).set 2 (vW s.c)).set 3 (vW s.d)).set 4 (vW s.e)).set 5 (vW s.f)).set 6 (vW s.g)).set 7 (vW s.h)
theorem tN {B:List Int}{s:H8}{t:Nat}:fo B s (t+1)=blkP ((B.drop (64*t)).take 64) (fo B s t):=rfl
set_option maxHeartbeats 2000000 in
theorem X8 {w:World}(hK:KT w){p:Nat}(hS:SO w p initP (.slice none 0 0) 0)(hp:p≠1){y:Value}{b:List Int}(hy:SlC w (fun x=>x=p) y b)(hl:b.length≤900000000) :
 Ok (den Tryz.prog 172 #[.pointer (some ⟨p,0,none⟩),y] w) fun _ w'=>∃rv,SO w' p (fo b initP (b.length/64)) rv b.length∧Bow w' rv (b.drop (64*(b.length/64)))∧(∀g,rv.ownBlock=some g→w.heap.size≤g)∧Upd (fun x=>x=p) w w':=by
 obtain⟨ya,yc,rfl,hyc⟩:=id hy.2;refine aB (args:=[.pointer (some ⟨p,0,none⟩),.slice ya b.length yc]) rs172 Tryz.func172 rfl mixed (by kernel_rfl) QB rfl ?_;have hS':=hS;unfold SO initP H8.row vW at hS;dsimp only[List.cons_append,List.nil_append] at hS;have hpl:=hS.lt;have hb0:Blk (w.setCell ⟨p,9,none⟩ (.int .i64 (0+(b.length:Int)))) p ((fo b initP 0).row ++ [.slice none 0 0,.int .i64 b.length]) 231:=by
  have h0:=hS'.set 9 (.int .i64 (0+(b.length:Int)));rw[Int.zero_add] at h0 ⊢;exact h0
 have hu0:Upd (fun x=>x=p) w (w.setCell ⟨p,9,none⟩ (.int .i64 (0+(b.length:Int)))):=Upd.set rfl;simp(config:={maxSteps:=3000000}) (disch:=omega) only[push_cast,Nat.reduceBEq,Nat.reduceEqDiff,Nat.reduceAdd,Nat.reduceMul,Nat.reduceSub,Nat.reduceLT,Int.reduceToNat,Int.reduceLT,Int.reduceLE,Int.reduceEq,Int.reduceAdd,Int.reduceSub,Int.reduceNeg,Int.reduceMul,hS.cell,hS.free];generalize w.setCell ⟨p,9,none⟩ (.int .i64 (0+(b.length:Int)))=w0 at *;clear hS hS';have hT:b.length/64*64≤b.length∧b.length<b.length/64*64+64:=by omega
 obtain⟨T,hTe⟩ : ∃T,T=b.length/64:=⟨_,rfl⟩;rw[←hTe] at hT ⊢;refine aE (I:=fun k st w'=>Bx (∃t v,k+t=T∧st = [v]∧SlC w' (fun x=>x=p) v (b.drop (64*t))∧Blk w' p ((fo b initP t).row ++ [.slice none 0 0,.int .i64 b.length]) 231∧Upd (fun x=>x=p) w w') ⟨⟩) ?_ T
  ⟨0,_,by omega,rfl,by simpa using hy.upd hu0 (fun _ h=>h),hb0,hu0⟩
 clear hb0 hu0;rintro k st w1 ⟨t,v,hk,rfl,h1,hb1,hu1⟩;obtain⟨va,vc,rfl,hvc⟩:=id h1.2;have hs1:=hu1.size;have hld:(b.drop (64*t)).length=b.length-64*t:=List.length_drop;have hnext:=tN (B:=b) (s:=initP) (t:=t);obtain⟨N,hN⟩ : ∃N,N=b.length:=⟨_,rfl⟩;rw[←hN] at hb1 ⊢;have hd64:b.drop (64*(t+1))=(b.drop (64*t)).drop 64:=by rw[List.drop_drop]; congr 1
 have hlt1:=hb1.lt;by_cases hk0:k=0
 ·obtain rfl:t=T:=by omega
  generalize fo b initP t=s at *;obtain⟨a,b',c',d,e,f,g',h⟩:=s;unfold H8.row vW at hb1;dsimp only[List.cons_append,List.nil_append] at hb1;have hlt : ¬(64:Int)≤(b.drop (64*t)).length:=by omega
  simp(config:={maxSteps:=3000000}) (disch:=omega) only[push_cast,Nat.reduceBEq,Nat.reduceEqDiff,Nat.reduceAdd,Nat.reduceMul,Nat.reduceSub,Nat.reduceLT,Int.reduceToNat,Int.reduceLT,Int.reduceLE,Int.reduceEq,Int.reduceAdd,Int.reduceSub,Int.reduceNeg,Int.reduceMul,hlt];refine(Fr.empty).app (h1.1.upd (Upd.alloc (F:=fun _=>False)) fun _ h=>h.elim) (by rw[List.length_nil,hld]; omega) ?_;intro v2 w2 h2 hu2;rw[List.nil_append] at h2;obtain⟨va2,vc2,rfl,_⟩:=h2.own.form;have hb2:=hb1.upd h2.upd fun h=>h;simp(config:={maxSteps:=3000000}) (disch:=omega) only[push_cast,Nat.reduceBEq,Nat.reduceEqDiff,Nat.reduceAdd,Nat.reduceMul,Nat.reduceSub,Nat.reduceLT,Int.reduceToNat,Int.reduceLT,Int.reduceLE,Int.reduceEq,Int.reduceAdd,Int.reduceSub,Int.reduceNeg,Int.reduceMul,hb2.cell,hb2.free];have hu3:Upd (fun x=>x=p) w2 (w2.setCell ⟨p,8,none⟩ (.slice va2 (b.drop (64*t)).length vc2)):=Upd.set rfl;have hnew : ∀g,(Value.slice va2 (b.drop (64*t)).length vc2).ownBlock=some g→w.heap.size≤g:=fun g hg=>by have:=h2.new g hg; omega
  exact⟨_,hb2.set 8 _,h2.own.upd hu3 fun g hg e=>by have:=h2.new g hg; omega,hnew,(hu1.trans (h2.upd.mono (G:=fun x=>x=p) fun _ _ h=>h.elim) fun _ _ h=>h).trans hu3 fun _ _ h=>h⟩
 have hlt:(64:Int)≤(b.drop (64*t)).length:=by omega
 generalize fo b initP t=s at *;generalize b.drop (64*t)=B at *;have hB0:B[0]? =some (B[0]'(by omega)):=List.getElem?_eq_getElem _;obtain⟨g,o,c,e,hx⟩:=h1.at_ hB0;clear hB0 hx;injection e with e1 e2 e3;subst e1 e3;clear e2;have htk:=fW h1.1 (n:=64) (by omega) hvc;have hdr:=mF h1.1 (l:=64) (by omega) hvc;have hl64:(B.take 64).length=64:=by rw[List.length_take]; omega
 generalize B.take 64=Q at *;obtain⟨a,b',c',d,e,f,g',h⟩:=s;have hs3:=hb1;unfold H8.row vW at hb1;dsimp only[List.cons_append,List.nil_append] at hb1;have hcn:(64:Int)≤vc:=by omega
 have hsx:=cW (P:=Tryz.prog) (t:=55) (w:=w1) (b:=g) (o:=o) (n:=B.length) (c:=vc) (k:=.i64) (h:=64) (by omega) hcn;have hsld:=htk.1.upd (Upd.drew (F:=fun _=>False)) fun _ h=>h.elim;have hdrd:=hdr.upd (Upd.drew (F:=fun _=>False)) fun _ h=>h.elim;have hb3d:=hb1.drew;have hs3d:=hs3.drew;have hu3d:=hu1.drew';have hsxd:=cW (P:=Tryz.prog) (t:=55) (w:=w1.drew) (b:=g) (o:=o) (n:=B.length) (c:=vc) (k:=.i64) (h:=64) (by omega) hcn;simp(config:={maxSteps:=3000000}) (disch:=omega) only[push_cast,Nat.reduceBEq,Nat.reduceEqDiff,Nat.reduceAdd,Nat.reduceMul,Nat.reduceSub,Nat.reduceLT,Int.reduceToNat,Int.reduceLT,Int.reduceLE,Int.reduceEq,Int.reduceAdd,Int.reduceSub,Int.reduceNeg,Int.reduceMul,hb1.cell,hb1.free,hlt,hsx];generalize w1.drew=w3d at *;rw[←hl64] at hsld;have hcall:=tI (s:=⟨a,b',c',d,e,f,g',h⟩) (hK.upd hu3d (fun e=>hp e.symm)) hl64 hsld;rw[hl64] at hcall;refine Ok.use hcall ?_;rintro v w4 ⟨rfl,hu4⟩;rw[←hnext];generalize hfo:fo b initP (t+1)=s' at *;obtain⟨a1,b1,c1,d1,e1,f1,g1,h1⟩:=s';have hb4:=hb3d.upd hu4 fun h=>h;have hsx4:=cW (P:=Tryz.prog) (t:=55) (w:=w4) (b:=g) (o:=o) (n:=B.length) (c:=vc) (k:=.i64) (h:=64) (by omega) hcn;unfold H8.val H8.row vW;simp(config:={maxSteps:=3000000}) (disch:=omega) only[push_cast,Nat.reduceBEq,Nat.reduceEqDiff,Nat.reduceAdd,Nat.reduceMul,Nat.reduceSub,Nat.reduceLT,Int.reduceToNat,Int.reduceLT,Int.reduceLE,Int.reduceEq,Int.reduceAdd,Int.reduceSub,Int.reduceNeg,Int.reduceMul,hb1.cell,hb1.free,hb3d.cell,hb3d.free,hb4.cell,hb4.free,hlt,hsx,hsxd,hsx4];have hb:=X7 (s:=⟨a1,b1,c1,d1,e1,f1,g1,h1⟩) (hs3d.upd hu4 fun h=>h);have hup8:=dJ (w:=w4) (b:=p) (s:=⟨a1,b1,c1,d1,e1,f1,g1,h1⟩);have hup:=(hu3d.trans (hu4.mono (G:=fun x=>x=p) fun _ _ h=>h.elim) fun _ _ h=>h).trans hup8 fun _ _ h=>h;have hsl:=(hdrd.upd hu4 (fun _ h=>h.elim)).upd hup8 fun _ h=>h;unfold set8 vW at hb hup hsl;dsimp only at hb hup hsl;rw[←hd64] at hsl;generalize ((((((((w4.setCell ⟨p,0,none⟩ (.int .u32 a1.toNat)).setCell ⟨p,1,none⟩ (.int .u32 b1.toNat)).setCell ⟨p,2,none⟩ (.int .u32 c1.toNat)).setCell ⟨p,3,none⟩ (.int .u32 d1.toNat)).setCell ⟨p,4,none⟩ (.int .u32 e1.toNat)).setCell ⟨p,5,none⟩ (.int .u32 f1.toNat)).setCell ⟨p,6,none⟩ (.int .u32 g1.toNat)).setCell ⟨p,7,none⟩ (.int .u32 h1.toNat))=w5 at *;have hall:Bx (∃t v,k-1+t=T∧[Value.slice (some ⟨g,if vc=64 then o else o+64,none⟩) (B.length-64) (vc-64)] = [v]∧SlC w5 (fun x=>x=p) v (b.drop (64*t))∧Blk w5 p ((fo b initP t).row ++ [.slice none 0 0,.int .i64 N]) 231∧Upd (fun x=>x=p) w w5) ⟨⟩:=
  ⟨t+1,_,by omega,rfl,hsl,by rw[hfo]; exact hb,hup⟩
 exact⟨k-1,by omega,hall⟩
open Go
set_option maxRecDepth 100000
section
variable {P : Program} {D : Den} {ty : TypeId} {e : Operand → Value} {w : World}
def ixvS (P:Program)(t:TypeId)(x i:Value)(w:World):Option (Value×World):=lift ((Instr.index t x i).run P w)
theorem X9 {t:TypeId}{x i:Operand}:opX P D (.index t x i) ty e w=ixvS P t (e x) (e i) w:=by
 simp only[opX,opS,execOp,ixvS,lift];generalize Instr.index t (e x) (e i)=s;simp;cases s.run P w <;> simp
theorem YA {t el:TypeId}{cs:Array Value}{n:Nat}{k:IntKind}{i:Nat}{v:Value}(ht:arrOf P t=some (n,el))(hs:siz P el=some 1)(hk:knd P el=some false)(h1:i<n)(hv:cs[i]? =some v) :
 ixvS P t (.agg cs) (.int k (i:Int)) w=some (v,w):=by
 unfold arrOf at ht;unfold siz at hs;unfold knd at hk;split at ht
 ·rename_i n' el' hu;simp only[Option.some.injEq,Prod.mk.injEq] at ht;obtain⟨rfl,rfl⟩:=ht;cases hi:P.info? el' with
  | none=>rw[hi] at hs; cases hs
  | some inf=>
   rw[hi] at hs;simp only[Option.map_some,Option.some.injEq] at hs;have h2:(i:Int)<n':=by omega
   simp[ixvS,lift,Instr.index,asIntOf,underlying,hu,h2,sizeOf,typeInfo,hi,hs,part,isAgg];rw[if_pos h1];cases hq:P.underlying el' with
   | none=>rw[hq] at hk; cases hk
   | some d=>
    rw[hq] at hk;cases d <;> first | (cases hk; done) | simp[hv]
 ·cases ht
end
attribute [push_cast] X9
def endP (rest:List Int)(n:Nat):List Int:=rest ++ [128] ++ List.replicate (zerosN rest.length) 0 ++ beL 8 (8*n)
theorem tO {B:List Int}{s:H8}{m:Nat} : ∀{t:Nat},fo B s (m+t)=fo (B.drop (64*m)) (fo B s m) t
 | 0=>rfl
 | t+1=>by
  show blkP ((B.drop (64*(m+t))).take 64) (fo B s (m+t))=blkP _ _;rw[tO (t:=t),List.drop_drop,Nat.mul_add]
theorem tP {b c:List Int}{s:H8} : ∀{m:Nat},64*m≤b.length→fo (b ++ c) s m=fo b s m
 | 0,_=>rfl
 | m+1,h=>by
  show blkP _ _=blkP _ _;rw[tP (m:=m) (by omega),List.drop_append_of_le_length (by omega),List.take_append_of_le_length (by rw[List.length_drop]; omega)]
theorem YB {rest:List Int}{n:Nat}:(endP rest n).length=rest.length+1+zerosN rest.length+8:=by simp [endP,bA]; omega
theorem YC {b:List Int}:outP (fo (endP (b.drop (64*(b.length/64))) b.length) (fo b initP (b.length/64)) ((endP (b.drop (64*(b.length/64))) b.length).length/64)) 8=sumP b:=by
 have hz:zerosN (b.drop (64*(b.length/64))).length=zerosN b.length:=by
  rw[List.length_drop]; unfold zerosN; omega
 have hE:endP (b.drop (64*(b.length/64))) b.length=(padP b).drop (64*(b.length/64)):=by
  unfold endP padP;rw[hz,List.append_assoc,List.append_assoc,List.append_assoc,List.append_assoc,List.drop_append_of_le_length (by omega)]
 have h1:fo b initP (b.length/64)=fo (padP b) initP (b.length/64):=by
  unfold padP;rw[List.append_assoc,List.append_assoc,tP (by omega)]
 rw[hE,h1,←tO,sumP,List.length_drop];have hl:=XW (b:=b);congr 2;omega
set_option maxHeartbeats 2000000 in
theorem YD {w:World}(hK:KT w){p:Nat}{s:H8}{rv:Value}{rest:List Int}{n:Nat}(hS:SO w p s rv n){F:Nat→Prop}(hr:SlB w F rv rest)(hrl:rest.length<64)(hn:n≤900000000) :
 Ok (den Tryz.prog 173 #[.pointer (some ⟨p,0,none⟩)] w) fun u w'=>u = .string (strOfNums (outP (fo (endP rest n) s ((endP rest n).length/64)) 8))∧Upd (fun _=>False) w w':=by
 obtain⟨ya,yc,rfl,_⟩:=id hr;refine aB (args:=[.pointer (some ⟨p,0,none⟩)]) rs173 Tryz.func173 rfl mixed (by kernel_rfl) QC rfl ?_;have hS':=hS;unfold SO at hS;obtain⟨a,b',c',d,e,f,g',h⟩:=s;unfold H8.row vW at hS;dsimp only[List.cons_append,List.nil_append] at hS;have hpl:=hS.lt;simp(maxSteps:=3000000)(disch:=omega)only[push_cast,seval,hS.cell,hS.free];refine(Fr.empty).app ((Fr.empty).old hr) (by simp; omega) ?_;intro v' w2 h2 _;rw[List.nil_append] at h2;simp(maxSteps:=3000000)(disch:=omega)only[push_cast,seval];refine h2.push (by omega) ?_;intro v3 w3 h3 _;simp(maxSteps:=3000000)(disch:=omega)only[push_cast,seval];refine aE (I:=fun k st w'=>Bx (∃t v,k+t=zerosN rest.length∧st = [v]∧Fr w w' v (rest ++ [128] ++ List.replicate t 0)) ⟨⟩) ?_ (zerosN rest.length)
  ⟨0,v3,by omega,rfl,by simpa using h3⟩
 rintro k st w4 ⟨t,v,hk,rfl,h4⟩;obtain⟨va,vc,rfl,_⟩:=h4.own.form;have hlen:(rest ++ [128] ++ List.replicate t 0).length=rest.length+1+t:=by simp; omega
 obtain⟨L,hL⟩ : ∃L,L=rest.length+1+t:=⟨_,rfl⟩;rw[hlen,←hL] at h4 ⊢;have hz9:zerosN rest.length<64:=by unfold zerosN; omega
 by_cases hk0:k=0
 ·obtain rfl:t=zerosN rest.length:=by omega
  have e1:(L:Int).tmod 64=56:=by rw[tJ,hL,XZ]; rfl
  have e2:IntKind.u64.wrap (n:Int)=(n:Int):=by rw[IntKind.wrap_u64]; omega
  have e3:IntKind.u64.wrap ((n:Int)*8)=((8*n:Nat):Int):=by rw[IntKind.wrap_u64]; omega
  obtain⟨N,hN⟩ : ∃N,N=8*n:=⟨_,rfl⟩;rw[←hN] at e3;have hb4:=hS.upd h4.upd fun h=>h;have hS4:=Blk.upd hS' h4.upd fun h=>h;simp(maxSteps:=3000000)(disch:=omega)only[push_cast,seval,e1,e2,e3,hb4.cell,hb4.free];have hpad:endP rest n=rest ++ [128] ++ List.replicate (zerosN rest.length) 0 ++ beL 8 N:=by rw[endP,hN]
  have hEl:=YB (rest:=rest) (n:=n);have hEm:(endP rest n).length%64=0:=by rw[hEl]; unfold zerosN; omega
  generalize endP rest n=E at *;subst hpad;generalize rest ++ [128] ++ List.replicate (zerosN rest.length) 0=P at *;clear hb4 hS4;refine aE (I:=fun k st w'=>Bx (k≤8∧∃v,st = [v,.int .i64 (8*(k:Int)-8)]∧Fr w w' v (P ++ (beL 8 N).take (8-k))) ⟨⟩) ?_ 8
   ⟨by omega,_,rfl,by simpa using h4⟩
  rintro k st w5 ⟨hk8,v,rfl,h5⟩;obtain⟨va5,vc5,rfl,hcap5⟩:=h5.own.form;cases k with
  | zero=>
   rw[show 8-0=8 from rfl,List.take_of_length_le (by rw[bA]; omega)] at h5 hcap5 ⊢;generalize P ++ beL 8 N=E at *;have hb5:=hS.upd h5.upd fun h=>h;have hbv:Blk (set8 (w5.alloc (.cells [Value.int .u32 0,.int .u32 0,.int .u32 0,.int .u32 0,.int .u32 0,.int .u32 0,.int .u32 0,.int .u32 0].toArray 228 (0,0))) w5.heap.size ⟨a,b',c',d,e,f,g',h⟩) w5.heap.size (H8.row ⟨a,b',c',d,e,f,g',h⟩) 228:=jH (cs:=[Value.int .u32 0,.int .u32 0,.int .u32 0,.int .u32 0,.int .u32 0,.int .u32 0,.int .u32 0,.int .u32 0]) rfl Blk.new;have huv:Upd (fun _=>False) w5 (set8 (w5.alloc (.cells [Value.int .u32 0,.int .u32 0,.int .u32 0,.int .u32 0,.int .u32 0,.int .u32 0,.int .u32 0,.int .u32 0].toArray 228 (0,0))) w5.heap.size ⟨a,b',c',d,e,f,g',h⟩):=Upd.alloc.trans dJ fun x hx e=>by omega
   unfold set8 vW at hbv huv;dsimp only at hbv huv;simp(maxSteps:=3000000)(disch:=omega)only[push_cast,seval,hb5.cell,hb5.free];have h6:=h5.quiet huv;generalize (((((((((w5.alloc (.cells [Value.int .u32 0,.int .u32 0,.int .u32 0,.int .u32 0,.int .u32 0,.int .u32 0,.int .u32 0,.int .u32 0].toArray 228 (0,0))).setCell ⟨w5.heap.size,0,none⟩ (.int .u32 (a.toNat:Int))).setCell ⟨w5.heap.size,1,none⟩ (.int .u32 (b'.toNat:Int))).setCell ⟨w5.heap.size,2,none⟩ (.int .u32 (c'.toNat:Int))).setCell ⟨w5.heap.size,3,none⟩ (.int .u32 (d.toNat:Int))).setCell ⟨w5.heap.size,4,none⟩ (.int .u32 (e.toNat:Int))).setCell ⟨w5.heap.size,5,none⟩ (.int .u32 (f.toNat:Int))).setCell ⟨w5.heap.size,6,none⟩ (.int .u32 (g'.toNat:Int))).setCell ⟨w5.heap.size,7,none⟩ (.int .u32 (h.toNat:Int)))=w6 at *;have hw5:=h5.upd.size;obtain⟨u,hu⟩ : ∃u,u=w5.heap.size:=⟨_,rfl⟩;rw[←hu] at hbv ⊢;have hKT:=hK.upd h6.upd fun h=>h;have hK0:=hK.1;have huw:=h6.upd;have hsl6:SlC w6 (fun x=>x=u) (.slice va5 E.length vc5) E:=by
    refine h6.own.slc fun g hg e=>?_;have:=h5.own.lt hg;omega
   clear h6 h5 huv hb5 hS hS' h4 h3 h2;generalize (⟨a,b',c',d,e,f,g',h⟩:H8)=s at *;obtain⟨T,hT⟩ : ∃T,T=E.length/64:=⟨_,rfl⟩;rw[←hT];refine aE (I:=fun k st w'=>Bx (∃t v,k+t=T∧st = [v]∧SlC w' (fun x=>x=u) v (E.drop (64*t))∧Blk w' u (fo E s t).row 228∧Upd (fun x=>x=u) w6 w') ⟨⟩) ?_ T
    ⟨0,_,by omega,rfl,by simpa using hsl6,hbv,Upd.refl⟩
   clear hbv hsl6;rintro k st w7 ⟨t,v,hk,rfl,h7,hb7,hu7⟩;obtain⟨va7,vc7,rfl,hvc⟩:=id h7.2;have hld:(E.drop (64*t)).length=E.length-64*t:=List.length_drop;have hnext:=tN (B:=E) (s:=s) (t:=t);have hd64:E.drop (64*(t+1))=(E.drop (64*t)).drop 64:=by rw[List.drop_drop]; congr 1
   have hlt7:=hb7.lt;by_cases hk0:k=0
   ·obtain rfl:t=T:=by omega
    generalize fo E s t=s7 at *;obtain⟨a1,b1,c1,d1,e1,f1,g1,h1⟩:=s7;have hlt : ¬(0:Int)<(E.drop (64*t)).length:=by omega
    have hb7':=hb7;unfold H8.row vW at hb7;dsimp only at hb7;obtain⟨w8,e8,hB8,hu8,hs8⟩:=QX (w:=w7) (k:=.i64) (k':=.i64) (n:=32) (by omega) (by omega);have hf8:Fr w7 w8 (.slice (some ⟨w7.heap.size,0,none⟩) 0 32) []:=⟨hB8,fun g hg=>by have:=a6 hg; omega,hu8⟩;have hb8:=hb7.upd hu8 fun h=>h;simp(maxSteps:=3000000)(disch:=omega)only[push_cast,seval,hlt,hb7.cell,hb7.free,e8,hb8.cell,hb8.free];have hlen0:=hf8.own.form;refine aE (I:=fun k st w'=>Bx (∃t v,k+t=8∧st = [v,.int .i64 (t:Int)]∧Fr w7 w' v (outP ⟨a1,b1,c1,d1,e1,f1,g1,h1⟩ t)) ⟨⟩) ?_ 8
     ⟨0,_,by omega,rfl,hf8⟩
    rintro k st w9 ⟨t,v,hk,rfl,h9⟩;obtain⟨va9,vc9,rfl,_⟩:=h9.own.form;by_cases hk0:k=0
    ·obtain rfl:t=8:=by omega
     have hc:=aR h9.slc.1;simp(maxSteps:=3000000)(disch:=omega)only[push_cast,seval,hc];exact(huw.trans (hu7.mono (G:=fun b=>w.heap.size≤b) fun b _ e=>by omega) fun b hb h=>by omega).trans h9.upd fun _ _ h=>h
    have hol:=mE (s:=⟨a1,b1,c1,d1,e1,f1,g1,h1⟩) (t:=t);have qr:=tH (s:=⟨a1,b1,c1,d1,e1,f1,g1,h1⟩) (i:=t) (by omega);have hle:(t:Int)<8:=by omega
    have qr2:(#[Value.int .u32 (a1.toNat:Int),.int .u32 (b1.toNat:Int),.int .u32 (c1.toNat:Int),.int .u32 (d1.toNat:Int),.int .u32 (e1.toNat:Int),.int .u32 (f1.toNat:Int),.int .u32 (g1.toNat:Int),.int .u32 (h1.toNat:Int)])[t]? =some (.int .u32 ((H8.get ⟨a1,b1,c1,d1,e1,f1,g1,h1⟩ t).toNat:Int)):=by
     rw[←List.getElem?_toArray] at qr;exact qr
    have hix:=YA (w:=w9) (k:=.i64) oT oS oR (by omega) qr2;have hnx:outP ⟨a1,b1,c1,d1,e1,f1,g1,h1⟩ (t+1)=outP ⟨a1,b1,c1,d1,e1,f1,g1,h1⟩ t ++ wby (H8.get ⟨a1,b1,c1,d1,e1,f1,g1,h1⟩ t):=rfl;generalize H8.get ⟨a1,b1,c1,d1,e1,f1,g1,h1⟩ t=x at *;simp(maxSteps:=3000000)(disch:=omega)only[push_cast,seval,hle,hix];refine h9.push4 (by omega) ?_;intro v10 w10 h10 _;simp(maxSteps:=3000000)(disch:=omega)only[push_cast,seval];exact⟨k-1,by omega,t+1,v10,by omega,by simp,by rw[hnx]; exact h10⟩
   have hlt:(0:Int)<(E.drop (64*t)).length:=by omega
   have hl9:64≤(E.drop (64*t)).length:=by omega
   generalize fo E s t=s7 at *;generalize E.drop (64*t)=B at *;have hB0:B[0]? =some (B[0]'(by omega)):=List.getElem?_eq_getElem _;obtain⟨g0,o,c,e0,hx⟩:=h7.at_ hB0;clear hB0 hx;injection e0 with q1 q2 q3;subst q1 q3;clear q2;have htk:=fW h7.1 (n:=64) (by omega) hvc;have hdr:=mF h7.1 (l:=64) (by omega) hvc;have hl64:(B.take 64).length=64:=by rw[List.length_take]; omega
   generalize B.take 64=Q at *;obtain⟨a1,b1,c1,d1,e1,f1,g1,h1⟩:=s7;have hs3:=hb7;unfold H8.row vW at hb7;dsimp only at hb7;have hcn:(64:Int)≤vc7:=by omega
   have hsx:=cW (P:=Tryz.prog) (t:=55) (w:=w7) (b:=g0) (o:=o) (n:=B.length) (c:=vc7) (k:=.i64) (h:=64) (by omega) hcn;have hsld:=htk.1.upd (Upd.drew (F:=fun _=>False)) fun _ h=>h.elim;have hdrd:=hdr.upd (Upd.drew (F:=fun _=>False)) fun _ h=>h.elim;have hb3d:=hb7.drew;have hs3d:=hs3.drew;have hu3d:=hu7.drew';have hsxd:=cW (P:=Tryz.prog) (t:=55) (w:=w7.drew) (b:=g0) (o:=o) (n:=B.length) (c:=vc7) (k:=.i64) (h:=64) (by omega) hcn;simp(maxSteps:=3000000)(disch:=omega)only[push_cast,seval,hb7.cell,hb7.free,hlt,hsx];generalize w7.drew=w3d at *;rw[←hl64] at hsld;have hcall:=tI (s:=⟨a1,b1,c1,d1,e1,f1,g1,h1⟩) (hKT.upd hu3d (fun e=>by omega)) hl64 hsld;rw[hl64] at hcall;refine Ok.use hcall ?_;rintro v w8 ⟨rfl,hu4⟩;rw[←hnext];generalize hfo:fo E s (t+1)=s' at *;obtain⟨a2,b2,c2,d2,e2',f2,g2,h2'⟩:=s';have hb4:=hb3d.upd hu4 fun h=>h;have hsx4:=cW (P:=Tryz.prog) (t:=55) (w:=w8) (b:=g0) (o:=o) (n:=B.length) (c:=vc7) (k:=.i64) (h:=64) (by omega) hcn;unfold H8.val H8.row vW;simp(maxSteps:=3000000)(disch:=omega)only[push_cast,seval,hb7.cell,hb7.free,hb3d.cell,hb3d.free,hb4.cell,hb4.free,hlt,hsx,hsxd,hsx4];have hb:=jH (s:=⟨a2,b2,c2,d2,e2',f2,g2,h2'⟩) rfl (hs3d.upd hu4 fun h=>h);have hup8:=dJ (w:=w8) (b:=u) (s:=⟨a2,b2,c2,d2,e2',f2,g2,h2'⟩);have hup:=(hu3d.trans (hu4.mono (G:=fun x=>x=u) fun _ _ h=>h.elim) fun _ _ h=>h).trans hup8 fun _ _ h=>h;have hsl:=(hdrd.upd hu4 (fun _ h=>h.elim)).upd hup8 fun _ h=>h;unfold set8 vW at hb hup hsl;dsimp only at hb hup hsl;rw[←hd64] at hsl;generalize ((((((((w8.setCell ⟨u,0,none⟩ (.int .u32 a2.toNat)).setCell ⟨u,1,none⟩ (.int .u32 b2.toNat)).setCell ⟨u,2,none⟩ (.int .u32 c2.toNat)).setCell ⟨u,3,none⟩ (.int .u32 d2.toNat)).setCell ⟨u,4,none⟩ (.int .u32 e2'.toNat)).setCell ⟨u,5,none⟩ (.int .u32 f2.toNat)).setCell ⟨u,6,none⟩ (.int .u32 g2.toNat)).setCell ⟨u,7,none⟩ (.int .u32 h2'.toNat))=w9 at *;have hall:Bx (∃t v,k-1+t=T∧[Value.slice (some ⟨g0,if vc7=64 then o else o+64,none⟩) (B.length-64) (vc7-64)] = [v]∧SlC w9 (fun x=>x=u) v (E.drop (64*t))∧Blk w9 u (fo E s t).row 228∧Upd (fun x=>x=u) w6 w9) ⟨⟩:=
    ⟨t+1,_,by omega,rfl,hsl,by rw[hfo]; exact hb,hup⟩
   exact⟨k-1,by omega,hall⟩
  | succ q=>
   have e4:8*((q+1:Nat):Int)-8=((8*q:Nat):Int):=by omega
   have e7:=X0 (n:=N) (k:=8) (j:=7-q) (by omega);rw[show 8-1-(7-q)=q by omega,show 7-q+1=8-q by omega] at e7;rw[e4,show 8-(q+1)=7-q by omega] at *;have e6:=XX (n:=N) (k:=q) (by omega) (by omega);have h5l:(P ++ (beL 8 N).take (7-q)).length<1000000000:=by rw[List.length_append,List.length_take,hlen]; omega
   generalize N/256 ^ q%256=x at *;obtain⟨Q,hQ⟩ : ∃Q,Q=8*q:=⟨_,rfl⟩;rw[←hQ] at e6 ⊢;have e5:IntKind.u64.wrap (Q:Int)=(Q:Int):=by rw[IntKind.wrap_u64]; omega
   have hQ0:(Q:Int)≤56:=by omega
   generalize (P ++ (beL 8 N).take (7-q)).length=n5 at h5 ⊢;simp(maxSteps:=3000000)(disch:=omega)only[push_cast,seval,e5,e6];refine h5.push h5l ?_;intro v6 w6 h6 _;simp(maxSteps:=3000000)(disch:=omega)only[push_cast,seval];exact⟨q,by omega,by omega,v6,by congr 3; omega,by rw[e7,←List.append_assoc]; exact h6⟩
 have e : ¬(L:Int).tmod 64=56:=by
  rw[tJ,hL];have:=XY (n:=rest.length) (t:=t) (by omega);omega
 simp(maxSteps:=3000000)(disch:=omega)only[push_cast,seval,e];refine h4.push (by rw[hlen]; omega) ?_;intro v6 w6 h6 _;simp(maxSteps:=3000000)(disch:=omega)only[push_cast,seval];refine⟨k-1,by omega,t+1,v6,by omega,rfl,?_⟩;rw[List.replicate_succ',←List.append_assoc];exact h6
set_option maxHeartbeats 2000000 in
theorem YE {w:World}(hK:KT w){y:Value}{b:List Int}{F:Nat→Prop}(hy:SlC w F y b)(hl:b.length≤900000000) :
 Ok (den Tryz.prog 162 #[y] w) fun u w'=>u = .string (strOfNums (sumP b))∧Upd (fun _=>False) w w':=by
 obtain⟨ya,yc,rfl,_⟩:=id hy.2;refine aB (args:=[.slice ya b.length yc]) rs162 Tryz.func162 rfl mixed (by kernel_rfl) P4 rfl ?_;simp(maxSteps:=3000000)(disch:=omega)only[push_cast,seval];refine Ok.use X6 ?_;rintro v w1 ⟨p,rfl,hp,hS,hu1⟩;have hK0:=hK.1;simp(maxSteps:=3000000)(disch:=omega)only[push_cast,seval];have hy1:SlC w1 (fun x=>x=p) (.slice ya b.length yc) b:=(hy.mono (G:=fun x=>x=p) fun b hb e=>by omega).go hu1 fun b hb h=>h.elim (fun h=>h.elim) fun h=>h;refine Ok.use (X8 (hK.upd hu1 fun h=>h) hS (by omega) hy1 hl) ?_;rintro v w2 ⟨rv,hS2,hrv,hnew,hu2⟩;simp(maxSteps:=3000000)(disch:=omega)only[push_cast,seval];have hK2:=(hK.upd hu1 fun h=>h).upd hu2 fun e=>by omega
 have hs:=YC (b:=b);have hrest:(b.drop (64*(b.length/64))).length<64:=by rw[List.length_drop]; omega
 refine Ok.use (YD hK2 hS2 (hrv.slb (F:=fun _=>False) fun _ _ h=>h) hrest hl) ?_;rintro v w3 ⟨rfl,hu3⟩;simp(maxSteps:=3000000)(disch:=omega)only[push_cast,seval];rw[hs];exact⟨rfl,(hu1.trans hu2 fun b hb e=>by omega).trans hu3 fun _ _ h=>h⟩
open Go Go.Lib
set_option maxRecDepth 100000
theorem YF {l:List Int}:strOfNums l=⟨(l.map fun n=>UInt8.ofNat n.toNat).toArray⟩:=by
 unfold strOfNums;simp
theorem YG {l:List Int}(h:Rng l):strL (strOfNums l)=l:=by
 rw[YF,strL];simp only[List.map_map];rw[List.map_congr_left (g:=id),List.map_id];intro x hx;have:=h x hx;simp;omega
section
variable {P : Program} {D : Den} {w : World} {ty : TypeId} {e : Operand → Value} {t : TypeId}
theorem YH {x:Operand}:opX P D (.slice t x none none none) ty e w=slcS P t (e x) none none w:=by
 simp only[opX,opS,execOp,slcS,lift];simp;generalize Instr.sliceAt t (e x) none none none=s;cases s.run P w <;> simp
theorem mG {n:Nat}{el:TypeId}(h:arrOf P t=some (n,el)):P.underlying t=some (.array (P.arrayLen t) (P.elem t))∧P.elem t=el∧P.arrayLen t=n:=by
 have hu:P.underlying t=some (.array n el):=by
  unfold arrOf at h;split at h
  ·rename_i h2; cases h; exact h2
  ·cases h
 have he:P.elem t=el:=by simp[Program.elem,hu]
 have hn:P.arrayLen t=n:=by simp[Program.arrayLen,hu]
 exact⟨by rw[he,hn]; exact hu,he,hn⟩
theorem YI {b o n s:Nat}{el:TypeId}(h:arrOf P t=some (n,el))(hs:siz P el=some s):slcS P t (.pointer (some ⟨b,o,none⟩)) none none w=some (.slice (some ⟨b,o,none⟩) n n,w):=by
 obtain⟨hu,he,hn⟩:=mG h;unfold slcS lift;rw[run_sliceAt_array_all w t _ hu,he,cV hs,hn];have ha:(⟨b,o,none⟩:Addr).add 0=⟨b,o,none⟩:=rfl;simp[slicedAt,ha]
theorem YJ {b o n s:Nat}{el:TypeId}{k:IntKind}{j:Int}(h:arrOf P t=some (n,el))(hs:siz P el=some s)(h0:0≤j)(h1:j≤n):slcS P t (.pointer (some ⟨b,o,none⟩)) none (some (.int k j)) w=some (.slice (some ⟨b,o,none⟩) j.toNat n,w):=by
 obtain⟨hu,he,hn⟩:=mG h;unfold slcS lift;rw[run_sliceAt_array_h w t _ hu _ _ h0 (by rw[hn]; exact h1),he,cV hs,hn];have ha:(⟨b,o,none⟩:Addr).add 0=⟨b,o,none⟩:=rfl;simp[slicedAt,ha]
theorem YK {b o n s:Nat}{el:TypeId}{k:IntKind}{j:Int}(h:arrOf P t=some (n,el))(hs:siz P el=some s)(h0:0≤j)(h1:j<n):slcS P t (.pointer (some ⟨b,o,none⟩)) (some (.int k j)) none w=some (.slice (some ⟨b,o+j.toNat*s,none⟩) (n-j.toNat) (n-j.toNat),w):=by
 obtain⟨hu,he,hn⟩:=mG h;unfold slcS lift;rw[run_sliceAt_array_l w t _ hu _ _ h0 (by rw[hn]; omega),he,cV hs,hn];have h2 : ¬n=j.toNat:=by omega
 have ha:(⟨b,o,none⟩:Addr).add (j.toNat*s)=⟨b,o+j.toNat*s,none⟩:=by
  unfold Addr.add;split
  ·rename_i h0; rw[h0]; rfl
  ·rfl
 simp[slicedAt,ha,h2]
theorem YL {t2 el E:TypeId}(ht:elt P t=some el)(hs:siz P el=some 1){g o dl dc:Nat}{s:ByteArray}{cur:List Value}(hg:Blk w g cur E)(hle:s.size≤dl)(hfit:o+s.size≤cur.length) :
 cpyS P #[t,t2] ty (.slice (some ⟨g,o,none⟩) dl dc) (.string s) w=some (.int .i64 s.size,w.setRow g (cur.take o ++ by8 (strL s) ++ cur.drop (o+s.size)).toArray):=by
 unfold elt at ht;split at ht
 ·rename_i el' hu;simp only[Option.some.injEq] at ht;subst ht;have:=run_copy_row_string (P:=P) (ty:=ty) w t t2 el' g o dl dc s cur.toArray E hu hs hg hle (by simpa using hfit);unfold cpyS lift;rw[this,show Lib.byteCells s.data.toList=by8 (strL s) by simp[Lib.byteCells,by8,strL]];rfl
 ·cases ht
end
attribute [push_cast] YH
def headP (b:List Int)(g:Nat):List Int:=beL 8 g ++ beL 4 b.length ++ sumP (beL 8 g ++ beL 4 b.length ++ b)
theorem mH {b:List Int}{g:Nat}:(headP b g).length=44:=by simp [headP,bA,gK]
theorem YM {b:List Int}{g:Nat}:Rng (headP b g):=(jI.append jI).append tL
theorem mI {w:World}{b:Nat}{l:List Int}{E:TypeId}(h:Blk w b (by8 l) E){c:Nat}{F:Nat→Prop}(hF : ¬F b):SlB w F (.slice (some ⟨b,0,none⟩) l.length c) l:=
 ⟨_,c,rfl,fun _=>⟨b,0,rfl,fun j _=>by have:=h.cell j; simpa using this,hF⟩⟩
theorem tQ {n k:Nat} : ∀{j:Nat},j<k→(beL k n)[j]? =some (((n/256 ^ (k-1-j))%256:Nat):Int):=by
 induction k with
 | zero=>intro j h; omega
 | succ k ih=>
  intro j h;cases j with
  | zero=>rfl
  | succ j=>
   rw[beL,List.getElem?_cons_succ,ih (by omega),show k+1-1-(j+1)=k-1-j by omega]
theorem YN {k:IntKind}{n:Int}{w:World}:cnvS Tryz.prog 2 5 (.int k n) w=some (.int .u8 (IntKind.u8.wrap n),w):=bF (by kernel_rfl) (by kernel_rfl)
theorem YO {k:IntKind}{n:Int}{w:World}:cnvS Tryz.prog 3 5 (.int k n) w=some (.int .u8 (IntKind.u8.wrap n),w):=bF (by kernel_rfl) (by kernel_rfl)
attribute [push_cast] YN YO
theorem tR {n k:Nat}(hk:k<8):IntKind.u8.wrap ((n:Int).fdiv (2 ^ (min (8*k) IntKind.i64.bits)))=(((n/256 ^ k)%256:Nat):Int):=by
 rw[show min (8*k) IntKind.i64.bits=8*k from Nat.min_eq_left (by show _≤64; omega),Int.fdiv_eq_ediv_of_nonneg _ (Int.le_of_lt (Int.pow_pos (by decide)))];have e:(2:Int) ^ (8*k)=((256 ^ k:Nat):Int):=by rw[Int.pow_mul]; rfl
 rw[e,←Int.natCast_ediv,cY]
def hRow (m:List Int)(t:Nat):List Value:=by8 (m.take t ++ List.replicate (44-t) 0)
theorem YP {m:List Int}:hRow m 0=List.replicate 44 (.int .u8 0):=by simp [hRow,by8]
theorem tS {m:List Int}{t:Nat}(h:t<44)(hm:t≤m.length):(hRow m t)[t]? =some (.int .u8 0):=by
 rw[hRow,by8,List.getElem?_map,List.getElem?_append_right (by rw[List.length_take]; omega),List.length_take,Nat.min_eq_left hm,Nat.sub_self,List.getElem?_replicate,if_pos (by omega)];rfl
theorem tT {m:List Int}{t:Nat}{x:Int}(h:t<44)(hx:m[t]? =some x):(hRow m t).set t (.int .u8 x)=hRow m (t+1):=by
 obtain⟨hm,hx⟩:=List.getElem?_eq_some_iff.1 hx;have ht:(m.take t).length=t:=by rw[List.length_take]; omega
 rw[hRow,bY,List.set_append_right _ _ (by rw[aL,ht]; exact Nat.le_refl _),aL,ht,Nat.sub_self];rw[show 44-t=(44-(t+1))+1 by omega,List.replicate_succ,hRow,List.take_succ_eq_append_getElem hm,hx,bY,bY,List.append_assoc];rfl
set_option maxHeartbeats 4000000 in
theorem YQ {w:World}(hK:KT w){F:Nat→Prop}{y:Value}{b:List Int}(hy:SlC w F y b)(hl:b.length≤800000000){g:Nat}(hg:g<2 ^ 63) :
 Ok (den Tryz.prog 137 #[y,.int .i64 (g:Int)] w) fun v w'=>v = .agg (by8 (headP b g)).toArray∧Upd (fun _=>False) w w':=by
 obtain⟨ya,yc,rfl,hyc⟩:=id hy.2;refine cF (args:=[.slice ya b.length yc,.int .i64 (g:Int)]) 4 187 Tryz.func137 rfl mixed (by kernel_rfl) PH rfl ?_;simp(config:={maxSteps:=3000000}) (disch:=omega) only[push_cast,Nat.reduceBEq,Nat.reduceEqDiff,Nat.reduceAdd,Nat.reduceMul,Nat.reduceSub,Nat.reduceLT,Int.reduceToNat,Int.reduceLT,Int.reduceLE,Int.reduceEq,Int.reduceAdd,Int.reduceSub,Int.reduceNeg,Int.reduceMul];obtain⟨M,hM⟩ : ∃M,M=beL 8 g ++ beL 4 b.length:=⟨_,rfl⟩;have hMl:M.length=12:=by rw[hM,List.length_append,bA,bA]
 have hb0:Blk ((w.alloc (.cells (List.replicate 44 (Value.int .u8 0)).toArray 187 (0,0))).alloc (.cells (List.replicate 44 (Value.int .u8 0)).toArray 187 (0,0))) (w.heap.size+1) (hRow M 0) 187:=by
  rw[YP];have:=Blk.new (w:=w.alloc (.cells (List.replicate 44 (Value.int .u8 0)).toArray 187 (0,0))) (cs:=List.replicate 44 (Value.int .u8 0)) (E:=187);rw[aF] at this;exact this
 have hr0:Blk ((w.alloc (.cells (List.replicate 44 (Value.int .u8 0)).toArray 187 (0,0))).alloc (.cells (List.replicate 44 (Value.int .u8 0)).toArray 187 (0,0))) w.heap.size (List.replicate 44 (.int .u8 0)) 187:=Blk.new.alloc _;have hu0:Upd (fun _=>False) w ((w.alloc (.cells (List.replicate 44 (Value.int .u8 0)).toArray 187 (0,0))).alloc (.cells (List.replicate 44 (Value.int .u8 0)).toArray 187 (0,0))):=Upd.alloc.alloc';generalize ((w.alloc (.cells (List.replicate 44 (Value.int .u8 0)).toArray 187 (0,0))).alloc (.cells (List.replicate 44 (Value.int .u8 0)).toArray 187 (0,0)))=w1 at *;refine aE (I:=fun k st w'=>Bx (∃t,k+t=8∧st = [.int .i64 ((t:Nat):Int)]∧Blk w' (w.heap.size+1) (hRow M t) 187∧Upd (fun x=>x=w.heap.size+1) w1 w') ⟨⟩) ?_ 8
  ⟨0,by omega,rfl,hb0,Upd.refl⟩
 clear hb0;rintro k st w2 ⟨t,hk,rfl,hb2,hu2⟩;have hu02:Upd (fun _=>False) w w2:=hu0.trans hu2 fun x hx e=>by omega
 by_cases hk0:k=0
 ·obtain rfl:t=8:=by omega
  simp(config:={maxSteps:=3000000}) (disch:=omega) only[push_cast,Nat.reduceBEq,Nat.reduceEqDiff,Nat.reduceAdd,Nat.reduceMul,Nat.reduceSub,Nat.reduceLT,Int.reduceToNat,Int.reduceLT,Int.reduceLE,Int.reduceEq,Int.reduceAdd,Int.reduceSub,Int.reduceNeg,Int.reduceMul];refine aE (I:=fun k st w'=>Bx (∃t,k+t=4∧st = [.int .i64 ((t:Nat):Int)]∧Blk w' (w.heap.size+1) (hRow M (8+t)) 187∧Upd (fun x=>x=w.heap.size+1) w1 w') ⟨⟩) ?_ 4
   ⟨0,by omega,rfl,hb2,hu2⟩
  clear hb2 hu2 hu02;rintro k st w3 ⟨t,hk,rfl,hb3,hu3⟩;have hu03:Upd (fun _=>False) w w3:=hu0.trans hu3 fun x hx e=>by omega
  by_cases hk0:k=0
  ·obtain rfl:t=4:=by omega
   have hL : ∀w':World,slcS Tryz.prog 187 (.pointer (some ⟨w.heap.size+1,0,none⟩)) (some (.int .i64 12)) none w'=some (.slice (some ⟨w.heap.size+1,12,none⟩) 32 32,w'):=fun w'=>YK (w:=w') (b:=w.heap.size+1) (o:=0) (k:=.i64) (j:=12) iD bE (by omega) (by omega);have hH : ∀w':World,slcS Tryz.prog 187 (.pointer (some ⟨w.heap.size+1,0,none⟩)) none (some (.int .i64 12)) w'=some (.slice (some ⟨w.heap.size+1,0,none⟩) 12 44,w'):=fun w'=>YJ (w:=w') (b:=w.heap.size+1) (o:=0) (k:=.i64) (j:=12) iD bE (by omega) (by omega);have hM12:hRow M (8+4)=by8 (M ++ List.replicate 32 0):=by rw[hRow,List.take_of_length_le (by omega)]
   rw[hM12] at hb3;have hblt:=hb3.lt;simp(config:={maxSteps:=3000000}) (disch:=omega) only[push_cast,Nat.reduceBEq,Nat.reduceEqDiff,Nat.reduceAdd,Nat.reduceMul,Nat.reduceSub,Nat.reduceLT,Int.reduceToNat,Int.reduceLT,Int.reduceLE,Int.reduceEq,Int.reduceAdd,Int.reduceSub,Int.reduceNeg,Int.reduceMul,hL,hH];have h4:=(Fr.empty (w:=w3)).quiet (Upd.drew (F:=fun _=>False));have hu34:Upd (fun _=>False) w3 (w3.alloc (.cells #[] 5 (0,0))).drew:=(Upd.alloc (F:=fun _=>False)).drew';generalize (w3.alloc (.cells #[] 5 (0,0))).drew=w4 at *;have hb4:=hb3.upd hu34 fun h=>h;have hsrc:SlB w4 (fun _=>False) (.slice (some ⟨w.heap.size+1,0,none⟩) 12 44) M:=by
    have h1:=mI hb4 (c:=44) (F:=fun _=>False) fun h=>h;have h2:=fW h1 (n:=12) (by rw[List.length_append]; omega) (by rw[List.length_append,List.length_replicate]; omega);rw[List.take_left' hMl] at h2;exact h2.1
   refine h4.app hsrc (by rw[List.length_nil]; omega) ?_;intro v5 w5 h5 hu5;rw[List.nil_append] at h5;obtain⟨va5,vc5,rfl,hc5⟩:=h5.own.form;have hb5:=hb3.upd h5.upd fun h=>h;simp(config:={maxSteps:=3000000}) (disch:=omega) only[push_cast,Nat.reduceBEq,Nat.reduceEqDiff,Nat.reduceAdd,Nat.reduceMul,Nat.reduceSub,Nat.reduceLT,Int.reduceToNat,Int.reduceLT,Int.reduceLE,Int.reduceEq,Int.reduceAdd,Int.reduceSub,Int.reduceNeg,Int.reduceMul,hL,hH];have hu05:Upd (fun _=>False) w w5:=hu03.trans h5.upd fun _ _ h=>h;refine h5.app (hy.1.upd hu05 fun _ h=>h.elim) (by omega) ?_;intro v6 w6 h6 hu6;obtain⟨va6,vc6,rfl,hc6⟩:=h6.own.form;have hu06:Upd (fun _=>False) w w6:=hu03.trans h6.upd fun _ _ h=>h;have hb6:=hb3.upd h6.upd fun h=>h;obtain⟨MB,hMB⟩ : ∃MB,MB=M ++ b:=⟨_,rfl⟩;rw[←hMB] at h6 ⊢;have hMBl:MB.length≤900000000:=by rw[hMB,List.length_append]; omega
   simp(config:={maxSteps:=3000000}) (disch:=omega) only[push_cast,Nat.reduceBEq,Nat.reduceEqDiff,Nat.reduceAdd,Nat.reduceMul,Nat.reduceSub,Nat.reduceLT,Int.reduceToNat,Int.reduceLT,Int.reduceLE,Int.reduceEq,Int.reduceAdd,Int.reduceSub,Int.reduceNeg,Int.reduceMul,hL,hH];refine Ok.use (YE (hK.upd hu06 fun h=>h) h6.slc hMBl) ?_;rintro v w7 ⟨rfl,hu7⟩;have hb7:=hb6.upd hu7 fun h=>h;have hcpy:=YL (P:=Tryz.prog) (t:=55) (t2:=9) (ty:=3) (s:=strOfNums (sumP MB)) (dl:=32) (dc:=32) bX bE hb7 (o:=12) (by rw[bS,gK]; omega) (by rw[bS,gK,aL,List.length_append,List.length_replicate]; omega);have erow:(by8 (M ++ List.replicate 32 0)).take 12 ++ by8 (strL (strOfNums (sumP MB))) ++ (by8 (M ++ List.replicate 32 0)).drop (12+(strOfNums (sumP MB)).size)=by8 (headP b g):=by
    rw[YG tL,bS,gK,bY,List.take_left' (by rw[aL,hMl]),List.drop_of_length_le (by rw[List.length_append,aL,aL,List.length_replicate]; omega),List.append_nil,←bY,hMB,hM];rfl
   rw[erow] at hcpy;have hss:((strOfNums (sumP MB)).size:Int)=32:=by rw[bS,gK]; rfl
   rw[hss] at hcpy;generalize strOfNums (sumP MB)=str at *;have hgo:=hb7.setRow (cs':=by8 (headP b g));have hup:=(hu7.mono (G:=fun x=>x=w.heap.size+1) fun _ _ h=>h.elim).trans (Upd.setRow (w:=w7) (g:=w.heap.size+1) (cs:=(by8 (headP b g)).toArray) (F:=fun x=>x=w.heap.size+1) rfl) fun x _ h=>h;generalize w7.setRow (w.heap.size+1) (by8 (headP b g)).toArray=w8 at *;have hr8:=((hr0.upd hu3 fun e=>by omega).upd (h6.upd.mono (G:=fun x=>x=w.heap.size+1) fun _ _ h=>h.elim) fun e=>by omega).upd hup fun e=>by omega
   have h44:(by8 (headP b g)).length=44:=by rw[aL,mH]
   have hld1:=aI (t:=187) hgo kH (by rw[h44]; exact fO);have hst:=aO (t:=187) (cs':=by8 (headP b g)) hr8 (by rw[h44]; exact fO) (by rw[h44,List.length_replicate]) cU;have hld2:=aI (t:=187) (hr8.setRow (cs':=by8 (headP b g))) kH (by rw[h44]; exact fO);have hfin:Upd (fun _=>False) w (w8.setRow w.heap.size (by8 (headP b g)).toArray):=((hu03.trans h6.upd fun _ _ h=>h).trans hup fun x hx e=>by omega).trans (Upd.setRow (F:=fun x=>x=w.heap.size) rfl) fun x hx e=>by omega
   simp(config:={maxSteps:=3000000}) (disch:=omega) only[push_cast,Nat.reduceBEq,Nat.reduceEqDiff,Nat.reduceAdd,Nat.reduceMul,Nat.reduceSub,Nat.reduceLT,Int.reduceToNat,Int.reduceLT,Int.reduceLE,Int.reduceEq,Int.reduceAdd,Int.reduceSub,Int.reduceNeg,Int.reduceMul,hL,hH,hcpy,hld1,hst,hld2];exact hfin
  have hle:(t:Int)<4:=by omega
  have hx:M[8+t]? =some (((b.length/256 ^ (3-t))%256:Nat):Int):=by rw[hM,List.getElem?_append_right (by rw[bA]; omega),bA,show 8+t-8=t by omega,tQ (by omega),show 4-1-t=3-t by omega]
  have hat:=tS (m:=M) (t:=8+t) (by omega) (by omega);have hset:=tT (t:=8+t) (by omega) hx;have esh:=tR (n:=b.length) (k:=3-t) (by omega);obtain⟨Q,hQ⟩ : ∃Q,Q=8*(3-t):=⟨_,rfl⟩;obtain⟨q,hq⟩ : ∃q,q=3-t:=⟨_,rfl⟩;rw[←hQ,←hq] at esh;rw[←hq] at hset;generalize b.length/256 ^ q%256=x at *;have et:((24:Int)-8*(t:Int)).toNat=Q:=by omega
  obtain⟨j,hj⟩ : ∃j,j=8+t:=⟨_,rfl⟩;have ej:(8:Int)+(t:Int)=(j:Int):=by omega
  rw[←hj] at hb3 hat hset;have hj44:(j:Int)<44:=by omega
  simp(config:={maxSteps:=3000000}) (disch:=omega) only[push_cast,Nat.reduceBEq,Nat.reduceEqDiff,Nat.reduceAdd,Nat.reduceMul,Nat.reduceSub,Nat.reduceLT,Int.reduceToNat,Int.reduceLT,Int.reduceLE,Int.reduceEq,Int.reduceAdd,Int.reduceSub,Int.reduceNeg,Int.reduceMul,hle,hb3.cell,hb3.free,hat,et,esh,ej];exact⟨k-1,by omega,t+1,by omega,by simp,by rw[show 8+(t+1)=j+1 by omega,←hset]; exact hb3.set j _,hu3.setIn rfl⟩
 have hle:(t:Int)<8:=by omega
 have hx:M[t]? =some (((g/256 ^ (7-t))%256:Nat):Int):=by rw[hM,List.getElem?_append_left (by rw[bA]; omega),tQ (by omega),show 8-1-t=7-t by omega]
 have hat:=tS (m:=M) (t:=t) (by omega) (by omega);have hset:=tT (t:=t) (by omega) hx;have esh:=tR (n:=g) (k:=7-t) (by omega);obtain⟨Q,hQ⟩ : ∃Q,Q=8*(7-t):=⟨_,rfl⟩;obtain⟨q,hq⟩ : ∃q,q=7-t:=⟨_,rfl⟩;rw[←hQ,←hq] at esh;rw[←hq] at hset;generalize g/256 ^ q%256=x at *;have et:((56:Int)-8*(t:Int)).toNat=Q:=by omega
 simp(config:={maxSteps:=3000000}) (disch:=omega) only[push_cast,Nat.reduceBEq,Nat.reduceEqDiff,Nat.reduceAdd,Nat.reduceMul,Nat.reduceSub,Nat.reduceLT,Int.reduceToNat,Int.reduceLT,Int.reduceLE,Int.reduceEq,Int.reduceAdd,Int.reduceSub,Int.reduceNeg,Int.reduceMul,hle,hb2.cell,hb2.free,hat,et,esh];exact⟨k-1,by omega,t+1,by omega,by simp,by rw[←hset]; exact hb2.set t _,hu2.setIn rfl⟩
open Go
set_option maxRecDepth 100000
theorem tU {s:Nat}{l:List Int}(h:Rng l):Rng (pad s l):=h.append Rng.zeros
def hdrP (size:Nat)(b:List Int)(g:Nat):List Int:=pad size (headP b g)
theorem cT {size:Nat}{b:List Int}{g:Nat}(h:44≤size):(hdrP size b g).length=size:=fU (by rw [mH]; exact h)
theorem tV {size:Nat}{b:List Int}{g:Nat}:Rng (hdrP size b g):=tU YM
structure CS where
 first:Nat
 n:Nat
 slot:Nat
 newest:List Int
 gen:Nat
 down:Bool
def CO (w:World)(F:Nat→Prop)(p cb:Nat)(c:CS):Prop:=∃nv,Blk w cb [.pointer (some ⟨p,0,none⟩),.int .i64 c.first,.int .i64 c.n,.int .i64 c.slot,nv,.int .i64 c.gen,.bool c.down] 100∧SlC w F nv c.newest∧Rng c.newest
structure CW (w : World) (D J : Nat → Prop) (p cb : Nat) (s : DS × CS) : Prop where
 disk:IsDisk w D p s.1
 obj:CO w (FF D J) p cb s.2
 jj:J cb
 sep : ∀b,J b→¬D b∧b<w.heap.size
 kt:KT w
 k0 : ¬D 1∧¬J 1
theorem CW.cb0 {w:World}{D J:Nat→Prop}{p cb:Nat}{s:DS×CS}(h:CW w D J p cb s):cb≠1:=fun e=>h.k0.2 (by rw [←e]; exact h.jj)
theorem CW.quiet {w w':World}{D J:Nat→Prop}{p cb:Nat}{s:DS×CS}(h:CW w D J p cb s)(hu:Upd (fun _=>False) w w'):CW w' D J p cb s:=by
 obtain⟨sv,h1,h2,h3⟩:=h.obj;exact⟨h.disk.upd hu (fun _ _ h=>h),⟨sv,h1.upd hu (fun h=>h),h2.upd hu (fun _ h=>h.elim),h3⟩,h.jj,fun b hb=>⟨(h.sep b hb).1,Nat.lt_of_lt_of_le (h.sep b hb).2 hu.size⟩,h.kt.upd hu (fun h=>h),h.k0⟩
theorem CW.disked {w w':World}{D D' J:Nat→Prop}{p cb:Nat}{s:DS×CS}{d':DS}(h:CW w D J p cb s)(hd:IsDisk w' D' p d')(ht:JT w w' D D' cb)(hu:Upd D w w'):CW w' D' J p cb (d',s.2):=by
 obtain⟨sv,h1,h2,h3⟩:=h.obj;have hD : ∀b,b<w.heap.size→D' b→D b:=fun b hb hb2=>(ht.new b hb2).elim (fun h=>h) fun h=>by omega
 refine⟨hd,⟨sv,h1.upd hu (h.sep cb h.jj).1,ht.slc h.jj h2,h3⟩,h.jj,fun b hb=>⟨fun hb2=>?_,Nat.lt_of_lt_of_le (h.sep b hb).2 hu.size⟩,h.kt.upd hu h.k0.1,fun h0=>h.k0.1 (hD 1 h.kt.1 h0),h.k0.2⟩;exact(h.sep b hb).1 (hD b (h.sep b hb).2 hb2)
theorem CW.set {w w':World}{D J:Nat→Prop}{p cb:Nat}{s:DS×CS}{c':CS}(h:CW w D J p cb s)(hu:Upd (fun b=>b=cb) w w')(ho:CO w' (FF D J) p cb c'):CW w' D J p cb (s.1,c')∧JT w w' D D cb:=by
 refine⟨⟨h.disk.upd hu fun b hb e=>(h.sep cb h.jj).1 (by rw[←e]; exact hb),ho,h.jj,fun b hb=>⟨(h.sep b hb).1,Nat.lt_of_lt_of_le (h.sep b hb).2 hu.size⟩,h.kt.upd hu (fun e=>h.cb0 e.symm),h.k0⟩,⟨fun b hb=>.inl hb,fun b hb=>hb,hu.mono fun b _ e=>.inr e⟩⟩
theorem CW.at_ {w:World}{D J:Nat→Prop}{p cb:Nat}{s:DS×CS}(h:CW w D J p cb s) : ∃sa sc,Blk w cb [.pointer (some ⟨p,0,none⟩),.int .i64 s.2.first,.int .i64 s.2.n,.int .i64 s.2.slot,.slice sa s.2.newest.length sc,.int .i64 s.2.gen,.bool s.2.down] 100∧SlC w (FF D J) (.slice sa s.2.newest.length sc) s.2.newest∧Rng s.2.newest:=by
 obtain⟨sv,h1,h2,h3⟩:=h.obj;obtain⟨sa,sc,rfl,hc⟩:=id h2.2;exact⟨sa,sc,h1,h2,h3⟩
theorem mJ {w:World}{D J:Nat→Prop}{p cb:Nat}{s:DS×CS}(h:CW w D J p cb s){x:Nat}(hx:x≤1)(h1:s.2.first≤100000)(h2:s.2.n≤100000) :
 Ok (den Tryz.prog 93 #[.pointer (some ⟨cb,0,none⟩),.int .i64 (x:Int)] w) fun v w'=>v = .int .i64 ((s.2.first+x*s.2.n:Nat):Int)∧Upd (fun _=>False) w w':=by
 obtain⟨sa,sc,hb,_⟩:=h.at_;refine aB (args:=[.pointer (some ⟨cb,0,none⟩),.int .i64 (x:Int)]) rs93 Tryz.func93 rfl mixed (by kernel_rfl) OC rfl ?_;have hx2:x=0∨x=1:=by omega
 rcases hx2 with rfl | rfl
 ·simp(maxSteps:=3000000)(disch:=omega)only[push_cast,seval,hb.cell];exact Upd.drew
 ·simp(maxSteps:=3000000)(disch:=omega)only[push_cast,seval,hb.cell];exact Upd.drew
theorem mK {w:World}{D J:Nat→Prop}{p cb:Nat}{s:DS×CS}(h:CW w D J p cb s)(h1:1≤s.2.n)(h2:s.2.n≤100000)(h3:s.1.size≤4096) :
 Ok (den Tryz.prog 94 #[.pointer (some ⟨cb,0,none⟩)] w) fun v w'=>v = .int .i64 (((s.2.n-1)*s.1.size:Nat):Int)∧Upd (fun _=>False) w w':=by
 obtain⟨sa,sc,hb,_⟩:=h.at_;obtain⟨m,hm⟩ : ∃m,m=s.2.n-1:=⟨_,rfl⟩;have em:(s.2.n:Int)-1=(m:Int):=by omega
 rw[←hm];have hb1:m*s.1.size≤100000*4096:=Nat.mul_le_mul (by omega) h3;obtain⟨q,hq⟩ : ∃q,q=m*s.1.size:=⟨_,rfl⟩;have eq:(m:Int)*(s.1.size:Int)=(q:Int):=by rw[hq,Int.natCast_mul]
 rw[←hq] at hb1 ⊢;refine aB (args:=[.pointer (some ⟨cb,0,none⟩)]) rs94 Tryz.func94 rfl mixed (by kernel_rfl) OD rfl ?_;have hbd:=hb.drew;have hud:Upd (fun _=>False) w w.drew:=Upd.drew;have hd:=(h.quiet hud).disk;simp(maxSteps:=3000000)(disch:=omega)only[push_cast,seval,hb.cell,em];generalize w.drew=w1 at *;refine Ok.use (bM hd) ?_;rintro u w2 ⟨rfl,rfl⟩;generalize s.1.size=z at *;simp(maxSteps:=3000000)(disch:=omega)only[push_cast,seval,hb.cell,hbd.cell,em,eq];exact hud
set_option maxHeartbeats 2000000 in
theorem mL {w:World}{D J:Nat→Prop}{p cb:Nat}{s:DS×CS}(h:CW w D J p cb s){F:Nat→Prop}{y:Value}{b:List Int}(hy:SlC w F y b)(hl:b.length≤800000000){g:Nat}(hg:g<2 ^ 63)(h3:44≤s.1.size)(h4:s.1.size≤4096) :
 Ok (den Tryz.prog 96 #[.pointer (some ⟨cb,0,none⟩),y,.int .i64 (g:Int)] w) fun v w'=>∃nb,v=CV nb (hdrP s.1.size b g)∧Blk w' nb (by8 (hdrP s.1.size b g)) 5∧w.heap.size≤nb∧Upd (fun _=>False) w w':=by
 obtain⟨sa,sc,hb,_⟩:=h.at_;obtain⟨ya,yc,rfl,hyc⟩:=id hy.2;refine aB (args:=[.pointer (some ⟨cb,0,none⟩),.slice ya b.length yc,.int .i64 (g:Int)]) rs96 Tryz.func96 rfl mixed (by kernel_rfl) OF rfl ?_;simp(config:={maxSteps:=3000000}) (disch:=omega) only[push_cast,Nat.reduceBEq,Nat.reduceEqDiff,Nat.reduceAdd,Nat.reduceMul,Nat.reduceSub,Nat.reduceLT,Int.reduceToNat,Int.reduceLT,Int.reduceLE,Int.reduceEq,Int.reduceAdd,Int.reduceSub,Int.reduceNeg,Int.reduceMul,hb.cell];refine Ok.use (bM h.disk) ?_;rintro u w1 ⟨rfl,rfl⟩;obtain⟨z,hz⟩ : ∃z,z=s.1.size:=⟨_,rfl⟩;rw[←hz] at h3 h4 ⊢;have hnew:Blk (w.alloc (.cells (List.replicate z (Value.int .u8 0)).toArray 5 (0,0))) w.heap.size (List.replicate z (Value.int .u8 0)) 5:=Blk.new;have hal:Upd (fun _=>False) w (w.alloc (.cells (List.replicate z (Value.int .u8 0)).toArray 5 (0,0))):=Upd.alloc;simp(config:={maxSteps:=3000000}) (disch:=omega) only[push_cast,Nat.reduceBEq,Nat.reduceEqDiff,Nat.reduceAdd,Nat.reduceMul,Nat.reduceSub,Nat.reduceLT,Int.reduceToNat,Int.reduceLT,Int.reduceLE,Int.reduceEq,Int.reduceAdd,Int.reduceSub,Int.reduceNeg,Int.reduceMul,hb.cell];have hw1:=h.quiet hal;have hy1:=hy.upd hal fun _ h=>h.elim;generalize (w.alloc (.cells (List.replicate z (Value.int .u8 0)).toArray 5 (0,0)))=w1 at *;refine Ok.use (YQ hw1.kt hy1 hl hg) ?_;rintro v w2 ⟨rfl,hu2⟩;have hnew2:=hnew.upd hu2 fun h=>h;have hz0:Blk (w2.alloc (.cells (List.replicate 44 (Value.int .u8 0)).toArray 187 (0,0))) w2.heap.size (List.replicate 44 (.int .u8 0)) 187:=Blk.new;have h44:(by8 (headP b g)).length=44:=by rw[aL,mH]
 have hst:=aO (t:=187) (cs':=by8 (headP b g)) hz0 (by rw[h44]; exact fO) (by rw[h44,List.length_replicate]) cU;have hset:=hz0.setRow (cs':=by8 (headP b g));have hu3:Upd (fun _=>False) w2 ((w2.alloc (.cells (List.replicate 44 (Value.int .u8 0)).toArray 187 (0,0))).setRow w2.heap.size (by8 (headP b g)).toArray):=Upd.alloc.trans (Upd.setRow (F:=fun x=>x=w2.heap.size) rfl) fun x hx e=>by omega
 have hnew3:=hnew2.upd hu3 fun h=>h;simp(config:={maxSteps:=3000000}) (disch:=omega) only[push_cast,Nat.reduceBEq,Nat.reduceEqDiff,Nat.reduceAdd,Nat.reduceMul,Nat.reduceSub,Nat.reduceLT,Int.reduceToNat,Int.reduceLT,Int.reduceLE,Int.reduceEq,Int.reduceAdd,Int.reduceSub,Int.reduceNeg,Int.reduceMul,hst];have hA : ∀w':World,slcS Tryz.prog 187 (.pointer (some ⟨w2.heap.size,0,none⟩)) none none w'=some (.slice (some ⟨w2.heap.size,0,none⟩) 44 44,w'):=fun w'=>YI (w:=w') (b:=w2.heap.size) (o:=0) iD bE;generalize ((w2.alloc (.cells (List.replicate 44 (Value.int .u8 0)).toArray 187 (0,0))).setRow w2.heap.size (by8 (headP b g)).toArray)=w3 at *;have hcp:=iC (P:=Tryz.prog) (t2:=55) (ty:=3) bX bE hnew3 (o:=0) (dl:=z) (dc:=z) (b:=w2.heap.size) (so:=0) (sl:=44) (sc:=44) (cs:=by8 (headP b g)) (by rw[h44]; omega) (fun j hj=>by have:=hset.cell j; simpa using this) (by rw[h44,List.length_replicate]; omega) cU;have e:(List.replicate z (Value.int IntKind.u8 0)).take 0 ++ by8 (headP b g) ++ (List.replicate z (Value.int IntKind.u8 0)).drop (0+(by8 (headP b g)).length)=by8 (hdrP z b g):=by
  rw[List.take_zero,List.nil_append,List.drop_replicate,aL,Nat.zero_add,hdrP,pad,bY];simp[by8]
 rw[e] at hcp;have hfin:=hnew3.setRow (cs':=by8 (hdrP z b g));have hu4:Upd (fun _=>False) w (w3.setRow w.heap.size (by8 (hdrP z b g)).toArray):=(((hal.trans hu2 fun _ _ h=>h).trans hu3 fun _ _ h=>h).trans (Upd.setRow (F:=fun x=>x=w.heap.size) rfl) fun x hx e=>by omega);have hlen:(hdrP z b g).length=z:=cT h3;simp(config:={maxSteps:=3000000}) (disch:=omega) only[push_cast,Nat.reduceBEq,Nat.reduceEqDiff,Nat.reduceAdd,Nat.reduceMul,Nat.reduceSub,Nat.reduceLT,Int.reduceToNat,Int.reduceLT,Int.reduceLE,Int.reduceEq,Int.reduceAdd,Int.reduceSub,Int.reduceNeg,Int.reduceMul,hA,hcp];exact⟨w.heap.size,by rw[CV,hlen],hfin,Nat.le_refl _,hu4⟩
end Go.Proofs.YtpgigkceoolgeaaGreatDoor.Fd
