import Derived.Test.YtpgigkceoolgeaaGreatDoorV25
set_option linter.all false
namespace Go.Proofs.YtpgigkceoolgeaaGreatDoor.Fd
open Go
set_option maxRecDepth 100000
theorem XC {b:Bas}{x:Crt}(h:x∈b.steps):(encT x).length≤(encBs b).length:=by
 obtain⟨i,hi⟩:=List.getElem?_of_mem h;have:=bD (f:=encT) hi;rw[cO];omega
theorem XD {l:List Cmd}:l.length≤(encL l).length:=by
 have hge:l.length≤(l.flatMap fun c=>encB (encC c)).length:=a7 fun x=>by have:=aS (encC x).length; simp[encB]; omega
 rw[dC];omega
theorem XE {b:Bas}:b.steps.length≤(encBs b).length:=by
 have hge:b.steps.length≤(b.steps.flatMap encT).length:=a7 fun x=>by have:=aS x.acks.length; rw[dD]; omega
 rw[cO];omega
open Go
set_option maxRecDepth 100000
theorem dI (x:BitVec 32):BitVec.ofInt IntKind.u32.bits (x.toNat:Int)=x:=by
 show BitVec.ofInt 32 (x.toNat:Int)=x;rw[BitVec.ofInt_natCast,BitVec.ofNat_toNat,BitVec.setWidth_eq]
theorem jG (x:BitVec 32):IntKind.u32.wrap (x.toNat:Int)=(x.toNat:Int):=by
 have h1:=x.isLt;rw[IntKind.wrap_u32];omega
theorem XF {x y:BitVec 32}:IntKind.u32.wrap ((BitVec.ofInt IntKind.u32.bits (x.toNat:Int) ||| BitVec.ofInt IntKind.u32.bits (y.toNat:Int)).toNat:Int)=((x ||| y).toNat:Int):=by
 rw[dI,dI]; exact jG (x ||| y)
theorem XG {x y:BitVec 32}:IntKind.u32.wrap ((BitVec.ofInt IntKind.u32.bits (x.toNat:Int) &&& BitVec.ofInt IntKind.u32.bits (y.toNat:Int)).toNat:Int)=((x &&& y).toNat:Int):=by
 rw[dI,dI]; exact jG (x &&& y)
theorem XH {x y:BitVec 32}:IntKind.u32.wrap ((BitVec.ofInt IntKind.u32.bits (x.toNat:Int) ^^^ BitVec.ofInt IntKind.u32.bits (y.toNat:Int)).toNat:Int)=((x ^^^ y).toNat:Int):=by
 rw[dI,dI]; exact jG (x ^^^ y)
theorem XI {x y:BitVec 32}:IntKind.u32.wrap ((x.toNat:Int)+(y.toNat:Int))=((x+y).toNat:Int):=by
 rw[IntKind.wrap_u32,BitVec.toNat_add];have h1:=x.isLt;have h2:=y.isLt;omega
theorem XJ {x:BitVec 32}{n:Nat}(h:n≤32):(x.toNat:Int).fdiv (2 ^ (min n IntKind.u32.bits))=((x >>> n).toNat:Int):=by
 rw[show min n IntKind.u32.bits=n from Nat.min_eq_left h,BitVec.toNat_ushiftRight,Nat.shiftRight_eq_div_pow];rw[Int.fdiv_eq_ediv_of_nonneg _ (Int.le_of_lt (Int.pow_pos (by decide))),Int.natCast_ediv,Int.natCast_pow];rfl
theorem XK {x:BitVec 32}{n:Nat}(h:n≤32):IntKind.u32.wrap ((x.toNat:Int)*2 ^ (min n IntKind.u32.bits))=((x <<< n).toNat:Int):=by
 rw[show min n IntKind.u32.bits=n from Nat.min_eq_left h,IntKind.wrap_u32,BitVec.toNat_shiftLeft,Nat.shiftLeft_eq,Int.natCast_emod,Int.natCast_mul,Int.natCast_pow];rfl
def rot (x:BitVec 32)(n:Nat):BitVec 32:=x >>> n ||| x <<< (32-n)
attribute [push_cast] XF XG XH XI XJ XK
theorem cB {x:BitVec 32}{n:Nat}{w:World}(hn:1≤n)(hn:n≤31):Ok (den Tryz.prog 192 #[.int .u32 (x.toNat:Int),.int .u64 (n:Int)] w) fun v w'=>v = .int .u32 ((rot x n).toNat:Int)∧w=w':=by
 refine aB (args:=[.int .u32 (x.toNat:Int),.int .u64 (n:Int)]) rs192 Tryz.func192 rfl mixed (by kernel_rfl) QF rfl ?_;have e:IntKind.u64.wrap (32-(n:Int))=((32-n:Nat):Int):=by rw[IntKind.wrap_u64]; omega
 obtain⟨m,hm⟩ : ∃m,m=32-n:=⟨_,rfl⟩;rw[←hm] at e;simp(maxSteps:=3000000)(disch:=omega)only[push_cast,seval,e];rw[hm];rfl
def kTab:List Nat:=[1116352408,1899447441,3049323471,3921009573,961987163,1508970993,2453635748,2870763221,3624381080,310598401,607225278,1426881987,1925078388,2162078206,2614888103,3248222580,3835390401,4022224774,264347078,604807628,770255983,1249150122,1555081692,1996064986,2554220882,2821834349,2952996808,3210313671,3336571891,3584528711,113926993,338241895,666307205,773529912,1294757372,1396182291,1695183700,1986661051,2177026350,2456956037,2730485921,2820302411,3259730800,3345764771,3516065817,3600352804,4094571909,275423344,430227734,506948616,659060556,883997877,958139571,1322822218,1537002063,1747873779,1955562222,2024104815,2227730452,2361852424,2428436474,2756734187,3204031479,3329325298]
def kV (t:Nat):BitVec 32:=BitVec.ofNat 32 (kTab.getD t 0)
def byW (B:List Int)(i:Nat):BitVec 32:=BitVec.ofInt 32 (B.getD i 0)
def w0 (B:List Int)(t:Nat):BitVec 32:=byW B (4*t) <<< 24 ||| byW B (4*t+1) <<< 16 ||| byW B (4*t+2) <<< 8 ||| byW B (4*t+3)
def sg0 (x:BitVec 32):BitVec 32:=rot x 7 ^^^ rot x 18 ^^^ x >>> 3
def sg1 (x:BitVec 32):BitVec 32:=rot x 17 ^^^ rot x 19 ^^^ x >>> 10
def wS (B:List Int)(t:Nat):BitVec 32:=
 if t<16 then w0 B t else sg1 (wS B (t-2))+wS B (t-7)+sg0 (wS B (t-15))+wS B (t-16)
termination_by t
structure H8 where
 a:BitVec 32
 b:BitVec 32
 c:BitVec 32
 d:BitVec 32
 e:BitVec 32
 f:BitVec 32
 g:BitVec 32
 h:BitVec 32
def rndT1 (k x:BitVec 32)(s:H8):BitVec 32:=s.h+(rot s.e 6 ^^^ rot s.e 11 ^^^ rot s.e 25)+((s.e &&& s.f) ^^^ (~~~ s.e &&& s.g))+k+x
def rndT2 (s:H8):BitVec 32:=(rot s.a 2 ^^^ rot s.a 13 ^^^ rot s.a 22)+((s.a &&& s.b) ^^^ (s.a &&& s.c) ^^^ (s.b &&& s.c))
def rnd (k x:BitVec 32)(s:H8):H8:=⟨rndT1 k x s+rndT2 s,s.a,s.b,s.c,s.d+rndT1 k x s,s.e,s.f,s.g⟩
def rds (B:List Int)(s:H8):Nat→H8
 | 0=>s
 | t+1=>rnd (kV t) (wS B t) (rds B s t)
def addH (s u:H8):H8:=⟨s.a+u.a,s.b+u.b,s.c+u.c,s.d+u.d,s.e+u.e,s.f+u.f,s.g+u.g,s.h+u.h⟩
def blkP (B:List Int)(s:H8):H8:=addH (rds B s 64) s
def vW (x:BitVec 32):Value:=.int .u32 (x.toNat:Int)
def H8.row (s:H8):List Value:=[vW s.a,vW s.b,vW s.c,vW s.d,vW s.e,vW s.f,vW s.g,vW s.h]
def H8.val (s:H8):Value:=.agg s.row.toArray
def wRow (B:List Int)(t:Nat):List Value:=(List.range 64).map fun i=>if i<t then vW (wS B i) else .int .u32 0
theorem XL {B:List Int}:wRow B 0=List.replicate 64 (.int .u32 0):=by
 refine List.eq_replicate_iff.2 ⟨by simp[wRow],fun x hx=>?_⟩;obtain⟨i,_,rfl⟩:=List.mem_map.1 hx;rw[if_neg (by omega)]
theorem gI {B:List Int}{t i:Nat}(h:i<t)(h2:i<64):(wRow B t)[i]? =some (vW (wS B i)):=by
 unfold wRow;simp[h,h2]
theorem tF {B:List Int}{t i:Nat}(h:t≤i)(h2:i<64):(wRow B t)[i]? =some (.int .u32 0):=by
 unfold wRow;simp[h2,Nat.not_lt.2 h]
theorem tG {B:List Int}{t:Nat}(h:t<64):(wRow B t).set t (vW (wS B t))=wRow B (t+1):=by
 apply List.ext_getElem?;intro i;unfold wRow;rw[List.getElem?_set];by_cases h1:t=i
 ·subst h1;simp[h]
 ·rw[if_neg h1];simp only[List.getElem?_map];by_cases h2:i<64
  ·rw[List.getElem?_range h2];simp only[Option.map_some,Option.some.injEq];by_cases h3:i<t
   ·rw[if_pos h3,if_pos (by omega)]
   ·rw[if_neg h3,if_neg (by omega)]
  ·rw[List.getElem?_eq_none (by simp; omega)];rfl
theorem XM {B:List Int}{t:Nat}(h:t<16):wS B t=w0 B t:=by rw [wS,if_pos h]
theorem XN {B:List Int}{t:Nat}(h:16≤t):wS B t=sg1 (wS B (t-2))+wS B (t-7)+sg0 (wS B (t-15))+wS B (t-16):=by rw [wS,if_neg (by omega)]
def set8 (w:World)(b:Nat)(s:H8):World:=(((((((w.setCell ⟨b,0,none⟩ (vW s.a)).setCell ⟨b,1,none⟩ (vW s.b)).setCell ⟨b,2,none⟩ (vW s.c)).setCell ⟨b,3,none⟩ (vW s.d)).setCell ⟨b,4,none⟩ (vW s.e)).setCell ⟨b,5,none⟩ (vW s.f)).setCell ⟨b,6,none⟩ (vW s.g)).setCell ⟨b,7,none⟩ (vW s.h)
theorem jH {w:World}{b:Nat}{s:H8}{E:TypeId}{cs:List Value}(hl:cs.length=8)(h:Blk w b cs E):Blk (set8 w b s) b s.row E:=by
 have h8:=(((((((h.set 0 (vW s.a)).set 1 (vW s.b)).set 2 (vW s.c)).set 3 (vW s.d)).set 4 (vW s.e)).set 5 (vW s.f)).set 6 (vW s.g)).set 7 (vW s.h);match cs,hl with
 | [_,_,_,_,_,_,_,_],_=>exact h8
theorem dJ {w:World}{b:Nat}{s:H8}:Upd (fun x=>x=b) w (set8 w b s):=by
 have s0:Upd (fun x=>x=b) w (w.setCell ⟨b,0,none⟩ (vW s.a)):=Upd.set rfl;have s1:=s0.setIn (a:=⟨b,1,none⟩) (v:=vW s.b) rfl;have s2:=s1.setIn (a:=⟨b,2,none⟩) (v:=vW s.c) rfl;have s3:=s2.setIn (a:=⟨b,3,none⟩) (v:=vW s.d) rfl;have s4:=s3.setIn (a:=⟨b,4,none⟩) (v:=vW s.e) rfl;have s5:=s4.setIn (a:=⟨b,5,none⟩) (v:=vW s.f) rfl;have s6:=s5.setIn (a:=⟨b,6,none⟩) (v:=vW s.g) rfl;have s7:=s6.setIn (a:=⟨b,7,none⟩) (v:=vW s.h) rfl;exact s7
theorem XO {w:World}{b:Nat}{s:H8}:(set8 w b s).heap.size=w.heap.size:=by
 unfold set8;simp only[aY]
def H8.get (s:H8):Nat→BitVec 32
 | 0=>s.a
 | 1=>s.b
 | 2=>s.c
 | 3=>s.d
 | 4=>s.e
 | 5=>s.f
 | 6=>s.g
 | _=>s.h
def addTo (r s:H8)(i:Nat):List Value:=(List.range 8).map fun j=>if j<i then vW (r.get j+s.get j) else vW (r.get j)
theorem XP {r s:H8}:addTo r s 0=r.row:=rfl
theorem XQ {r s:H8}:addTo r s 8=(addH r s).row:=rfl
theorem tH {s:H8}{i:Nat}(h:i<8):s.row[i]? =some (vW (s.get i)):=by
 match i,h with
 | 0,_=>rfl
 | 1,_=>rfl
 | 2,_=>rfl
 | 3,_=>rfl
 | 4,_=>rfl
 | 5,_=>rfl
 | 6,_=>rfl
 | 7,_=>rfl
theorem XR {r s:H8}{i:Nat}(h:i<8):(addTo r s i)[i]? =some (vW (r.get i)):=by
 unfold addTo;simp[h]
theorem XS {r s:H8}{i:Nat}(h:i<8):(addTo r s i).set i (vW (r.get i+s.get i))=addTo r s (i+1):=by
 match i,h with
 | 0,_=>rfl
 | 1,_=>rfl
 | 2,_=>rfl
 | 3,_=>rfl
 | 4,_=>rfl
 | 5,_=>rfl
 | 6,_=>rfl
 | 7,_=>rfl
theorem XT {P:Program}{w:World}{x:BitVec 32}:unS (P:=P) .xor (.int .u32 (x.toNat:Int)) w=some (.int .u32 ((~~~x).toNat:Int),w):=by
 have h2:BitVec.ofInt 32 4294967295=BitVec.allOnes 32:=by decide
 have e:IntKind.u32.wrap ((BitVec.ofInt IntKind.u32.bits IntKind.u32.max ^^^ BitVec.ofInt IntKind.u32.bits (x.toNat:Int)).toNat:Int)=((~~~x).toNat:Int):=by
  rw[dI];show IntKind.u32.wrap ((BitVec.ofInt 32 4294967295 ^^^ x).toNat:Int)=_;rw[h2,BitVec.allOnes_xor];exact jG (~~~x)
 have h:(Op.unary .xor (.int .u32 (x.toNat:Int))).run P w = .ok (.int .u32 (IntKind.u32.wrap ((BitVec.ofInt IntKind.u32.bits IntKind.u32.max ^^^ BitVec.ofInt IntKind.u32.bits (x.toNat:Int)).toNat:Int))) w:=rfl;unfold unS lift;rw[h,e]
theorem XU {k:IntKind}{n:Int}{w:World}:cnvS Tryz.prog 5 225 (.int k n) w=some (.int .u32 ((BitVec.ofInt 32 n).toNat:Int),w):=by
 have h:Tryz.prog.intKind 225 = .u32:=by kernel_rfl
 rw[bF (by kernel_rfl) (by kernel_rfl),h,IntKind.wrap_u32,BitVec.toNat_ofInt];congr 3;omega
attribute [push_cast] XU vW XT
open Go
set_option maxRecDepth 100000
def KT (w:World):Prop:=1<w.heap.size∧∀t,t<64→w.cell? ⟨1,t,none⟩=some (vW (kV t))
theorem KT.upd {w w':World}{F:Nat→Prop}(h:KT w)(hu:Upd F w w')(hF : ¬F 1):KT w':=by
 refine⟨Nat.lt_of_lt_of_le h.1 hu.size,fun t ht=>?_⟩;rw[←h.2 t ht];exact World.cell?_of_block (hu.block 1 h.1 hF)
theorem gJ {w:World}{b o:Nat}{B:List Int}(h:Lies w b o B){j:Nat}(hj:j<B.length):w.cell? ⟨b,o+j,none⟩=some (.int .u8 (B.getD j 0)):=by
 rw[h j (by rw[aL]; exact hj)];simp[by8,List.getD_eq_getElem?_getD,List.getElem?_eq_getElem hj]
theorem XV (a b c d e f g h:Int)(w:World):bldS Tryz.prog 228 #[(0,.int .u32 a),(1,.int .u32 b),(2,.int .u32 c),(3,.int .u32 d),(4,.int .u32 e),(5,.int .u32 f),(6,.int .u32 g),(7,.int .u32 h)] w =
 some (.agg #[.int .u32 a,.int .u32 b,.int .u32 c,.int .u32 d,.int .u32 e,.int .u32 f,.int .u32 g,.int .u32 h],w):=by kernel_rfl
attribute [push_cast] XV
set_option maxHeartbeats 4000000 in
theorem tI {w:World}(hK:KT w){s:H8}{F:Nat→Prop}{va:Option Addr}{vc:Nat}{B:List Int}(hl:B.length=64)(hB:SlB w F (.slice va B.length vc) B):Ok (den Tryz.prog 186 #[s.val,.slice va B.length vc] w) fun v w'=>v=(blkP B s).val∧Upd (fun _=>False) w w':=by
 obtain⟨a',c',hv,hli⟩:=hB;injection hv with e1 e2 e3;subst e1;obtain⟨gb,o,rfl,hli,_⟩:=hli (by intro e; rw[e] at hl; cases hl);rw[hl];obtain⟨a,b,c,d,e,f,g,h⟩:=s;refine cF (args:=[H8.val ⟨a,b,c,d,e,f,g,h⟩,.slice (some ⟨gb,o,none⟩) 64 vc]) 4 228 Tryz.func186 rfl mixed (by kernel_rfl) QE rfl ?_;unfold H8.val H8.row;simp(config:={maxSteps:=3000000}) (disch:=omega) only[push_cast,Nat.reduceBEq,Nat.reduceEqDiff,Nat.reduceAdd,Nat.reduceMul,Nat.reduceSub,Nat.reduceLT,Int.reduceToNat,Int.reduceLT,Int.reduceLE,Int.reduceEq,Int.reduceAdd,Int.reduceSub,Int.reduceNeg,Int.reduceMul];have hgb:=hli.lt (by omega);have hu0:Upd (fun _=>False) w (((w.alloc (.cells (H8.row ⟨a,b,c,d,e,f,g,h⟩).toArray 228 (0,0))).alloc (.cells [Value.int .u32 0,.int .u32 0,.int .u32 0,.int .u32 0,.int .u32 0,.int .u32 0,.int .u32 0,.int .u32 0].toArray 228 (0,0))).alloc (.cells (List.replicate 64 (Value.int .u32 0)).toArray 238 (0,0))):=Upd.alloc.alloc'.alloc';have hsz:(((w.alloc (.cells (H8.row ⟨a,b,c,d,e,f,g,h⟩).toArray 228 (0,0))).alloc (.cells [Value.int .u32 0,.int .u32 0,.int .u32 0,.int .u32 0,.int .u32 0,.int .u32 0,.int .u32 0,.int .u32 0].toArray 228 (0,0))).alloc (.cells (List.replicate 64 (Value.int .u32 0)).toArray 238 (0,0))).heap.size=w.heap.size+1+1+1:=by rw[aF,aF,aF]
 have hbs:Blk (((w.alloc (.cells (H8.row ⟨a,b,c,d,e,f,g,h⟩).toArray 228 (0,0))).alloc (.cells [Value.int .u32 0,.int .u32 0,.int .u32 0,.int .u32 0,.int .u32 0,.int .u32 0,.int .u32 0,.int .u32 0].toArray 228 (0,0))).alloc (.cells (List.replicate 64 (Value.int .u32 0)).toArray 238 (0,0))) w.heap.size (H8.row ⟨a,b,c,d,e,f,g,h⟩) 228:=(Blk.new.alloc _).alloc _;have hbr:Blk (((w.alloc (.cells (H8.row ⟨a,b,c,d,e,f,g,h⟩).toArray 228 (0,0))).alloc (.cells [Value.int .u32 0,.int .u32 0,.int .u32 0,.int .u32 0,.int .u32 0,.int .u32 0,.int .u32 0,.int .u32 0].toArray 228 (0,0))).alloc (.cells (List.replicate 64 (Value.int .u32 0)).toArray 238 (0,0))) (w.heap.size+1) [.int .u32 0,.int .u32 0,.int .u32 0,.int .u32 0,.int .u32 0,.int .u32 0,.int .u32 0,.int .u32 0] 228:=by
  have:=(Blk.new (w:=(w.alloc (.cells (H8.row ⟨a,b,c,d,e,f,g,h⟩).toArray 228 (0,0)))) (cs:=[.int .u32 0,.int .u32 0,.int .u32 0,.int .u32 0,.int .u32 0,.int .u32 0,.int .u32 0,.int .u32 0]) (E:=228)).alloc (.cells (List.replicate 64 (Value.int .u32 0)).toArray 238 (0,0));rw[aF] at this;exact this
 have hbw:Blk (((w.alloc (.cells (H8.row ⟨a,b,c,d,e,f,g,h⟩).toArray 228 (0,0))).alloc (.cells [Value.int .u32 0,.int .u32 0,.int .u32 0,.int .u32 0,.int .u32 0,.int .u32 0,.int .u32 0,.int .u32 0].toArray 228 (0,0))).alloc (.cells (List.replicate 64 (Value.int .u32 0)).toArray 238 (0,0))) (w.heap.size+1+1) (wRow B 0) 238:=by
  rw[XL];have:=Blk.new (w:=(w.alloc (.cells (H8.row ⟨a,b,c,d,e,f,g,h⟩).toArray 228 (0,0))).alloc (.cells [Value.int .u32 0,.int .u32 0,.int .u32 0,.int .u32 0,.int .u32 0,.int .u32 0,.int .u32 0,.int .u32 0].toArray 228 (0,0))) (cs:=List.replicate 64 (Value.int .u32 0)) (E:=238);rw[aF,aF] at this;exact this
 unfold H8.row vW at hu0 hsz hbs hbr hbw;dsimp only at hbs;generalize (((w.alloc (.cells [Value.int .u32 (a.toNat:Int),.int .u32 (b.toNat:Int),.int .u32 (c.toNat:Int),.int .u32 (d.toNat:Int),.int .u32 (e.toNat:Int),.int .u32 (f.toNat:Int),.int .u32 (g.toNat:Int),.int .u32 (h.toNat:Int)].toArray 228 (0,0))).alloc (.cells [Value.int .u32 0,.int .u32 0,.int .u32 0,.int .u32 0,.int .u32 0,.int .u32 0,.int .u32 0,.int .u32 0].toArray 228 (0,0))).alloc (.cells (List.replicate 64 (Value.int .u32 0)).toArray 238 (0,0)))=w1 at *;refine aE (I:=fun k st w'=>Bx (∃t,k+t=16∧st = [.int .i64 ((t:Nat):Int)]∧Blk w' (w.heap.size+1+1) (wRow B t) 238∧Upd (fun x=>x=w.heap.size+1+1) w1 w') ⟨⟩) ?_ 16
  ⟨0,by omega,rfl,hbw,Upd.refl⟩
 clear hbw;rintro k st w2 ⟨t,hk,rfl,hbw,hu2⟩;have hu02:Upd (fun _=>False) w w2:=hu0.trans hu2 fun x hx e=>by omega
 by_cases hk0:k=0
 ·obtain rfl:t=16:=by omega
  simp(config:={maxSteps:=3000000}) (disch:=omega) only[push_cast,Nat.reduceBEq,Nat.reduceEqDiff,Nat.reduceAdd,Nat.reduceMul,Nat.reduceSub,Nat.reduceLT,Int.reduceToNat,Int.reduceLT,Int.reduceLE,Int.reduceEq,Int.reduceAdd,Int.reduceSub,Int.reduceNeg,Int.reduceMul];refine aE (I:=fun k st w'=>Bx (∃t,k+t=64∧16≤t∧st = [.int .i64 ((t:Nat):Int)]∧Blk w' (w.heap.size+1+1) (wRow B t) 238∧Upd (fun x=>x=w.heap.size+1+1) w1 w') ⟨⟩) ?_ 48
   ⟨16,by omega,Nat.le_refl _,rfl,hbw,hu2⟩
  clear hbw hu2 hu02;rintro k st w2 ⟨t,hk,ht,rfl,hbw,hu2⟩;have hu02:Upd (fun _=>False) w w2:=hu0.trans hu2 fun x hx e=>by omega
  by_cases hk0:k=0
  ·obtain rfl:t=64:=by omega
   have hbs2:=hbs.upd hu2 (fun h=>by omega);have hbr2:=hbr.upd hu2 (fun h=>by omega);have hs12:=hu2.size;clear hbs hbr;simp(config:={maxSteps:=3000000}) (disch:=omega) only[push_cast,Nat.reduceBEq,Nat.reduceEqDiff,Nat.reduceAdd,Nat.reduceMul,Nat.reduceSub,Nat.reduceLT,Int.reduceToNat,Int.reduceLT,Int.reduceLE,Int.reduceEq,Int.reduceAdd,Int.reduceSub,Int.reduceNeg,Int.reduceMul,hbs2.cell];have hbu3:Blk (set8 (w2.alloc (.cells [Value.int .u32 0,.int .u32 0,.int .u32 0,.int .u32 0,.int .u32 0,.int .u32 0,.int .u32 0,.int .u32 0].toArray 228 (0,0))) w2.heap.size ⟨a,b,c,d,e,f,g,h⟩) w2.heap.size (H8.row ⟨a,b,c,d,e,f,g,h⟩) 228:=jH (cs:=[Value.int .u32 0,.int .u32 0,.int .u32 0,.int .u32 0,.int .u32 0,.int .u32 0,.int .u32 0,.int .u32 0]) rfl Blk.new;have hu23:Upd (fun _=>False) w2 (set8 (w2.alloc (.cells [Value.int .u32 0,.int .u32 0,.int .u32 0,.int .u32 0,.int .u32 0,.int .u32 0,.int .u32 0,.int .u32 0].toArray 228 (0,0))) w2.heap.size ⟨a,b,c,d,e,f,g,h⟩):=Upd.alloc.trans dJ fun x hx e=>by omega
   have hs3:(set8 (w2.alloc (.cells [Value.int .u32 0,.int .u32 0,.int .u32 0,.int .u32 0,.int .u32 0,.int .u32 0,.int .u32 0,.int .u32 0].toArray 228 (0,0))) w2.heap.size ⟨a,b,c,d,e,f,g,h⟩).heap.size=w2.heap.size+1:=by rw[XO,aF]
   unfold set8 vW at hbu3 hu23 hs3;dsimp only at hbu3 hu23 hs3;have hu03:=hu02.trans hu23 fun _ _ h=>h;have hbs3:=hbs2.upd hu23 fun h=>h;have hbr3:=hbr2.upd hu23 fun h=>h;have hbw3:=hbw.upd hu23 fun h=>h;generalize (((((((((w2.alloc (.cells [Value.int .u32 0,.int .u32 0,.int .u32 0,.int .u32 0,.int .u32 0,.int .u32 0,.int .u32 0,.int .u32 0].toArray 228 (0,0))).setCell ⟨w2.heap.size,0,none⟩ (.int .u32 (a.toNat:Int))).setCell ⟨w2.heap.size,1,none⟩ (.int .u32 (b.toNat:Int))).setCell ⟨w2.heap.size,2,none⟩ (.int .u32 (c.toNat:Int))).setCell ⟨w2.heap.size,3,none⟩ (.int .u32 (d.toNat:Int))).setCell ⟨w2.heap.size,4,none⟩ (.int .u32 (e.toNat:Int))).setCell ⟨w2.heap.size,5,none⟩ (.int .u32 (f.toNat:Int))).setCell ⟨w2.heap.size,6,none⟩ (.int .u32 (g.toNat:Int))).setCell ⟨w2.heap.size,7,none⟩ (.int .u32 (h.toNat:Int)))=w3 at *;obtain⟨u,hu⟩ : ∃u,u=w2.heap.size:=⟨_,rfl⟩;rw[←hu] at hbu3 ⊢;clear hu23 hbs2 hbr2 hbw;refine aE (I:=fun k st w'=>Bx (∃t,k+t=64∧st = [.int .i64 ((t:Nat):Int)]∧Blk w' u (rds B ⟨a,b,c,d,e,f,g,h⟩ t).row 228∧Upd (fun x=>x=u) w3 w') ⟨⟩) ?_ 64
    ⟨0,by omega,rfl,hbu3,Upd.refl⟩
   clear hbu3;rintro k st w4 ⟨t,hk,rfl,hbu,hu34⟩;have hu04:Upd (fun _=>False) w w4:=hu03.trans hu34 fun x hx e=>by omega
   have hbw4:=hbw3.upd hu34 fun h=>by omega
   by_cases hk0:k=0
   ·obtain rfl:t=64:=by omega
    simp(config:={maxSteps:=3000000}) (disch:=omega) only[push_cast,Nat.reduceBEq,Nat.reduceEqDiff,Nat.reduceAdd,Nat.reduceMul,Nat.reduceSub,Nat.reduceLT,Int.reduceToNat,Int.reduceLT,Int.reduceLE,Int.reduceEq,Int.reduceAdd,Int.reduceSub,Int.reduceNeg,Int.reduceMul];have hu:Upd (fun x=>x=u) w4 w4:=Upd.refl;have hblk:blkP B ⟨a,b,c,d,e,f,g,h⟩=addH (rds B ⟨a,b,c,d,e,f,g,h⟩ 64) ⟨a,b,c,d,e,f,g,h⟩:=rfl;rw[hblk];have hbs4:=hbs3.upd hu34 fun h=>by omega
    have hbr4:=hbr3.upd hu34 fun h=>by omega
    generalize rds B ⟨a,b,c,d,e,f,g,h⟩ 64=r at *;clear hblk hu34 hbw4;rw[←XP (s:=⟨a,b,c,d,e,f,g,h⟩)] at hbu;refine aE (I:=fun k st w'=>Bx (∃t,k+t=8∧st = [.int .i64 ((t:Nat):Int)]∧Blk w' u (addTo r ⟨a,b,c,d,e,f,g,h⟩ t) 228∧Upd (fun x=>x=u) w4 w') ⟨⟩) ?_ 8
     ⟨0,by omega,rfl,hbu,hu⟩
    clear hbu hu;rintro k st w5 ⟨t,hk,rfl,hbu,hu45⟩;have hbs5:=hbs4.upd hu45 fun h=>by omega
    have hbr5:=hbr4.upd hu45 fun h=>by omega
    have hu05:Upd (fun _=>False) w w5:=hu04.trans hu45 fun x hx e=>by omega
    by_cases hk0:k=0
    ·obtain rfl:t=8:=by omega
     rw[XQ] at hbu;generalize addH r ⟨a,b,c,d,e,f,g,h⟩=v at *;obtain⟨a',b',c',d',e',f',g',h'⟩:=v;unfold H8.row vW at hbu;dsimp only at hbu;simp(config:={maxSteps:=3000000}) (disch:=omega) only[push_cast,Nat.reduceBEq,Nat.reduceEqDiff,Nat.reduceAdd,Nat.reduceMul,Nat.reduceSub,Nat.reduceLT,Int.reduceToNat,Int.reduceLT,Int.reduceLE,Int.reduceEq,Int.reduceAdd,Int.reduceSub,Int.reduceNeg,Int.reduceMul,hbu.cell,hbr5.cell,hbr5.free];exact hu05.trans (dJ (s:=⟨a',b',c',d',e',f',g',h'⟩)) fun x hx e=>by omega
    have ht8:t<8:=by omega
    have htl:(t:Int)<8:=by omega
    have qs:=tH (s:=⟨a,b,c,d,e,f,g,h⟩) ht8;have qr:=XR (r:=r) (s:=⟨a,b,c,d,e,f,g,h⟩) ht8;have hset:=XS (r:=r) (s:=⟨a,b,c,d,e,f,g,h⟩) ht8;unfold vW at qr qs hset;unfold H8.row vW at qs;dsimp only at qs;generalize H8.get r t=x at *;generalize H8.get ⟨a,b,c,d,e,f,g,h⟩ t=y at *;simp(config:={maxSteps:=3000000}) (disch:=omega) only[push_cast,Nat.reduceBEq,Nat.reduceEqDiff,Nat.reduceAdd,Nat.reduceMul,Nat.reduceSub,Nat.reduceLT,Int.reduceToNat,Int.reduceLT,Int.reduceLE,Int.reduceEq,Int.reduceAdd,Int.reduceSub,Int.reduceNeg,Int.reduceMul,hbu.cell,hbu.free,hbs5.cell,qs,qr];exact⟨k-1,by omega,t+1,by omega,by simp,by rw[←hset]; exact(hbu.set t _).drew,(hu45.setIn rfl).drew'⟩
   have htl:(t:Int)<64:=by omega
   have qw:=gI (B:=B) (t:=64) (i:=t) (by omega) (by omega);have qk:=(hK.upd hu04 fun h=>h).2 t (by omega);rw[show rds B ⟨a,b,c,d,e,f,g,h⟩ t=rds B ⟨a,b,c,d,e,f,g,h⟩ t from rfl] at hbu;have hnext:rds B ⟨a,b,c,d,e,f,g,h⟩ (t+1)=rnd (kV t) (wS B t) (rds B ⟨a,b,c,d,e,f,g,h⟩ t):=rfl;generalize rds B ⟨a,b,c,d,e,f,g,h⟩ t=r at *;obtain⟨a',b',c',d',e',f',g',h'⟩:=r;unfold H8.row vW at hbu;dsimp only at hbu;unfold vW at qw qk;simp(config:={maxSteps:=3000000}) (disch:=omega) only[push_cast,Nat.reduceBEq,Nat.reduceEqDiff,Nat.reduceAdd,Nat.reduceMul,Nat.reduceSub,Nat.reduceLT,Int.reduceToNat,Int.reduceLT,Int.reduceLE,Int.reduceEq,Int.reduceAdd,Int.reduceSub,Int.reduceNeg,Int.reduceMul,hbu.cell,hbu.free,hbw4.cell,qw,qk];refine Ok.use (cB (n:=6) (by decide) (by decide)) ?_;rintro v _ ⟨rfl,rfl⟩;simp(config:={maxSteps:=3000000}) (disch:=omega) only[push_cast,Nat.reduceBEq,Nat.reduceEqDiff,Nat.reduceAdd,Nat.reduceMul,Nat.reduceSub,Nat.reduceLT,Int.reduceToNat,Int.reduceLT,Int.reduceLE,Int.reduceEq,Int.reduceAdd,Int.reduceSub,Int.reduceNeg,Int.reduceMul,hbu.cell,hbu.free,hbw4.cell,qw,qk];refine Ok.use (cB (n:=11) (by decide) (by decide)) ?_;rintro v _ ⟨rfl,rfl⟩;simp(config:={maxSteps:=3000000}) (disch:=omega) only[push_cast,Nat.reduceBEq,Nat.reduceEqDiff,Nat.reduceAdd,Nat.reduceMul,Nat.reduceSub,Nat.reduceLT,Int.reduceToNat,Int.reduceLT,Int.reduceLE,Int.reduceEq,Int.reduceAdd,Int.reduceSub,Int.reduceNeg,Int.reduceMul,hbu.cell,hbu.free,hbw4.cell,qw,qk];refine Ok.use (cB (n:=25) (by decide) (by decide)) ?_;rintro v _ ⟨rfl,rfl⟩;simp(config:={maxSteps:=3000000}) (disch:=omega) only[push_cast,Nat.reduceBEq,Nat.reduceEqDiff,Nat.reduceAdd,Nat.reduceMul,Nat.reduceSub,Nat.reduceLT,Int.reduceToNat,Int.reduceLT,Int.reduceLE,Int.reduceEq,Int.reduceAdd,Int.reduceSub,Int.reduceNeg,Int.reduceMul,hbu.cell,hbu.free,hbw4.cell,qw,qk];refine Ok.use (cB (n:=2) (by decide) (by decide)) ?_;rintro v _ ⟨rfl,rfl⟩;simp(config:={maxSteps:=3000000}) (disch:=omega) only[push_cast,Nat.reduceBEq,Nat.reduceEqDiff,Nat.reduceAdd,Nat.reduceMul,Nat.reduceSub,Nat.reduceLT,Int.reduceToNat,Int.reduceLT,Int.reduceLE,Int.reduceEq,Int.reduceAdd,Int.reduceSub,Int.reduceNeg,Int.reduceMul,hbu.cell,hbu.free,hbw4.cell,qw,qk];refine Ok.use (cB (n:=13) (by decide) (by decide)) ?_;rintro v _ ⟨rfl,rfl⟩;simp(config:={maxSteps:=3000000}) (disch:=omega) only[push_cast,Nat.reduceBEq,Nat.reduceEqDiff,Nat.reduceAdd,Nat.reduceMul,Nat.reduceSub,Nat.reduceLT,Int.reduceToNat,Int.reduceLT,Int.reduceLE,Int.reduceEq,Int.reduceAdd,Int.reduceSub,Int.reduceNeg,Int.reduceMul,hbu.cell,hbu.free,hbw4.cell,qw,qk];refine Ok.use (cB (n:=22) (by decide) (by decide)) ?_;rintro v _ ⟨rfl,rfl⟩;simp(config:={maxSteps:=3000000}) (disch:=omega) only[push_cast,Nat.reduceBEq,Nat.reduceEqDiff,Nat.reduceAdd,Nat.reduceMul,Nat.reduceSub,Nat.reduceLT,Int.reduceToNat,Int.reduceLT,Int.reduceLE,Int.reduceEq,Int.reduceAdd,Int.reduceSub,Int.reduceNeg,Int.reduceMul,hbu.cell,hbu.free,hbw4.cell,qw,qk];have hb:=(jH (s:=rnd (kV t) (wS B t) ⟨a',b',c',d',e',f',g',h'⟩) (cs:=[.int .u32 (a'.toNat:Int),.int .u32 (b'.toNat:Int),.int .u32 (c'.toNat:Int),.int .u32 (d'.toNat:Int),.int .u32 (e'.toNat:Int),.int .u32 (f'.toNat:Int),.int .u32 (g'.toNat:Int),.int .u32 (h'.toNat:Int)]) rfl hbu).drew.drew;have hup:=(hu34.trans (dJ (b:=u) (s:=rnd (kV t) (wS B t) ⟨a',b',c',d',e',f',g',h'⟩)) fun _ _ h=>h).drew'.drew';have hrow:(rnd (kV t) (wS B t) ⟨a',b',c',d',e',f',g',h'⟩).row=(rds B ⟨a,b,c,d,e,f,g,h⟩ (t+1)).row:=by rw[hnext]
   rw[hrow] at hb;clear hrow hnext;unfold set8 rnd rndT1 rndT2 vW at hb hup;dsimp only at hb hup;exact⟨k-1,by omega,t+1,by omega,by simp,hb,hup⟩
  obtain⟨T15,h15⟩ : ∃T,T=t-15:=⟨_,rfl⟩;obtain⟨T2,h2⟩ : ∃T,T=t-2:=⟨_,rfl⟩;obtain⟨T7,h7⟩ : ∃T,T=t-7:=⟨_,rfl⟩;obtain⟨T16,h16⟩ : ∃T,T=t-16:=⟨_,rfl⟩;have e15:(t:Int)-15=(T15:Int):=by omega
  have e2:(t:Int)-2=(T2:Int):=by omega
  have e7:(t:Int)-7=(T7:Int):=by omega
  have e16:(t:Int)-16=(T16:Int):=by omega
  have q15:=gI (B:=B) (t:=t) (i:=T15) (by omega) (by omega);have q2:=gI (B:=B) (t:=t) (i:=T2) (by omega) (by omega);have q7:=gI (B:=B) (t:=t) (i:=T7) (by omega) (by omega);have q16:=gI (B:=B) (t:=t) (i:=T16) (by omega) (by omega);have qw:=tF (B:=B) (t:=t) (i:=t) (Nat.le_refl _) (by omega);have htl:(t:Int)<64:=by omega
  simp(config:={maxSteps:=3000000}) (disch:=omega) only[push_cast,Nat.reduceBEq,Nat.reduceEqDiff,Nat.reduceAdd,Nat.reduceMul,Nat.reduceSub,Nat.reduceLT,Int.reduceToNat,Int.reduceLT,Int.reduceLE,Int.reduceEq,Int.reduceAdd,Int.reduceSub,Int.reduceNeg,Int.reduceMul,e15,e2,e7,e16,q15,q2,q7,q16,qw,hbw.cell,hbw.free];refine Ok.use (cB (n:=7) (by decide) (by decide)) ?_;rintro v _ ⟨rfl,rfl⟩;simp(config:={maxSteps:=3000000}) (disch:=omega) only[push_cast,Nat.reduceBEq,Nat.reduceEqDiff,Nat.reduceAdd,Nat.reduceMul,Nat.reduceSub,Nat.reduceLT,Int.reduceToNat,Int.reduceLT,Int.reduceLE,Int.reduceEq,Int.reduceAdd,Int.reduceSub,Int.reduceNeg,Int.reduceMul,e15,e2,e7,e16,q15,q2,q7,q16,qw,hbw.cell,hbw.free];refine Ok.use (cB (n:=18) (by decide) (by decide)) ?_;rintro v _ ⟨rfl,rfl⟩;simp(config:={maxSteps:=3000000}) (disch:=omega) only[push_cast,Nat.reduceBEq,Nat.reduceEqDiff,Nat.reduceAdd,Nat.reduceMul,Nat.reduceSub,Nat.reduceLT,Int.reduceToNat,Int.reduceLT,Int.reduceLE,Int.reduceEq,Int.reduceAdd,Int.reduceSub,Int.reduceNeg,Int.reduceMul,e15,e2,e7,e16,q15,q2,q7,q16,qw,hbw.cell,hbw.free];refine Ok.use (cB (n:=17) (by decide) (by decide)) ?_;rintro v _ ⟨rfl,rfl⟩;simp(config:={maxSteps:=3000000}) (disch:=omega) only[push_cast,Nat.reduceBEq,Nat.reduceEqDiff,Nat.reduceAdd,Nat.reduceMul,Nat.reduceSub,Nat.reduceLT,Int.reduceToNat,Int.reduceLT,Int.reduceLE,Int.reduceEq,Int.reduceAdd,Int.reduceSub,Int.reduceNeg,Int.reduceMul,e15,e2,e7,e16,q15,q2,q7,q16,qw,hbw.cell,hbw.free];refine Ok.use (cB (n:=19) (by decide) (by decide)) ?_;rintro v _ ⟨rfl,rfl⟩;simp(config:={maxSteps:=3000000}) (disch:=omega) only[push_cast,Nat.reduceBEq,Nat.reduceEqDiff,Nat.reduceAdd,Nat.reduceMul,Nat.reduceSub,Nat.reduceLT,Int.reduceToNat,Int.reduceLT,Int.reduceLE,Int.reduceEq,Int.reduceAdd,Int.reduceSub,Int.reduceNeg,Int.reduceMul,e15,e2,e7,e16,q15,q2,q7,q16,qw,hbw.cell,hbw.free];have hbw':=(hbw.set t (vW (wS B t))).drew.drew;rw[tG (by omega),XN ht] at hbw';unfold sg1 sg0 vW at hbw';rw[←h15,←h2,←h7,←h16] at hbw';exact⟨k-1,by omega,t+1,by omega,by omega,by simp,hbw',((hu2.setIn rfl).drew').drew'⟩
 have ht:t<16:=by omega
 obtain⟨T0,h0⟩ : ∃T,T=4*t:=⟨_,rfl⟩;obtain⟨T1,h1⟩ : ∃T,T=4*t+1:=⟨_,rfl⟩;obtain⟨T2,h2⟩ : ∃T,T=4*t+2:=⟨_,rfl⟩;obtain⟨T3,h3⟩ : ∃T,T=4*t+3:=⟨_,rfl⟩;have e0:4*(t:Int)=(T0:Int):=by omega
 have e1:(T0:Int)+1=(T1:Int):=by omega
 have e2:(T0:Int)+2=(T2:Int):=by omega
 have e3:(T0:Int)+3=(T3:Int):=by omega
 have q0:=gJ (hli.upd hu02 hgb fun h=>h) (j:=T0) (by omega);have q1:=gJ (hli.upd hu02 hgb fun h=>h) (j:=T1) (by omega);have q2:=gJ (hli.upd hu02 hgb fun h=>h) (j:=T2) (by omega);have q3:=gJ (hli.upd hu02 hgb fun h=>h) (j:=T3) (by omega);have qw:=tF (B:=B) (t:=t) (i:=t) (Nat.le_refl _) (by omega);simp(config:={maxSteps:=3000000}) (disch:=omega) only[push_cast,Nat.reduceBEq,Nat.reduceEqDiff,Nat.reduceAdd,Nat.reduceMul,Nat.reduceSub,Nat.reduceLT,Int.reduceToNat,Int.reduceLT,Int.reduceLE,Int.reduceEq,Int.reduceAdd,Int.reduceSub,Int.reduceNeg,Int.reduceMul,e0,e1,e2,e3,q0,q1,q2,q3,hbw.cell,hbw.free,qw];have hbw':=(hbw.set t (vW (wS B t))).drew;rw[tG (by omega),XM ht] at hbw';unfold w0 byW vW at hbw';rw[←h1,←h2,←h3,←h0] at hbw';exact⟨k-1,by omega,t+1,by omega,by simp,hbw',(hu2.setIn rfl).drew'⟩
open Go
set_option maxRecDepth 100000
open Go
set_option maxRecDepth 100000
open Go
set_option maxRecDepth 100000
def beL:Nat→Nat→List Int
 | 0,_=>[]
 | k+1,n=>(((n/256 ^ k)%256:Nat):Int) :: beL k n
theorem bA {n:Nat} : ∀{k:Nat},(beL k n).length=k
 | 0=>rfl
 | k+1=>by simp[beL,bA (k:=k)]
theorem jI {n:Nat} : ∀{k:Nat},Rng (beL k n)
 | 0=>fun x hx=>by cases hx
 | k+1=>fun x hx=>by
  rcases List.mem_cons.1 hx with h | h
  ·subst h; have:=Nat.mod_lt (n/256 ^ k) (show 0<256 by decide); omega
  ·exact jI x h
def zerosN (n:Nat):Nat:=(119-n%64)%64
def padP (b:List Int):List Int:=b ++ [128] ++ List.replicate (zerosN b.length) 0 ++ beL 8 (8*b.length)
theorem XW {b:List Int}:(padP b).length=b.length+1+zerosN b.length+8:=by simp [padP,bA]; omega
theorem tJ {m:Nat}:(m:Int).tmod 64=((m%64:Nat):Int):=by rw [show (64:Int)=((64:Nat):Int) from rfl,←Int.ofNat_tmod]
theorem XX {n k:Nat}(h:n<2 ^ 64)(hk:k<8):IntKind.u8.wrap ((n:Int).fdiv (2 ^ (min (8*k) IntKind.u64.bits)))=(((n/256 ^ k)%256:Nat):Int):=by
 rw[show min (8*k) IntKind.u64.bits=8*k from Nat.min_eq_left (by show _≤64; omega),Int.fdiv_eq_ediv_of_nonneg _ (Int.le_of_lt (Int.pow_pos (by decide)))];have e:(2:Int) ^ (8*k)=((256 ^ k:Nat):Int):=by rw[Int.pow_mul]; rfl
 rw[e,←Int.natCast_ediv,cY]
structure Fr (w0 w : World) (v : Value) (l : List Int) : Prop where
 own:Bow w v l
 new : ∀g,v.ownBlock=some g→w0.heap.size≤g
 upd:Upd (fun _=>False) w0 w
theorem Fr.quiet {w0 w w':World}{v:Value}{l:List Int}(h:Fr w0 w v l)(hu:Upd (fun _=>False) w w'):Fr w0 w' v l:=⟨h.own.upd hu (fun _ _ h=>h),h.new,h.upd.trans hu fun _ _ h=>h⟩
theorem Fr.over {w0 w w':World}{v:Value}{l:List Int}{G:Nat→Prop}(h:Fr w0 w v l)(hu:Upd G w w')(h1 : ∀g,v.ownBlock=some g→¬G g)(h2 : ∀b,G b→w0.heap.size≤b):Fr w0 w' v l:=
 ⟨h.own.upd hu h1,h.new,h.upd.trans hu fun b hb hg=>by have:=h2 b hg; omega⟩
theorem Fr.step {w0 w:World}{v:Value}{l m:List Int}(h:Fr w0 w v l){v':Value}{w':World}(h1:Bow w' v' (l ++ m))(h2:Upd (fun b=>v.ownBlock=some b) w w')(h3 : ∀g,v'.ownBlock=some g→v.ownBlock=some g∨(w.heap.size≤g∧g<w'.heap.size)):Fr w0 w' v' (l ++ m):=by
 have hs:=h.upd.size;refine⟨h1,fun g hg=>?_,h.upd.trans h2 fun b hb hg=>by have:=h.new b hg; omega⟩;rcases h3 g hg with h4 | h4
 ·exact h.new g h4
 ·omega
theorem Fr.app {w0 w:World}{v:Value}{l:List Int}(h:Fr w0 w v l){F:Nat→Prop}{y:Value}{m:List Int}(hy:SlB w F y m)(hlen:l.length+m.length≤1000000000){ty:TypeId}
 {K:Value×World→Prop} (hk : ∀v' w',Fr w0 w' v' (l ++ m)→Upd (fun b=>w0.heap.size≤b) w w'→K (v',w')) :
 Okk (appS Tryz.prog #[55,55] ty v y w) K:=
 bC h.own hy (by omega) fun v' w' h1 h2 h3=>hk v' w' (h.step h1 h2 h3) (h2.mono fun b _ hb=>h.new b hb)
theorem Fr.push {w0 w:World}{v:Value}{l:List Int}(h:Fr w0 w v l){x:Int}(hlen:l.length<1000000000){ty:TypeId}
 {K:Value×World→Prop} (hk : ∀v' w',Fr w0 w' v' (l ++ [x])→Upd (fun b=>w0.heap.size≤b) w w'→K (v',w')) :
 Okk (appS Tryz.prog #[55,55] ty v (.slice (some ⟨w.heap.size,0,none⟩) 1 1) (w.alloc (.cells [.int .u8 x].toArray 5 (0,0)))) K:=
 (h.quiet Upd.alloc).app (fS (F:=fun _=>False) fun h=>h) hlen fun v' w' h1 h2=>hk v' w' h1 ((Upd.alloc (F:=fun b=>w0.heap.size≤b)).trans h2 fun _ _ h=>h)
theorem Fr.nil {w:World}:Fr w w (.slice none 0 0) []:=⟨Bow.nil,by simp [Value.ownBlock],Upd.refl⟩
theorem Fr.empty {w:World}:Fr w (w.alloc (.cells #[] 5 (0,0))) (.slice (some ⟨w.heap.size,0,none⟩) 0 0) []:=
 ⟨Bow.empty (Blk.new (cs:=[])),fun g hg=>by have:=a6 hg; omega,Upd.alloc⟩
theorem Fr.slc {w0 w:World}{v:Value}{l:List Int}(h:Fr w0 w v l):SlC w (fun b=>b<w0.heap.size) v l:=h.own.slc fun g hg hb=>by have:=h.new g hg; omega
theorem Fr.old {w0 w:World}{v:Value}{l m:List Int}{F:Nat→Prop}{y:Value}(h:Fr w0 w v l)(hy:SlB w0 F y m):SlB w F y m:=hy.upd h.upd fun _ h=>h.elim
theorem XY {n t:Nat}(h:t<zerosN n):(n+1+t)%64≠56:=by unfold zerosN at h; omega
theorem XZ {n:Nat}:(n+1+zerosN n)%64=56:=by unfold zerosN; omega
theorem X0 {n k:Nat} : ∀{j:Nat},j<k→(beL k n).take (j+1)=(beL k n).take j ++ [(((n/256 ^ (k-1-j))%256:Nat):Int)]:=by
 induction k with
 | zero=>intro j h; omega
 | succ k ih=>
  intro j h;cases j with
  | zero=>simp[beL]
  | succ j=>
   have:=ih (j:=j) (by omega);rw[beL,List.take_succ_cons,List.take_succ_cons,this,show k+1-1-(j+1)=k-1-j by omega];rfl
end Go.Proofs.YtpgigkceoolgeaaGreatDoor.Fd
