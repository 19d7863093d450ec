import Derived.Test.YtpgigkceoolgeaaGreatDoorS025
set_option linter.all false
namespace Go.Proofs.YtpgigkceoolgeaaGreatDoor.Fd
open Go
set_option maxRecDepth 100000
def KT (w:World):Prop:=1<w.heap.size∧∀t,t<64→w.cell? ⟨1,t,none⟩=some (vW (kV t))
theorem KT.upd {w w':World}{F:Nat→Prop}(h:KT w)(hu:Upd F w w')(hF : ¬F 1):KT w':=by
 refine⟨Nat.lt_of_lt_of_le h.1 hu.size,fun t ht=>?_⟩;rw[←h.2 t ht];exact World.cell?_of_block (hu.block 1 h.1 hF)
theorem gV {w:World}{b o:Nat}{B:List Int}(h:Lies w b o B){j:Nat}(hj:j<B.length):w.cell? ⟨b,o+j,none⟩=some (.int .u8 (B.getD j 0)):=by
 rw[h j (by rw[aQ]; exact hj)];simp[by8,List.getD_eq_getElem?_getD,List.getElem?_eq_getElem hj]
theorem aAV (a b c d e f g h:Int)(w:World):bldS Tryz.prog 228 #[(0,.int .u32 a),(1,.int .u32 b),(2,.int .u32 c),(3,.int .u32 d),(4,.int .u32 e),(5,.int .u32 f),(6,.int .u32 g),(7,.int .u32 h)] w =
 some (.agg #[.int .u32 a,.int .u32 b,.int .u32 c,.int .u32 d,.int .u32 e,.int .u32 f,.int .u32 g,.int .u32 h],w):=by kernel_rfl
attribute [push_cast] aAV
set_option maxHeartbeats 4000000 in
theorem uQ {w:World}(hK:KT w){s:H8}{F:Nat→Prop}{va:Option Addr}{vc:Nat}{B:List Int}(hl:B.length=64)(hB:SlB w F (.slice va B.length vc) B):Ok (den Tryz.prog 186 #[s.val,.slice va B.length vc] w) fun v w'=>v=(blkP B s).val∧Upd (fun _=>False) w w':=by
 obtain⟨a',c',hv,hli⟩:=hB;injection hv with e1 e2 e3;subst e1;obtain⟨gb,o,rfl,hli,_⟩:=hli (by intro e; rw[e] at hl; cases hl);rw[hl];obtain⟨a,b,c,d,e,f,g,h⟩:=s;refine bZ (args:=[H8.val ⟨a,b,c,d,e,f,g,h⟩,.slice (some ⟨gb,o,none⟩) 64 vc]) 4 228 Tryz.func186 rfl mixed (by kernel_rfl) TG rfl ?_;unfold H8.val H8.row;simp(config:={maxSteps:=3000000}) (disch:=omega) only[push_cast,Nat.reduceBEq,Nat.reduceEqDiff,Nat.reduceAdd,Nat.reduceMul,Nat.reduceSub,Nat.reduceLT,Int.reduceToNat,Int.reduceLT,Int.reduceLE,Int.reduceEq,Int.reduceAdd,Int.reduceSub,Int.reduceNeg,Int.reduceMul];have hgb:=hli.lt (by omega);have hu0:Upd (fun _=>False) w (((w.alloc (.cells (H8.row ⟨a,b,c,d,e,f,g,h⟩).toArray 228 (0,0))).alloc (.cells [Value.int .u32 0,.int .u32 0,.int .u32 0,.int .u32 0,.int .u32 0,.int .u32 0,.int .u32 0,.int .u32 0].toArray 228 (0,0))).alloc (.cells (List.replicate 64 (Value.int .u32 0)).toArray 238 (0,0))):=Upd.alloc.alloc'.alloc';have hsz:(((w.alloc (.cells (H8.row ⟨a,b,c,d,e,f,g,h⟩).toArray 228 (0,0))).alloc (.cells [Value.int .u32 0,.int .u32 0,.int .u32 0,.int .u32 0,.int .u32 0,.int .u32 0,.int .u32 0,.int .u32 0].toArray 228 (0,0))).alloc (.cells (List.replicate 64 (Value.int .u32 0)).toArray 238 (0,0))).heap.size=w.heap.size+1+1+1:=by rw[aI,aI,aI]
 have hbs:Blk (((w.alloc (.cells (H8.row ⟨a,b,c,d,e,f,g,h⟩).toArray 228 (0,0))).alloc (.cells [Value.int .u32 0,.int .u32 0,.int .u32 0,.int .u32 0,.int .u32 0,.int .u32 0,.int .u32 0,.int .u32 0].toArray 228 (0,0))).alloc (.cells (List.replicate 64 (Value.int .u32 0)).toArray 238 (0,0))) w.heap.size (H8.row ⟨a,b,c,d,e,f,g,h⟩) 228:=(Blk.new.alloc _).alloc _;have hbr:Blk (((w.alloc (.cells (H8.row ⟨a,b,c,d,e,f,g,h⟩).toArray 228 (0,0))).alloc (.cells [Value.int .u32 0,.int .u32 0,.int .u32 0,.int .u32 0,.int .u32 0,.int .u32 0,.int .u32 0,.int .u32 0].toArray 228 (0,0))).alloc (.cells (List.replicate 64 (Value.int .u32 0)).toArray 238 (0,0))) (w.heap.size+1) [.int .u32 0,.int .u32 0,.int .u32 0,.int .u32 0,.int .u32 0,.int .u32 0,.int .u32 0,.int .u32 0] 228:=by
  have:=(Blk.new (w:=(w.alloc (.cells (H8.row ⟨a,b,c,d,e,f,g,h⟩).toArray 228 (0,0)))) (cs:=[.int .u32 0,.int .u32 0,.int .u32 0,.int .u32 0,.int .u32 0,.int .u32 0,.int .u32 0,.int .u32 0]) (E:=228)).alloc (.cells (List.replicate 64 (Value.int .u32 0)).toArray 238 (0,0));rw[aI] at this;exact this
 have hbw:Blk (((w.alloc (.cells (H8.row ⟨a,b,c,d,e,f,g,h⟩).toArray 228 (0,0))).alloc (.cells [Value.int .u32 0,.int .u32 0,.int .u32 0,.int .u32 0,.int .u32 0,.int .u32 0,.int .u32 0,.int .u32 0].toArray 228 (0,0))).alloc (.cells (List.replicate 64 (Value.int .u32 0)).toArray 238 (0,0))) (w.heap.size+1+1) (wRow B 0) 238:=by
  rw[aAL];have:=Blk.new (w:=(w.alloc (.cells (H8.row ⟨a,b,c,d,e,f,g,h⟩).toArray 228 (0,0))).alloc (.cells [Value.int .u32 0,.int .u32 0,.int .u32 0,.int .u32 0,.int .u32 0,.int .u32 0,.int .u32 0,.int .u32 0].toArray 228 (0,0))) (cs:=List.replicate 64 (Value.int .u32 0)) (E:=238);rw[aI,aI] at this;exact this
 unfold H8.row vW at hu0 hsz hbs hbr hbw;dsimp only at hbs;generalize (((w.alloc (.cells [Value.int .u32 (a.toNat:Int),.int .u32 (b.toNat:Int),.int .u32 (c.toNat:Int),.int .u32 (d.toNat:Int),.int .u32 (e.toNat:Int),.int .u32 (f.toNat:Int),.int .u32 (g.toNat:Int),.int .u32 (h.toNat:Int)].toArray 228 (0,0))).alloc (.cells [Value.int .u32 0,.int .u32 0,.int .u32 0,.int .u32 0,.int .u32 0,.int .u32 0,.int .u32 0,.int .u32 0].toArray 228 (0,0))).alloc (.cells (List.replicate 64 (Value.int .u32 0)).toArray 238 (0,0)))=w1 at *;refine aG (I:=fun k st w'=>Bx (∃t,k+t=16∧st = [.int .i64 ((t:Nat):Int)]∧Blk w' (w.heap.size+1+1) (wRow B t) 238∧Upd (fun x=>x=w.heap.size+1+1) w1 w') ⟨⟩) ?_ 16
  ⟨0,by omega,rfl,hbw,Upd.refl⟩
 clear hbw;rintro k st w2 ⟨t,hk,rfl,hbw,hu2⟩;have hu02:Upd (fun _=>False) w w2:=hu0.trans hu2 fun x hx e=>by omega
 by_cases hk0:k=0
 ·obtain rfl:t=16:=by omega
  simp(config:={maxSteps:=3000000}) (disch:=omega) only[push_cast,Nat.reduceBEq,Nat.reduceEqDiff,Nat.reduceAdd,Nat.reduceMul,Nat.reduceSub,Nat.reduceLT,Int.reduceToNat,Int.reduceLT,Int.reduceLE,Int.reduceEq,Int.reduceAdd,Int.reduceSub,Int.reduceNeg,Int.reduceMul];refine aG (I:=fun k st w'=>Bx (∃t,k+t=64∧16≤t∧st = [.int .i64 ((t:Nat):Int)]∧Blk w' (w.heap.size+1+1) (wRow B t) 238∧Upd (fun x=>x=w.heap.size+1+1) w1 w') ⟨⟩) ?_ 48
   ⟨16,by omega,Nat.le_refl _,rfl,hbw,hu2⟩
  clear hbw hu2 hu02;rintro k st w2 ⟨t,hk,ht,rfl,hbw,hu2⟩;have hu02:Upd (fun _=>False) w w2:=hu0.trans hu2 fun x hx e=>by omega
  by_cases hk0:k=0
  ·obtain rfl:t=64:=by omega
   have hbs2:=hbs.upd hu2 (fun h=>by omega);have hbr2:=hbr.upd hu2 (fun h=>by omega);have hs12:=hu2.size;clear hbs hbr;simp(config:={maxSteps:=3000000}) (disch:=omega) only[push_cast,Nat.reduceBEq,Nat.reduceEqDiff,Nat.reduceAdd,Nat.reduceMul,Nat.reduceSub,Nat.reduceLT,Int.reduceToNat,Int.reduceLT,Int.reduceLE,Int.reduceEq,Int.reduceAdd,Int.reduceSub,Int.reduceNeg,Int.reduceMul,hbs2.cell];have hbu3:Blk (set8 (w2.alloc (.cells [Value.int .u32 0,.int .u32 0,.int .u32 0,.int .u32 0,.int .u32 0,.int .u32 0,.int .u32 0,.int .u32 0].toArray 228 (0,0))) w2.heap.size ⟨a,b,c,d,e,f,g,h⟩) w2.heap.size (H8.row ⟨a,b,c,d,e,f,g,h⟩) 228:=jS (cs:=[Value.int .u32 0,.int .u32 0,.int .u32 0,.int .u32 0,.int .u32 0,.int .u32 0,.int .u32 0,.int .u32 0]) rfl Blk.new;have hu23:Upd (fun _=>False) w2 (set8 (w2.alloc (.cells [Value.int .u32 0,.int .u32 0,.int .u32 0,.int .u32 0,.int .u32 0,.int .u32 0,.int .u32 0,.int .u32 0].toArray 228 (0,0))) w2.heap.size ⟨a,b,c,d,e,f,g,h⟩):=Upd.alloc.trans dP fun x hx e=>by omega
   have hs3:(set8 (w2.alloc (.cells [Value.int .u32 0,.int .u32 0,.int .u32 0,.int .u32 0,.int .u32 0,.int .u32 0,.int .u32 0,.int .u32 0].toArray 228 (0,0))) w2.heap.size ⟨a,b,c,d,e,f,g,h⟩).heap.size=w2.heap.size+1:=by rw[aAO,aI]
   unfold set8 vW at hbu3 hu23 hs3;dsimp only at hbu3 hu23 hs3;have hu03:=hu02.trans hu23 fun _ _ h=>h;have hbs3:=hbs2.upd hu23 fun h=>h;have hbr3:=hbr2.upd hu23 fun h=>h;have hbw3:=hbw.upd hu23 fun h=>h;generalize (((((((((w2.alloc (.cells [Value.int .u32 0,.int .u32 0,.int .u32 0,.int .u32 0,.int .u32 0,.int .u32 0,.int .u32 0,.int .u32 0].toArray 228 (0,0))).setCell ⟨w2.heap.size,0,none⟩ (.int .u32 (a.toNat:Int))).setCell ⟨w2.heap.size,1,none⟩ (.int .u32 (b.toNat:Int))).setCell ⟨w2.heap.size,2,none⟩ (.int .u32 (c.toNat:Int))).setCell ⟨w2.heap.size,3,none⟩ (.int .u32 (d.toNat:Int))).setCell ⟨w2.heap.size,4,none⟩ (.int .u32 (e.toNat:Int))).setCell ⟨w2.heap.size,5,none⟩ (.int .u32 (f.toNat:Int))).setCell ⟨w2.heap.size,6,none⟩ (.int .u32 (g.toNat:Int))).setCell ⟨w2.heap.size,7,none⟩ (.int .u32 (h.toNat:Int)))=w3 at *;obtain⟨u,hu⟩ : ∃u,u=w2.heap.size:=⟨_,rfl⟩;rw[←hu] at hbu3 ⊢;clear hu23 hbs2 hbr2 hbw;refine aG (I:=fun k st w'=>Bx (∃t,k+t=64∧st = [.int .i64 ((t:Nat):Int)]∧Blk w' u (rds B ⟨a,b,c,d,e,f,g,h⟩ t).row 228∧Upd (fun x=>x=u) w3 w') ⟨⟩) ?_ 64
    ⟨0,by omega,rfl,hbu3,Upd.refl⟩
   clear hbu3;rintro k st w4 ⟨t,hk,rfl,hbu,hu34⟩;have hu04:Upd (fun _=>False) w w4:=hu03.trans hu34 fun x hx e=>by omega
   have hbw4:=hbw3.upd hu34 fun h=>by omega
   by_cases hk0:k=0
   ·obtain rfl:t=64:=by omega
    simp(config:={maxSteps:=3000000}) (disch:=omega) only[push_cast,Nat.reduceBEq,Nat.reduceEqDiff,Nat.reduceAdd,Nat.reduceMul,Nat.reduceSub,Nat.reduceLT,Int.reduceToNat,Int.reduceLT,Int.reduceLE,Int.reduceEq,Int.reduceAdd,Int.reduceSub,Int.reduceNeg,Int.reduceMul];have hu:Upd (fun x=>x=u) w4 w4:=Upd.refl;have hblk:blkP B ⟨a,b,c,d,e,f,g,h⟩=addH (rds B ⟨a,b,c,d,e,f,g,h⟩ 64) ⟨a,b,c,d,e,f,g,h⟩:=rfl;rw[hblk];have hbs4:=hbs3.upd hu34 fun h=>by omega
    have hbr4:=hbr3.upd hu34 fun h=>by omega
    generalize rds B ⟨a,b,c,d,e,f,g,h⟩ 64=r at *;clear hblk hu34 hbw4;rw[←aAP (s:=⟨a,b,c,d,e,f,g,h⟩)] at hbu;refine aG (I:=fun k st w'=>Bx (∃t,k+t=8∧st = [.int .i64 ((t:Nat):Int)]∧Blk w' u (addTo r ⟨a,b,c,d,e,f,g,h⟩ t) 228∧Upd (fun x=>x=u) w4 w') ⟨⟩) ?_ 8
     ⟨0,by omega,rfl,hbu,hu⟩
    clear hbu hu;rintro k st w5 ⟨t,hk,rfl,hbu,hu45⟩;have hbs5:=hbs4.upd hu45 fun h=>by omega
    have hbr5:=hbr4.upd hu45 fun h=>by omega
    have hu05:Upd (fun _=>False) w w5:=hu04.trans hu45 fun x hx e=>by omega
    by_cases hk0:k=0
    ·obtain rfl:t=8:=by omega
     rw[aAQ] at hbu;generalize addH r ⟨a,b,c,d,e,f,g,h⟩=v at *;obtain⟨a',b',c',d',e',f',g',h'⟩:=v;unfold H8.row vW at hbu;dsimp only at hbu;simp(config:={maxSteps:=3000000}) (disch:=omega) only[push_cast,Nat.reduceBEq,Nat.reduceEqDiff,Nat.reduceAdd,Nat.reduceMul,Nat.reduceSub,Nat.reduceLT,Int.reduceToNat,Int.reduceLT,Int.reduceLE,Int.reduceEq,Int.reduceAdd,Int.reduceSub,Int.reduceNeg,Int.reduceMul,hbu.cell,hbr5.cell,hbr5.free];exact hu05.trans (dP (s:=⟨a',b',c',d',e',f',g',h'⟩)) fun x hx e=>by omega
    have ht8:t<8:=by omega
    have htl:(t:Int)<8:=by omega
    have qs:=uP (s:=⟨a,b,c,d,e,f,g,h⟩) ht8;have qr:=aAR (r:=r) (s:=⟨a,b,c,d,e,f,g,h⟩) ht8;have hset:=aAS (r:=r) (s:=⟨a,b,c,d,e,f,g,h⟩) ht8;unfold vW at qr qs hset;unfold H8.row vW at qs;dsimp only at qs;generalize H8.get r t=x at *;generalize H8.get ⟨a,b,c,d,e,f,g,h⟩ t=y at *;simp(config:={maxSteps:=3000000}) (disch:=omega) only[push_cast,Nat.reduceBEq,Nat.reduceEqDiff,Nat.reduceAdd,Nat.reduceMul,Nat.reduceSub,Nat.reduceLT,Int.reduceToNat,Int.reduceLT,Int.reduceLE,Int.reduceEq,Int.reduceAdd,Int.reduceSub,Int.reduceNeg,Int.reduceMul,hbu.cell,hbu.free,hbs5.cell,qs,qr];exact⟨k-1,by omega,t+1,by omega,by simp,by rw[←hset]; exact(hbu.set t _).drew,(hu45.setIn rfl).drew'⟩
   have htl:(t:Int)<64:=by omega
   have qw:=gU (B:=B) (t:=64) (i:=t) (by omega) (by omega);have qk:=(hK.upd hu04 fun h=>h).2 t (by omega);rw[show rds B ⟨a,b,c,d,e,f,g,h⟩ t=rds B ⟨a,b,c,d,e,f,g,h⟩ t from rfl] at hbu;have hnext:rds B ⟨a,b,c,d,e,f,g,h⟩ (t+1)=rnd (kV t) (wS B t) (rds B ⟨a,b,c,d,e,f,g,h⟩ t):=rfl;generalize rds B ⟨a,b,c,d,e,f,g,h⟩ t=r at *;obtain⟨a',b',c',d',e',f',g',h'⟩:=r;unfold H8.row vW at hbu;dsimp only at hbu;unfold vW at qw qk;simp(config:={maxSteps:=3000000}) (disch:=omega) only[push_cast,Nat.reduceBEq,Nat.reduceEqDiff,Nat.reduceAdd,Nat.reduceMul,Nat.reduceSub,Nat.reduceLT,Int.reduceToNat,Int.reduceLT,Int.reduceLE,Int.reduceEq,Int.reduceAdd,Int.reduceSub,Int.reduceNeg,Int.reduceMul,hbu.cell,hbu.free,hbw4.cell,qw,qk];refine Ok.use (cL (n:=6) (by decide) (by decide)) ?_;rintro v _ ⟨rfl,rfl⟩;simp(config:={maxSteps:=3000000}) (disch:=omega) only[push_cast,Nat.reduceBEq,Nat.reduceEqDiff,Nat.reduceAdd,Nat.reduceMul,Nat.reduceSub,Nat.reduceLT,Int.reduceToNat,Int.reduceLT,Int.reduceLE,Int.reduceEq,Int.reduceAdd,Int.reduceSub,Int.reduceNeg,Int.reduceMul,hbu.cell,hbu.free,hbw4.cell,qw,qk];refine Ok.use (cL (n:=11) (by decide) (by decide)) ?_;rintro v _ ⟨rfl,rfl⟩;simp(config:={maxSteps:=3000000}) (disch:=omega) only[push_cast,Nat.reduceBEq,Nat.reduceEqDiff,Nat.reduceAdd,Nat.reduceMul,Nat.reduceSub,Nat.reduceLT,Int.reduceToNat,Int.reduceLT,Int.reduceLE,Int.reduceEq,Int.reduceAdd,Int.reduceSub,Int.reduceNeg,Int.reduceMul,hbu.cell,hbu.free,hbw4.cell,qw,qk];refine Ok.use (cL (n:=25) (by decide) (by decide)) ?_;rintro v _ ⟨rfl,rfl⟩;simp(config:={maxSteps:=3000000}) (disch:=omega) only[push_cast,Nat.reduceBEq,Nat.reduceEqDiff,Nat.reduceAdd,Nat.reduceMul,Nat.reduceSub,Nat.reduceLT,Int.reduceToNat,Int.reduceLT,Int.reduceLE,Int.reduceEq,Int.reduceAdd,Int.reduceSub,Int.reduceNeg,Int.reduceMul,hbu.cell,hbu.free,hbw4.cell,qw,qk];refine Ok.use (cL (n:=2) (by decide) (by decide)) ?_;rintro v _ ⟨rfl,rfl⟩;simp(config:={maxSteps:=3000000}) (disch:=omega) only[push_cast,Nat.reduceBEq,Nat.reduceEqDiff,Nat.reduceAdd,Nat.reduceMul,Nat.reduceSub,Nat.reduceLT,Int.reduceToNat,Int.reduceLT,Int.reduceLE,Int.reduceEq,Int.reduceAdd,Int.reduceSub,Int.reduceNeg,Int.reduceMul,hbu.cell,hbu.free,hbw4.cell,qw,qk];refine Ok.use (cL (n:=13) (by decide) (by decide)) ?_;rintro v _ ⟨rfl,rfl⟩;simp(config:={maxSteps:=3000000}) (disch:=omega) only[push_cast,Nat.reduceBEq,Nat.reduceEqDiff,Nat.reduceAdd,Nat.reduceMul,Nat.reduceSub,Nat.reduceLT,Int.reduceToNat,Int.reduceLT,Int.reduceLE,Int.reduceEq,Int.reduceAdd,Int.reduceSub,Int.reduceNeg,Int.reduceMul,hbu.cell,hbu.free,hbw4.cell,qw,qk];refine Ok.use (cL (n:=22) (by decide) (by decide)) ?_;rintro v _ ⟨rfl,rfl⟩;simp(config:={maxSteps:=3000000}) (disch:=omega) only[push_cast,Nat.reduceBEq,Nat.reduceEqDiff,Nat.reduceAdd,Nat.reduceMul,Nat.reduceSub,Nat.reduceLT,Int.reduceToNat,Int.reduceLT,Int.reduceLE,Int.reduceEq,Int.reduceAdd,Int.reduceSub,Int.reduceNeg,Int.reduceMul,hbu.cell,hbu.free,hbw4.cell,qw,qk];have hb:=(jS (s:=rnd (kV t) (wS B t) ⟨a',b',c',d',e',f',g',h'⟩) (cs:=[.int .u32 (a'.toNat:Int),.int .u32 (b'.toNat:Int),.int .u32 (c'.toNat:Int),.int .u32 (d'.toNat:Int),.int .u32 (e'.toNat:Int),.int .u32 (f'.toNat:Int),.int .u32 (g'.toNat:Int),.int .u32 (h'.toNat:Int)]) rfl hbu).drew.drew;have hup:=(hu34.trans (dP (b:=u) (s:=rnd (kV t) (wS B t) ⟨a',b',c',d',e',f',g',h'⟩)) fun _ _ h=>h).drew'.drew';have hrow:(rnd (kV t) (wS B t) ⟨a',b',c',d',e',f',g',h'⟩).row=(rds B ⟨a,b,c,d,e,f,g,h⟩ (t+1)).row:=by rw[hnext]
   rw[hrow] at hb;clear hrow hnext;unfold set8 rnd rndT1 rndT2 vW at hb hup;dsimp only at hb hup;exact⟨k-1,by omega,t+1,by omega,by simp,hb,hup⟩
  obtain⟨T15,h15⟩ : ∃T,T=t-15:=⟨_,rfl⟩;obtain⟨T2,h2⟩ : ∃T,T=t-2:=⟨_,rfl⟩;obtain⟨T7,h7⟩ : ∃T,T=t-7:=⟨_,rfl⟩;obtain⟨T16,h16⟩ : ∃T,T=t-16:=⟨_,rfl⟩;have e15:(t:Int)-15=(T15:Int):=by omega
  have e2:(t:Int)-2=(T2:Int):=by omega
  have e7:(t:Int)-7=(T7:Int):=by omega
  have e16:(t:Int)-16=(T16:Int):=by omega
  have q15:=gU (B:=B) (t:=t) (i:=T15) (by omega) (by omega);have q2:=gU (B:=B) (t:=t) (i:=T2) (by omega) (by omega);have q7:=gU (B:=B) (t:=t) (i:=T7) (by omega) (by omega);have q16:=gU (B:=B) (t:=t) (i:=T16) (by omega) (by omega);have qw:=uN (B:=B) (t:=t) (i:=t) (Nat.le_refl _) (by omega);have htl:(t:Int)<64:=by omega
  simp(config:={maxSteps:=3000000}) (disch:=omega) only[push_cast,Nat.reduceBEq,Nat.reduceEqDiff,Nat.reduceAdd,Nat.reduceMul,Nat.reduceSub,Nat.reduceLT,Int.reduceToNat,Int.reduceLT,Int.reduceLE,Int.reduceEq,Int.reduceAdd,Int.reduceSub,Int.reduceNeg,Int.reduceMul,e15,e2,e7,e16,q15,q2,q7,q16,qw,hbw.cell,hbw.free];refine Ok.use (cL (n:=7) (by decide) (by decide)) ?_;rintro v _ ⟨rfl,rfl⟩;simp(config:={maxSteps:=3000000}) (disch:=omega) only[push_cast,Nat.reduceBEq,Nat.reduceEqDiff,Nat.reduceAdd,Nat.reduceMul,Nat.reduceSub,Nat.reduceLT,Int.reduceToNat,Int.reduceLT,Int.reduceLE,Int.reduceEq,Int.reduceAdd,Int.reduceSub,Int.reduceNeg,Int.reduceMul,e15,e2,e7,e16,q15,q2,q7,q16,qw,hbw.cell,hbw.free];refine Ok.use (cL (n:=18) (by decide) (by decide)) ?_;rintro v _ ⟨rfl,rfl⟩;simp(config:={maxSteps:=3000000}) (disch:=omega) only[push_cast,Nat.reduceBEq,Nat.reduceEqDiff,Nat.reduceAdd,Nat.reduceMul,Nat.reduceSub,Nat.reduceLT,Int.reduceToNat,Int.reduceLT,Int.reduceLE,Int.reduceEq,Int.reduceAdd,Int.reduceSub,Int.reduceNeg,Int.reduceMul,e15,e2,e7,e16,q15,q2,q7,q16,qw,hbw.cell,hbw.free];refine Ok.use (cL (n:=17) (by decide) (by decide)) ?_;rintro v _ ⟨rfl,rfl⟩;simp(config:={maxSteps:=3000000}) (disch:=omega) only[push_cast,Nat.reduceBEq,Nat.reduceEqDiff,Nat.reduceAdd,Nat.reduceMul,Nat.reduceSub,Nat.reduceLT,Int.reduceToNat,Int.reduceLT,Int.reduceLE,Int.reduceEq,Int.reduceAdd,Int.reduceSub,Int.reduceNeg,Int.reduceMul,e15,e2,e7,e16,q15,q2,q7,q16,qw,hbw.cell,hbw.free];refine Ok.use (cL (n:=19) (by decide) (by decide)) ?_;rintro v _ ⟨rfl,rfl⟩;simp(config:={maxSteps:=3000000}) (disch:=omega) only[push_cast,Nat.reduceBEq,Nat.reduceEqDiff,Nat.reduceAdd,Nat.reduceMul,Nat.reduceSub,Nat.reduceLT,Int.reduceToNat,Int.reduceLT,Int.reduceLE,Int.reduceEq,Int.reduceAdd,Int.reduceSub,Int.reduceNeg,Int.reduceMul,e15,e2,e7,e16,q15,q2,q7,q16,qw,hbw.cell,hbw.free];have hbw':=(hbw.set t (vW (wS B t))).drew.drew;rw[uO (by omega),aAN ht] at hbw';unfold sg1 sg0 vW at hbw';rw[←h15,←h2,←h7,←h16] at hbw';exact⟨k-1,by omega,t+1,by omega,by omega,by simp,hbw',((hu2.setIn rfl).drew').drew'⟩
 have ht:t<16:=by omega
 obtain⟨T0,h0⟩ : ∃T,T=4*t:=⟨_,rfl⟩;obtain⟨T1,h1⟩ : ∃T,T=4*t+1:=⟨_,rfl⟩;obtain⟨T2,h2⟩ : ∃T,T=4*t+2:=⟨_,rfl⟩;obtain⟨T3,h3⟩ : ∃T,T=4*t+3:=⟨_,rfl⟩;have e0:4*(t:Int)=(T0:Int):=by omega
 have e1:(T0:Int)+1=(T1:Int):=by omega
 have e2:(T0:Int)+2=(T2:Int):=by omega
 have e3:(T0:Int)+3=(T3:Int):=by omega
 have q0:=gV (hli.upd hu02 hgb fun h=>h) (j:=T0) (by omega);have q1:=gV (hli.upd hu02 hgb fun h=>h) (j:=T1) (by omega);have q2:=gV (hli.upd hu02 hgb fun h=>h) (j:=T2) (by omega);have q3:=gV (hli.upd hu02 hgb fun h=>h) (j:=T3) (by omega);have qw:=uN (B:=B) (t:=t) (i:=t) (Nat.le_refl _) (by omega);simp(config:={maxSteps:=3000000}) (disch:=omega) only[push_cast,Nat.reduceBEq,Nat.reduceEqDiff,Nat.reduceAdd,Nat.reduceMul,Nat.reduceSub,Nat.reduceLT,Int.reduceToNat,Int.reduceLT,Int.reduceLE,Int.reduceEq,Int.reduceAdd,Int.reduceSub,Int.reduceNeg,Int.reduceMul,e0,e1,e2,e3,q0,q1,q2,q3,hbw.cell,hbw.free,qw];have hbw':=(hbw.set t (vW (wS B t))).drew;rw[uO (by omega),aAM ht] at hbw';unfold w0 byW vW at hbw';rw[←h1,←h2,←h3,←h0] at hbw';exact⟨k-1,by omega,t+1,by omega,by simp,hbw',(hu2.setIn rfl).drew'⟩
open Go
set_option maxRecDepth 100000
open Go
set_option maxRecDepth 100000
open Go
set_option maxRecDepth 100000
def beL:Nat→Nat→List Int
 | 0,_=>[]
 | k+1,n=>(((n/256 ^ k)%256:Nat):Int) :: beL k n
theorem bG {n:Nat} : ∀{k:Nat},(beL k n).length=k
 | 0=>rfl
 | k+1=>by simp[beL,bG (k:=k)]
theorem jT {n:Nat} : ∀{k:Nat},Rng (beL k n)
 | 0=>fun x hx=>by cases hx
 | k+1=>fun x hx=>by
  rcases List.mem_cons.1 hx with h | h
  ·subst h; have:=Nat.mod_lt (n/256 ^ k) (show 0<256 by decide); omega
  ·exact jT x h
def zerosN (n:Nat):Nat:=(119-n%64)%64
def padP (b:List Int):List Int:=b ++ [128] ++ List.replicate (zerosN b.length) 0 ++ beL 8 (8*b.length)
theorem aAW {b:List Int}:(padP b).length=b.length+1+zerosN b.length+8:=by simp [padP,bG]; omega
theorem uR {m:Nat}:(m:Int).tmod 64=((m%64:Nat):Int):=by rw [show (64:Int)=((64:Nat):Int) from rfl,←Int.ofNat_tmod]
theorem aAX {n k:Nat}(h:n<2 ^ 64)(hk:k<8):IntKind.u8.wrap ((n:Int).fdiv (2 ^ (min (8*k) IntKind.u64.bits)))=(((n/256 ^ k)%256:Nat):Int):=by
 rw[show min (8*k) IntKind.u64.bits=8*k from Nat.min_eq_left (by show _≤64; omega),Int.fdiv_eq_ediv_of_nonneg _ (Int.le_of_lt (Int.pow_pos (by decide)))];have e:(2:Int) ^ (8*k)=((256 ^ k:Nat):Int):=by rw[Int.pow_mul]; rfl
 rw[e,←Int.natCast_ediv,dH]
structure Fr (w0 w : World) (v : Value) (l : List Int) : Prop where
 own:Bow w v l
 new : ∀g,v.ownBlock=some g→w0.heap.size≤g
 upd:Upd (fun _=>False) w0 w
theorem Fr.quiet {w0 w w':World}{v:Value}{l:List Int}(h:Fr w0 w v l)(hu:Upd (fun _=>False) w w'):Fr w0 w' v l:=⟨h.own.upd hu (fun _ _ h=>h),h.new,h.upd.trans hu fun _ _ h=>h⟩
theorem Fr.over {w0 w w':World}{v:Value}{l:List Int}{G:Nat→Prop}(h:Fr w0 w v l)(hu:Upd G w w')(h1 : ∀g,v.ownBlock=some g→¬G g)(h2 : ∀b,G b→w0.heap.size≤b):Fr w0 w' v l:=
 ⟨h.own.upd hu h1,h.new,h.upd.trans hu fun b hb hg=>by have:=h2 b hg; omega⟩
theorem Fr.step {w0 w:World}{v:Value}{l m:List Int}(h:Fr w0 w v l){v':Value}{w':World}(h1:Bow w' v' (l ++ m))(h2:Upd (fun b=>v.ownBlock=some b) w w')(h3 : ∀g,v'.ownBlock=some g→v.ownBlock=some g∨(w.heap.size≤g∧g<w'.heap.size)):Fr w0 w' v' (l ++ m):=by
 have hs:=h.upd.size;refine⟨h1,fun g hg=>?_,h.upd.trans h2 fun b hb hg=>by have:=h.new b hg; omega⟩;rcases h3 g hg with h4 | h4
 ·exact h.new g h4
 ·omega
theorem Fr.app {w0 w:World}{v:Value}{l:List Int}(h:Fr w0 w v l){F:Nat→Prop}{y:Value}{m:List Int}(hy:SlB w F y m)(hlen:l.length+m.length≤1000000000){ty:TypeId}
 {K:Value×World→Prop} (hk : ∀v' w',Fr w0 w' v' (l ++ m)→Upd (fun b=>w0.heap.size≤b) w w'→K (v',w')) :
 Okk (appS Tryz.prog #[55,55] ty v y w) K:=
 bH h.own hy (by omega) fun v' w' h1 h2 h3=>hk v' w' (h.step h1 h2 h3) (h2.mono fun b _ hb=>h.new b hb)
theorem Fr.push {w0 w:World}{v:Value}{l:List Int}(h:Fr w0 w v l){x:Int}(hlen:l.length<1000000000){ty:TypeId}
 {K:Value×World→Prop} (hk : ∀v' w',Fr w0 w' v' (l ++ [x])→Upd (fun b=>w0.heap.size≤b) w w'→K (v',w')) :
 Okk (appS Tryz.prog #[55,55] ty v (.slice (some ⟨w.heap.size,0,none⟩) 1 1) (w.alloc (.cells [.int .u8 x].toArray 5 (0,0)))) K:=
 (h.quiet Upd.alloc).app (gE (F:=fun _=>False) fun h=>h) hlen fun v' w' h1 h2=>hk v' w' h1 ((Upd.alloc (F:=fun b=>w0.heap.size≤b)).trans h2 fun _ _ h=>h)
theorem Fr.nil {w:World}:Fr w w (.slice none 0 0) []:=⟨Bow.nil,by simp [Value.ownBlock],Upd.refl⟩
theorem Fr.empty {w:World}:Fr w (w.alloc (.cells #[] 5 (0,0))) (.slice (some ⟨w.heap.size,0,none⟩) 0 0) []:=
 ⟨Bow.empty (Blk.new (cs:=[])),fun g hg=>by have:=aU hg; omega,Upd.alloc⟩
theorem Fr.slc {w0 w:World}{v:Value}{l:List Int}(h:Fr w0 w v l):SlC w (fun b=>b<w0.heap.size) v l:=h.own.slc fun g hg hb=>by have:=h.new g hg; omega
theorem Fr.old {w0 w:World}{v:Value}{l m:List Int}{F:Nat→Prop}{y:Value}(h:Fr w0 w v l)(hy:SlB w0 F y m):SlB w F y m:=hy.upd h.upd fun _ h=>h.elim
theorem aAY {n t:Nat}(h:t<zerosN n):(n+1+t)%64≠56:=by unfold zerosN at h; omega
theorem aAZ {n:Nat}:(n+1+zerosN n)%64=56:=by unfold zerosN; omega
theorem aA0 {n k:Nat} : ∀{j:Nat},j<k→(beL k n).take (j+1)=(beL k n).take j ++ [(((n/256 ^ (k-1-j))%256:Nat):Int)]:=by
 induction k with
 | zero=>intro j h; omega
 | succ k ih=>
  intro j h;cases j with
  | zero=>simp[beL]
  | succ j=>
   have:=ih (j:=j) (by omega);rw[beL,List.take_succ_cons,List.take_succ_cons,this,show k+1-1-(j+1)=k-1-j by omega];rfl
open Go
set_option maxRecDepth 100000
def initP:H8:=⟨1779033703#32,3144134277#32,1013904242#32,2773480762#32,1359893119#32,2600822924#32,528734635#32,1541459225#32⟩
def fo (B:List Int)(s:H8):Nat→H8
 | 0=>s
 | t+1=>blkP ((B.drop (64*t)).take 64) (fo B s t)
def wby (x:BitVec 32):List Int:=beL 4 x.toNat
def outP (s:H8):Nat→List Int
 | 0=>[]
 | t+1=>outP s t ++ wby (s.get t)
def sumP (b:List Int):List Int:=outP (fo (padP b) initP ((padP b).length/64)) 8
theorem m9 {s:H8} : ∀{t:Nat},(outP s t).length=4*t
 | 0=>rfl
 | t+1=>by rw[outP,List.length_append,m9 (t:=t),wby,bG]; omega
theorem gW {b:List Int}:(sumP b).length=32:=by rw [sumP,m9]
theorem uS {s:H8} : ∀{t:Nat},Rng (outP s t)
 | 0=>fun x hx=>by cases hx
 | t+1=>(uS (t:=t)).append jT
theorem uT {b:List Int}:Rng (sumP b):=uS
theorem aA1 (a b c d:Int)(w:World):bslS Tryz.prog 55 4 #[(0,.int .u8 a),(1,.int .u8 b),(2,.int .u8 c),(3,.int .u8 d)] w=some (.slice (some ⟨w.heap.size,0,none⟩) 4 4,w.alloc (.cells [.int .u8 a,.int .u8 b,.int .u8 c,.int .u8 d].toArray 5 (0,0))):=by kernel_rfl
theorem aA2 {k:IntKind}{n:Int}{w:World}:cnvS Tryz.prog 225 5 (.int k n) w=some (.int .u8 (IntKind.u8.wrap n),w):=bK (by kernel_rfl) (by kernel_rfl)
attribute [push_cast] aA1 aA2
theorem aA3 {x:BitVec 32}:wby x = [IntKind.u8.wrap ((x >>> 24).toNat:Int),IntKind.u8.wrap ((x >>> 16).toNat:Int),IntKind.u8.wrap ((x >>> 8).toNat:Int),IntKind.u8.wrap (x.toNat:Int)]:=by
 simp only[dH,BitVec.toNat_ushiftRight,Nat.shiftRight_eq_div_pow];unfold wby beL beL beL beL beL;simp
theorem Fr.push4 {w0 w:World}{v:Value}{l:List Int}(h:Fr w0 w v l){x:BitVec 32}(hlen:l.length<900000000){ty:TypeId}
 {K:Value×World→Prop} (hk : ∀v' w',Fr w0 w' v' (l ++ wby x)→Upd (fun b=>w0.heap.size≤b) w w'→K (v',w')) :
 Okk (appS Tryz.prog #[55,55] ty v (.slice (some ⟨w.heap.size,0,none⟩) 4 4) (w.alloc (.cells [.int .u8 (IntKind.u8.wrap ((x >>> 24).toNat:Int)),.int .u8 (IntKind.u8.wrap ((x >>> 16).toNat:Int)),.int .u8 (IntKind.u8.wrap ((x >>> 8).toNat:Int)),.int .u8 (IntKind.u8.wrap (x.toNat:Int))].toArray 5 (0,0)))) K:=by
 rw[aA3] at hk;exact(h.quiet Upd.alloc).app (cX (l:=[_,_,_,_]) Blk.new (F:=fun _=>False) fun h=>h) (by show _+4≤_; omega) fun v' w' h1 h2=>hk v' w' h1 ((Upd.alloc (F:=fun b=>w0.heap.size≤b)).trans h2 fun _ _ h=>h)
theorem uU:initP.val = .agg #[.int .u32 1779033703,.int .u32 3144134277,.int .u32 1013904242,.int .u32 2773480762,.int .u32 1359893119,.int .u32 2600822924,.int .u32 528734635,.int .u32 1541459225]:=by rfl
open Go
set_option maxRecDepth 100000
set_option maxHeartbeats 2000000 in
theorem aA4 {w:World}:Ok (den Tryz.prog 185 #[] w) fun v w'=>v=initP.val∧Upd (fun _=>False) w w':=by
 refine bZ (args:=[]) 0 228 Tryz.func185 rfl mixed (by kernel_rfl) TF rfl ?_;rw[uU];have hup:Upd (fun _=>False) w (set8 (w.alloc (.cells [Value.int .u32 0,.int .u32 0,.int .u32 0,.int .u32 0,.int .u32 0,.int .u32 0,.int .u32 0,.int .u32 0].toArray 228 (0,0))) w.heap.size initP):=Upd.alloc.trans dP fun x hx e=>by omega
 unfold set8 at hup;simp(maxSteps:=3000000)(disch:=omega)only[push_cast,seval];exact hup
def SO (w:World)(p:Nat)(s:H8)(rest:Value)(n:Nat):Prop:=Blk w p (s.row ++ [rest,.int .i64 n]) 231
theorem aA5 (a b c d e f g h:Int)(w:World):bldS Tryz.prog 231 #[(0,.agg #[.int .u32 a,.int .u32 b,.int .u32 c,.int .u32 d,.int .u32 e,.int .u32 f,.int .u32 g,.int .u32 h])] w =
 some (.agg #[.int .u32 a,.int .u32 b,.int .u32 c,.int .u32 d,.int .u32 e,.int .u32 f,.int .u32 g,.int .u32 h,.slice none 0 0,.int .i64 0],w):=by kernel_rfl
attribute [push_cast] aA5
set_option maxHeartbeats 2000000 in
theorem aA6 {w:World}:Ok (den Tryz.prog 171 #[] w) fun v w'=>∃p,v = .pointer (some ⟨p,0,none⟩)∧w.heap.size≤p∧SO w' p initP (.slice none 0 0) 0∧Upd (fun _=>False) w w':=by
 refine aB (args:=[]) rs171 Tryz.func171 rfl mixed (by kernel_rfl) TC rfl ?_;simp(maxSteps:=3000000)(disch:=omega)only[push_cast,seval];refine Ok.use aA4 ?_;rintro v w1 ⟨rfl,hu1⟩;rw[uU];simp(maxSteps:=3000000)(disch:=omega)only[push_cast,seval];exact⟨_,rfl,hu1.size,Blk.new,hu1.trans Upd.alloc fun _ _ h=>h⟩
theorem nA {w:World}{F:Nat→Prop}{b o c:Nat}{d:List Int}(h:SlB w F (.slice (some ⟨b,o,none⟩) d.length c) d){l:Nat}(hl:l≤d.length)(hc:d.length≤c):SlC w F (.slice (some ⟨b,if c=l then o else o+l,none⟩) (d.length-l) (c-l)) (d.drop l):=by
 have hl2:(d.drop l).length=d.length-l:=by rw[List.length_drop]
 have h2:=gC h (l:=l) (n:=d.length-l) (by omega) hc;rw[List.take_of_length_le (by omega)] at h2;exact⟨h2,_,_,by rw[hl2],by omega⟩
theorem aA7 {w:World}{b:Nat}{s r:H8}{E:TypeId}{tl:List Value}(h:Blk w b (r.row ++ tl) E):Blk (set8 w b s) b (s.row ++ tl) E:=
 (((((((h.set 0 (vW s.a)).set 1 (vW s.b)).set 2 (vW s.c)).set 3 (vW s.d)).set 4 (vW s.e)).set 5 (vW s.f)).set 6 (vW s.g)).set 7 (vW s.h)
theorem uV {B:List Int}{s:H8}{t:Nat}:fo B s (t+1)=blkP ((B.drop (64*t)).take 64) (fo B s t):=rfl
set_option maxHeartbeats 2000000 in
theorem aA8 {w:World}(hK:KT w){p:Nat}(hS:SO w p initP (.slice none 0 0) 0)(hp:p≠1){y:Value}{b:List Int}(hy:SlC w (fun x=>x=p) y b)(hl:b.length≤900000000) :
 Ok (den Tryz.prog 172 #[.pointer (some ⟨p,0,none⟩),y] w) fun _ w'=>∃rv,SO w' p (fo b initP (b.length/64)) rv b.length∧Bow w' rv (b.drop (64*(b.length/64)))∧(∀g,rv.ownBlock=some g→w.heap.size≤g)∧Upd (fun x=>x=p) w w':=by
 obtain⟨ya,yc,rfl,hyc⟩:=id hy.2;refine aB (args:=[.pointer (some ⟨p,0,none⟩),.slice ya b.length yc]) rs172 Tryz.func172 rfl mixed (by kernel_rfl) TD rfl ?_;have hS':=hS;unfold SO initP H8.row vW at hS;dsimp only[List.cons_append,List.nil_append] at hS;have hpl:=hS.lt;have hb0:Blk (w.setCell ⟨p,9,none⟩ (.int .i64 (0+(b.length:Int)))) p ((fo b initP 0).row ++ [.slice none 0 0,.int .i64 b.length]) 231:=by
  have h0:=hS'.set 9 (.int .i64 (0+(b.length:Int)));rw[Int.zero_add] at h0 ⊢;exact h0
 have hu0:Upd (fun x=>x=p) w (w.setCell ⟨p,9,none⟩ (.int .i64 (0+(b.length:Int)))):=Upd.set rfl;simp(config:={maxSteps:=3000000}) (disch:=omega) only[push_cast,Nat.reduceBEq,Nat.reduceEqDiff,Nat.reduceAdd,Nat.reduceMul,Nat.reduceSub,Nat.reduceLT,Int.reduceToNat,Int.reduceLT,Int.reduceLE,Int.reduceEq,Int.reduceAdd,Int.reduceSub,Int.reduceNeg,Int.reduceMul,hS.cell,hS.free];generalize w.setCell ⟨p,9,none⟩ (.int .i64 (0+(b.length:Int)))=w0 at *;clear hS hS';have hT:b.length/64*64≤b.length∧b.length<b.length/64*64+64:=by omega
 obtain⟨T,hTe⟩ : ∃T,T=b.length/64:=⟨_,rfl⟩;rw[←hTe] at hT ⊢;refine aG (I:=fun k st w'=>Bx (∃t v,k+t=T∧st = [v]∧SlC w' (fun x=>x=p) v (b.drop (64*t))∧Blk w' p ((fo b initP t).row ++ [.slice none 0 0,.int .i64 b.length]) 231∧Upd (fun x=>x=p) w w') ⟨⟩) ?_ T
  ⟨0,_,by omega,rfl,by simpa using hy.upd hu0 (fun _ h=>h),hb0,hu0⟩
 clear hb0 hu0;rintro k st w1 ⟨t,v,hk,rfl,h1,hb1,hu1⟩;obtain⟨va,vc,rfl,hvc⟩:=id h1.2;have hs1:=hu1.size;have hld:(b.drop (64*t)).length=b.length-64*t:=List.length_drop;have hnext:=uV (B:=b) (s:=initP) (t:=t);obtain⟨N,hN⟩ : ∃N,N=b.length:=⟨_,rfl⟩;rw[←hN] at hb1 ⊢;have hd64:b.drop (64*(t+1))=(b.drop (64*t)).drop 64:=by rw[List.drop_drop]; congr 1
 have hlt1:=hb1.lt;by_cases hk0:k=0
 ·obtain rfl:t=T:=by omega
  generalize fo b initP t=s at *;obtain⟨a,b',c',d,e,f,g',h⟩:=s;unfold H8.row vW at hb1;dsimp only[List.cons_append,List.nil_append] at hb1;have hlt : ¬(64:Int)≤(b.drop (64*t)).length:=by omega
  simp(config:={maxSteps:=3000000}) (disch:=omega) only[push_cast,Nat.reduceBEq,Nat.reduceEqDiff,Nat.reduceAdd,Nat.reduceMul,Nat.reduceSub,Nat.reduceLT,Int.reduceToNat,Int.reduceLT,Int.reduceLE,Int.reduceEq,Int.reduceAdd,Int.reduceSub,Int.reduceNeg,Int.reduceMul,hlt];refine(Fr.empty).app (h1.1.upd (Upd.alloc (F:=fun _=>False)) fun _ h=>h.elim) (by rw[List.length_nil,hld]; omega) ?_;intro v2 w2 h2 hu2;rw[List.nil_append] at h2;obtain⟨va2,vc2,rfl,_⟩:=h2.own.form;have hb2:=hb1.upd h2.upd fun h=>h;simp(config:={maxSteps:=3000000}) (disch:=omega) only[push_cast,Nat.reduceBEq,Nat.reduceEqDiff,Nat.reduceAdd,Nat.reduceMul,Nat.reduceSub,Nat.reduceLT,Int.reduceToNat,Int.reduceLT,Int.reduceLE,Int.reduceEq,Int.reduceAdd,Int.reduceSub,Int.reduceNeg,Int.reduceMul,hb2.cell,hb2.free];have hu3:Upd (fun x=>x=p) w2 (w2.setCell ⟨p,8,none⟩ (.slice va2 (b.drop (64*t)).length vc2)):=Upd.set rfl;have hnew : ∀g,(Value.slice va2 (b.drop (64*t)).length vc2).ownBlock=some g→w.heap.size≤g:=fun g hg=>by have:=h2.new g hg; omega
  exact⟨_,hb2.set 8 _,h2.own.upd hu3 fun g hg e=>by have:=h2.new g hg; omega,hnew,(hu1.trans (h2.upd.mono (G:=fun x=>x=p) fun _ _ h=>h.elim) fun _ _ h=>h).trans hu3 fun _ _ h=>h⟩
 have hlt:(64:Int)≤(b.drop (64*t)).length:=by omega
 generalize fo b initP t=s at *;generalize b.drop (64*t)=B at *;have hB0:B[0]? =some (B[0]'(by omega)):=List.getElem?_eq_getElem _;obtain⟨g,o,c,e,hx⟩:=h1.at_ hB0;clear hB0 hx;injection e with e1 e2 e3;subst e1 e3;clear e2;have htk:=gH h1.1 (n:=64) (by omega) hvc;have hdr:=nA h1.1 (l:=64) (by omega) hvc;have hl64:(B.take 64).length=64:=by rw[List.length_take]; omega
 generalize B.take 64=Q at *;obtain⟨a,b',c',d,e,f,g',h⟩:=s;have hs3:=hb1;unfold H8.row vW at hb1;dsimp only[List.cons_append,List.nil_append] at hb1;have hcn:(64:Int)≤vc:=by omega
 have hsx:=dF (P:=Tryz.prog) (t:=55) (w:=w1) (b:=g) (o:=o) (n:=B.length) (c:=vc) (k:=.i64) (h:=64) (by omega) hcn;have hsld:=htk.1.upd (Upd.drew (F:=fun _=>False)) fun _ h=>h.elim;have hdrd:=hdr.upd (Upd.drew (F:=fun _=>False)) fun _ h=>h.elim;have hb3d:=hb1.drew;have hs3d:=hs3.drew;have hu3d:=hu1.drew';have hsxd:=dF (P:=Tryz.prog) (t:=55) (w:=w1.drew) (b:=g) (o:=o) (n:=B.length) (c:=vc) (k:=.i64) (h:=64) (by omega) hcn;simp(config:={maxSteps:=3000000}) (disch:=omega) only[push_cast,Nat.reduceBEq,Nat.reduceEqDiff,Nat.reduceAdd,Nat.reduceMul,Nat.reduceSub,Nat.reduceLT,Int.reduceToNat,Int.reduceLT,Int.reduceLE,Int.reduceEq,Int.reduceAdd,Int.reduceSub,Int.reduceNeg,Int.reduceMul,hb1.cell,hb1.free,hlt,hsx];generalize w1.drew=w3d at *;rw[←hl64] at hsld;have hcall:=uQ (s:=⟨a,b',c',d,e,f,g',h⟩) (hK.upd hu3d (fun e=>hp e.symm)) hl64 hsld;rw[hl64] at hcall;refine Ok.use hcall ?_;rintro v w4 ⟨rfl,hu4⟩;rw[←hnext];generalize hfo:fo b initP (t+1)=s' at *;obtain⟨a1,b1,c1,d1,e1,f1,g1,h1⟩:=s';have hb4:=hb3d.upd hu4 fun h=>h;have hsx4:=dF (P:=Tryz.prog) (t:=55) (w:=w4) (b:=g) (o:=o) (n:=B.length) (c:=vc) (k:=.i64) (h:=64) (by omega) hcn;unfold H8.val H8.row vW;simp(config:={maxSteps:=3000000}) (disch:=omega) only[push_cast,Nat.reduceBEq,Nat.reduceEqDiff,Nat.reduceAdd,Nat.reduceMul,Nat.reduceSub,Nat.reduceLT,Int.reduceToNat,Int.reduceLT,Int.reduceLE,Int.reduceEq,Int.reduceAdd,Int.reduceSub,Int.reduceNeg,Int.reduceMul,hb1.cell,hb1.free,hb3d.cell,hb3d.free,hb4.cell,hb4.free,hlt,hsx,hsxd,hsx4];have hb:=aA7 (s:=⟨a1,b1,c1,d1,e1,f1,g1,h1⟩) (hs3d.upd hu4 fun h=>h);have hup8:=dP (w:=w4) (b:=p) (s:=⟨a1,b1,c1,d1,e1,f1,g1,h1⟩);have hup:=(hu3d.trans (hu4.mono (G:=fun x=>x=p) fun _ _ h=>h.elim) fun _ _ h=>h).trans hup8 fun _ _ h=>h;have hsl:=(hdrd.upd hu4 (fun _ h=>h.elim)).upd hup8 fun _ h=>h;unfold set8 vW at hb hup hsl;dsimp only at hb hup hsl;rw[←hd64] at hsl;generalize ((((((((w4.setCell ⟨p,0,none⟩ (.int .u32 a1.toNat)).setCell ⟨p,1,none⟩ (.int .u32 b1.toNat)).setCell ⟨p,2,none⟩ (.int .u32 c1.toNat)).setCell ⟨p,3,none⟩ (.int .u32 d1.toNat)).setCell ⟨p,4,none⟩ (.int .u32 e1.toNat)).setCell ⟨p,5,none⟩ (.int .u32 f1.toNat)).setCell ⟨p,6,none⟩ (.int .u32 g1.toNat)).setCell ⟨p,7,none⟩ (.int .u32 h1.toNat))=w5 at *;have hall:Bx (∃t v,k-1+t=T∧[Value.slice (some ⟨g,if vc=64 then o else o+64,none⟩) (B.length-64) (vc-64)] = [v]∧SlC w5 (fun x=>x=p) v (b.drop (64*t))∧Blk w5 p ((fo b initP t).row ++ [.slice none 0 0,.int .i64 N]) 231∧Upd (fun x=>x=p) w w5) ⟨⟩:=
  ⟨t+1,_,by omega,rfl,hsl,by rw[hfo]; exact hb,hup⟩
 exact⟨k-1,by omega,hall⟩
open Go
set_option maxRecDepth 100000
section
variable {P : Program} {D : Den} {ty : TypeId} {e : Operand → Value} {w : World}
def ixvS (P:Program)(t:TypeId)(x i:Value)(w:World):Option (Value×World):=lift ((Instr.index t x i).run P w)
theorem aA9 {t:TypeId}{x i:Operand}:opX P D (.index t x i) ty e w=ixvS P t (e x) (e i) w:=by
 simp only[opX,opS,execOp,ixvS,lift];generalize Instr.index t (e x) (e i)=s;simp;cases s.run P w <;> simp
theorem aAa {t el:TypeId}{cs:Array Value}{n:Nat}{k:IntKind}{i:Nat}{v:Value}(ht:arrOf P t=some (n,el))(hs:siz P el=some 1)(hk:knd P el=some false)(h1:i<n)(hv:cs[i]? =some v) :
 ixvS P t (.agg cs) (.int k (i:Int)) w=some (v,w):=by
 unfold arrOf at ht;unfold siz at hs;unfold knd at hk;split at ht
 ·rename_i n' el' hu;simp only[Option.some.injEq,Prod.mk.injEq] at ht;obtain⟨rfl,rfl⟩:=ht;cases hi:P.info? el' with
  | none=>rw[hi] at hs; cases hs
  | some inf=>
   rw[hi] at hs;simp only[Option.map_some,Option.some.injEq] at hs;have h2:(i:Int)<n':=by omega
   simp[ixvS,lift,Instr.index,asIntOf,underlying,hu,h2,sizeOf,typeInfo,hi,hs,part,isAgg];rw[if_pos h1];cases hq:P.underlying el' with
   | none=>rw[hq] at hk; cases hk
   | some d=>
    rw[hq] at hk;cases d <;> first | (cases hk; done) | simp[hv]
 ·cases ht
end
attribute [push_cast] aA9
def endP (rest:List Int)(n:Nat):List Int:=rest ++ [128] ++ List.replicate (zerosN rest.length) 0 ++ beL 8 (8*n)
theorem uW {B:List Int}{s:H8}{m:Nat} : ∀{t:Nat},fo B s (m+t)=fo (B.drop (64*m)) (fo B s m) t
 | 0=>rfl
 | t+1=>by
  show blkP ((B.drop (64*(m+t))).take 64) (fo B s (m+t))=blkP _ _;rw[uW (t:=t),List.drop_drop,Nat.mul_add]
theorem uX {b c:List Int}{s:H8} : ∀{m:Nat},64*m≤b.length→fo (b ++ c) s m=fo b s m
 | 0,_=>rfl
 | m+1,h=>by
  show blkP _ _=blkP _ _;rw[uX (m:=m) (by omega),List.drop_append_of_le_length (by omega),List.take_append_of_le_length (by rw[List.length_drop]; omega)]
theorem aAb {rest:List Int}{n:Nat}:(endP rest n).length=rest.length+1+zerosN rest.length+8:=by simp [endP,bG]; omega
theorem aAc {b:List Int}:outP (fo (endP (b.drop (64*(b.length/64))) b.length) (fo b initP (b.length/64)) ((endP (b.drop (64*(b.length/64))) b.length).length/64)) 8=sumP b:=by
 have hz:zerosN (b.drop (64*(b.length/64))).length=zerosN b.length:=by
  rw[List.length_drop]; unfold zerosN; omega
 have hE:endP (b.drop (64*(b.length/64))) b.length=(padP b).drop (64*(b.length/64)):=by
  unfold endP padP;rw[hz,List.append_assoc,List.append_assoc,List.append_assoc,List.append_assoc,List.drop_append_of_le_length (by omega)]
 have h1:fo b initP (b.length/64)=fo (padP b) initP (b.length/64):=by
  unfold padP;rw[List.append_assoc,List.append_assoc,uX (by omega)]
 rw[hE,h1,←uW,sumP,List.length_drop];have hl:=aAW (b:=b);congr 2;omega
set_option maxHeartbeats 2000000 in
theorem aAd {w:World}(hK:KT w){p:Nat}{s:H8}{rv:Value}{rest:List Int}{n:Nat}(hS:SO w p s rv n){F:Nat→Prop}(hr:SlB w F rv rest)(hrl:rest.length<64)(hn:n≤900000000) :
 Ok (den Tryz.prog 173 #[.pointer (some ⟨p,0,none⟩)] w) fun u w'=>u = .string (strOfNums (outP (fo (endP rest n) s ((endP rest n).length/64)) 8))∧Upd (fun _=>False) w w':=by
 obtain⟨ya,yc,rfl,_⟩:=id hr;refine aB (args:=[.pointer (some ⟨p,0,none⟩)]) rs173 Tryz.func173 rfl mixed (by kernel_rfl) TE rfl ?_;have hS':=hS;unfold SO at hS;obtain⟨a,b',c',d,e,f,g',h⟩:=s;unfold H8.row vW at hS;dsimp only[List.cons_append,List.nil_append] at hS;have hpl:=hS.lt;simp(maxSteps:=3000000)(disch:=omega)only[push_cast,seval,hS.cell,hS.free];refine(Fr.empty).app ((Fr.empty).old hr) (by simp; omega) ?_;intro v' w2 h2 _;rw[List.nil_append] at h2;simp(maxSteps:=3000000)(disch:=omega)only[push_cast,seval];refine h2.push (by omega) ?_;intro v3 w3 h3 _;simp(maxSteps:=3000000)(disch:=omega)only[push_cast,seval];refine aG (I:=fun k st w'=>Bx (∃t v,k+t=zerosN rest.length∧st = [v]∧Fr w w' v (rest ++ [128] ++ List.replicate t 0)) ⟨⟩) ?_ (zerosN rest.length)
  ⟨0,v3,by omega,rfl,by simpa using h3⟩
 rintro k st w4 ⟨t,v,hk,rfl,h4⟩;obtain⟨va,vc,rfl,_⟩:=h4.own.form;have hlen:(rest ++ [128] ++ List.replicate t 0).length=rest.length+1+t:=by simp; omega
 obtain⟨L,hL⟩ : ∃L,L=rest.length+1+t:=⟨_,rfl⟩;rw[hlen,←hL] at h4 ⊢;have hz9:zerosN rest.length<64:=by unfold zerosN; omega
 by_cases hk0:k=0
 ·obtain rfl:t=zerosN rest.length:=by omega
  have e1:(L:Int).tmod 64=56:=by rw[uR,hL,aAZ]; rfl
  have e2:IntKind.u64.wrap (n:Int)=(n:Int):=by rw[IntKind.wrap_u64]; omega
  have e3:IntKind.u64.wrap ((n:Int)*8)=((8*n:Nat):Int):=by rw[IntKind.wrap_u64]; omega
  obtain⟨N,hN⟩ : ∃N,N=8*n:=⟨_,rfl⟩;rw[←hN] at e3;have hb4:=hS.upd h4.upd fun h=>h;have hS4:=Blk.upd hS' h4.upd fun h=>h;simp(maxSteps:=3000000)(disch:=omega)only[push_cast,seval,e1,e2,e3,hb4.cell,hb4.free];have hpad:endP rest n=rest ++ [128] ++ List.replicate (zerosN rest.length) 0 ++ beL 8 N:=by rw[endP,hN]
  have hEl:=aAb (rest:=rest) (n:=n);have hEm:(endP rest n).length%64=0:=by rw[hEl]; unfold zerosN; omega
  generalize endP rest n=E at *;subst hpad;generalize rest ++ [128] ++ List.replicate (zerosN rest.length) 0=P at *;clear hb4 hS4;refine aG (I:=fun k st w'=>Bx (k≤8∧∃v,st = [v,.int .i64 (8*(k:Int)-8)]∧Fr w w' v (P ++ (beL 8 N).take (8-k))) ⟨⟩) ?_ 8
   ⟨by omega,_,rfl,by simpa using h4⟩
  rintro k st w5 ⟨hk8,v,rfl,h5⟩;obtain⟨va5,vc5,rfl,hcap5⟩:=h5.own.form;cases k with
  | zero=>
   rw[show 8-0=8 from rfl,List.take_of_length_le (by rw[bG]; omega)] at h5 hcap5 ⊢;generalize P ++ beL 8 N=E at *;have hb5:=hS.upd h5.upd fun h=>h;have hbv:Blk (set8 (w5.alloc (.cells [Value.int .u32 0,.int .u32 0,.int .u32 0,.int .u32 0,.int .u32 0,.int .u32 0,.int .u32 0,.int .u32 0].toArray 228 (0,0))) w5.heap.size ⟨a,b',c',d,e,f,g',h⟩) w5.heap.size (H8.row ⟨a,b',c',d,e,f,g',h⟩) 228:=jS (cs:=[Value.int .u32 0,.int .u32 0,.int .u32 0,.int .u32 0,.int .u32 0,.int .u32 0,.int .u32 0,.int .u32 0]) rfl Blk.new;have huv:Upd (fun _=>False) w5 (set8 (w5.alloc (.cells [Value.int .u32 0,.int .u32 0,.int .u32 0,.int .u32 0,.int .u32 0,.int .u32 0,.int .u32 0,.int .u32 0].toArray 228 (0,0))) w5.heap.size ⟨a,b',c',d,e,f,g',h⟩):=Upd.alloc.trans dP fun x hx e=>by omega
   unfold set8 vW at hbv huv;dsimp only at hbv huv;simp(maxSteps:=3000000)(disch:=omega)only[push_cast,seval,hb5.cell,hb5.free];have h6:=h5.quiet huv;generalize (((((((((w5.alloc (.cells [Value.int .u32 0,.int .u32 0,.int .u32 0,.int .u32 0,.int .u32 0,.int .u32 0,.int .u32 0,.int .u32 0].toArray 228 (0,0))).setCell ⟨w5.heap.size,0,none⟩ (.int .u32 (a.toNat:Int))).setCell ⟨w5.heap.size,1,none⟩ (.int .u32 (b'.toNat:Int))).setCell ⟨w5.heap.size,2,none⟩ (.int .u32 (c'.toNat:Int))).setCell ⟨w5.heap.size,3,none⟩ (.int .u32 (d.toNat:Int))).setCell ⟨w5.heap.size,4,none⟩ (.int .u32 (e.toNat:Int))).setCell ⟨w5.heap.size,5,none⟩ (.int .u32 (f.toNat:Int))).setCell ⟨w5.heap.size,6,none⟩ (.int .u32 (g'.toNat:Int))).setCell ⟨w5.heap.size,7,none⟩ (.int .u32 (h.toNat:Int)))=w6 at *;have hw5:=h5.upd.size;obtain⟨u,hu⟩ : ∃u,u=w5.heap.size:=⟨_,rfl⟩;rw[←hu] at hbv ⊢;have hKT:=hK.upd h6.upd fun h=>h;have hK0:=hK.1;have huw:=h6.upd;have hsl6:SlC w6 (fun x=>x=u) (.slice va5 E.length vc5) E:=by
    refine h6.own.slc fun g hg e=>?_;have:=h5.own.lt hg;omega
   clear h6 h5 huv hb5 hS hS' h4 h3 h2;generalize (⟨a,b',c',d,e,f,g',h⟩:H8)=s at *;obtain⟨T,hT⟩ : ∃T,T=E.length/64:=⟨_,rfl⟩;rw[←hT];refine aG (I:=fun k st w'=>Bx (∃t v,k+t=T∧st = [v]∧SlC w' (fun x=>x=u) v (E.drop (64*t))∧Blk w' u (fo E s t).row 228∧Upd (fun x=>x=u) w6 w') ⟨⟩) ?_ T
    ⟨0,_,by omega,rfl,by simpa using hsl6,hbv,Upd.refl⟩
   clear hbv hsl6;rintro k st w7 ⟨t,v,hk,rfl,h7,hb7,hu7⟩;obtain⟨va7,vc7,rfl,hvc⟩:=id h7.2;have hld:(E.drop (64*t)).length=E.length-64*t:=List.length_drop;have hnext:=uV (B:=E) (s:=s) (t:=t);have hd64:E.drop (64*(t+1))=(E.drop (64*t)).drop 64:=by rw[List.drop_drop]; congr 1
   have hlt7:=hb7.lt;by_cases hk0:k=0
   ·obtain rfl:t=T:=by omega
    generalize fo E s t=s7 at *;obtain⟨a1,b1,c1,d1,e1,f1,g1,h1⟩:=s7;have hlt : ¬(0:Int)<(E.drop (64*t)).length:=by omega
    have hb7':=hb7;unfold H8.row vW at hb7;dsimp only at hb7;obtain⟨w8,e8,hB8,hu8,hs8⟩:=TZ (w:=w7) (k:=.i64) (k':=.i64) (n:=32) (by omega) (by omega);have hf8:Fr w7 w8 (.slice (some ⟨w7.heap.size,0,none⟩) 0 32) []:=⟨hB8,fun g hg=>by have:=aU hg; omega,hu8⟩;have hb8:=hb7.upd hu8 fun h=>h;simp(maxSteps:=3000000)(disch:=omega)only[push_cast,seval,hlt,hb7.cell,hb7.free,e8,hb8.cell,hb8.free];have hlen0:=hf8.own.form;refine aG (I:=fun k st w'=>Bx (∃t v,k+t=8∧st = [v,.int .i64 (t:Int)]∧Fr w7 w' v (outP ⟨a1,b1,c1,d1,e1,f1,g1,h1⟩ t)) ⟨⟩) ?_ 8
     ⟨0,_,by omega,rfl,hf8⟩
    rintro k st w9 ⟨t,v,hk,rfl,h9⟩;obtain⟨va9,vc9,rfl,_⟩:=h9.own.form;by_cases hk0:k=0
    ·obtain rfl:t=8:=by omega
     have hc:=aN h9.slc.1;simp(maxSteps:=3000000)(disch:=omega)only[push_cast,seval,hc];exact(huw.trans (hu7.mono (G:=fun b=>w.heap.size≤b) fun b _ e=>by omega) fun b hb h=>by omega).trans h9.upd fun _ _ h=>h
    have hol:=m9 (s:=⟨a1,b1,c1,d1,e1,f1,g1,h1⟩) (t:=t);have qr:=uP (s:=⟨a1,b1,c1,d1,e1,f1,g1,h1⟩) (i:=t) (by omega);have hle:(t:Int)<8:=by omega
    have qr2:(#[Value.int .u32 (a1.toNat:Int),.int .u32 (b1.toNat:Int),.int .u32 (c1.toNat:Int),.int .u32 (d1.toNat:Int),.int .u32 (e1.toNat:Int),.int .u32 (f1.toNat:Int),.int .u32 (g1.toNat:Int),.int .u32 (h1.toNat:Int)])[t]? =some (.int .u32 ((H8.get ⟨a1,b1,c1,d1,e1,f1,g1,h1⟩ t).toNat:Int)):=by
     rw[←List.getElem?_toArray] at qr;exact qr
    have hix:=aAa (w:=w9) (k:=.i64) pT pS pR (by omega) qr2;have hnx:outP ⟨a1,b1,c1,d1,e1,f1,g1,h1⟩ (t+1)=outP ⟨a1,b1,c1,d1,e1,f1,g1,h1⟩ t ++ wby (H8.get ⟨a1,b1,c1,d1,e1,f1,g1,h1⟩ t):=rfl;generalize H8.get ⟨a1,b1,c1,d1,e1,f1,g1,h1⟩ t=x at *;simp(maxSteps:=3000000)(disch:=omega)only[push_cast,seval,hle,hix];refine h9.push4 (by omega) ?_;intro v10 w10 h10 _;simp(maxSteps:=3000000)(disch:=omega)only[push_cast,seval];exact⟨k-1,by omega,t+1,v10,by omega,by simp,by rw[hnx]; exact h10⟩
   have hlt:(0:Int)<(E.drop (64*t)).length:=by omega
   have hl9:64≤(E.drop (64*t)).length:=by omega
   generalize fo E s t=s7 at *;generalize E.drop (64*t)=B at *;have hB0:B[0]? =some (B[0]'(by omega)):=List.getElem?_eq_getElem _;obtain⟨g0,o,c,e0,hx⟩:=h7.at_ hB0;clear hB0 hx;injection e0 with q1 q2 q3;subst q1 q3;clear q2;have htk:=gH h7.1 (n:=64) (by omega) hvc;have hdr:=nA h7.1 (l:=64) (by omega) hvc;have hl64:(B.take 64).length=64:=by rw[List.length_take]; omega
   generalize B.take 64=Q at *;obtain⟨a1,b1,c1,d1,e1,f1,g1,h1⟩:=s7;have hs3:=hb7;unfold H8.row vW at hb7;dsimp only at hb7;have hcn:(64:Int)≤vc7:=by omega
   have hsx:=dF (P:=Tryz.prog) (t:=55) (w:=w7) (b:=g0) (o:=o) (n:=B.length) (c:=vc7) (k:=.i64) (h:=64) (by omega) hcn;have hsld:=htk.1.upd (Upd.drew (F:=fun _=>False)) fun _ h=>h.elim;have hdrd:=hdr.upd (Upd.drew (F:=fun _=>False)) fun _ h=>h.elim;have hb3d:=hb7.drew;have hs3d:=hs3.drew;have hu3d:=hu7.drew';have hsxd:=dF (P:=Tryz.prog) (t:=55) (w:=w7.drew) (b:=g0) (o:=o) (n:=B.length) (c:=vc7) (k:=.i64) (h:=64) (by omega) hcn;simp(maxSteps:=3000000)(disch:=omega)only[push_cast,seval,hb7.cell,hb7.free,hlt,hsx];generalize w7.drew=w3d at *;rw[←hl64] at hsld;have hcall:=uQ (s:=⟨a1,b1,c1,d1,e1,f1,g1,h1⟩) (hKT.upd hu3d (fun e=>by omega)) hl64 hsld;rw[hl64] at hcall;refine Ok.use hcall ?_;rintro v w8 ⟨rfl,hu4⟩;rw[←hnext];generalize hfo:fo E s (t+1)=s' at *;obtain⟨a2,b2,c2,d2,e2',f2,g2,h2'⟩:=s';have hb4:=hb3d.upd hu4 fun h=>h;have hsx4:=dF (P:=Tryz.prog) (t:=55) (w:=w8) (b:=g0) (o:=o) (n:=B.length) (c:=vc7) (k:=.i64) (h:=64) (by omega) hcn;unfold H8.val H8.row vW;simp(maxSteps:=3000000)(disch:=omega)only[push_cast,seval,hb7.cell,hb7.free,hb3d.cell,hb3d.free,hb4.cell,hb4.free,hlt,hsx,hsxd,hsx4];have hb:=jS (s:=⟨a2,b2,c2,d2,e2',f2,g2,h2'⟩) rfl (hs3d.upd hu4 fun h=>h);have hup8:=dP (w:=w8) (b:=u) (s:=⟨a2,b2,c2,d2,e2',f2,g2,h2'⟩);have hup:=(hu3d.trans (hu4.mono (G:=fun x=>x=u) fun _ _ h=>h.elim) fun _ _ h=>h).trans hup8 fun _ _ h=>h;have hsl:=(hdrd.upd hu4 (fun _ h=>h.elim)).upd hup8 fun _ h=>h;unfold set8 vW at hb hup hsl;dsimp only at hb hup hsl;rw[←hd64] at hsl;generalize ((((((((w8.setCell ⟨u,0,none⟩ (.int .u32 a2.toNat)).setCell ⟨u,1,none⟩ (.int .u32 b2.toNat)).setCell ⟨u,2,none⟩ (.int .u32 c2.toNat)).setCell ⟨u,3,none⟩ (.int .u32 d2.toNat)).setCell ⟨u,4,none⟩ (.int .u32 e2'.toNat)).setCell ⟨u,5,none⟩ (.int .u32 f2.toNat)).setCell ⟨u,6,none⟩ (.int .u32 g2.toNat)).setCell ⟨u,7,none⟩ (.int .u32 h2'.toNat))=w9 at *;have hall:Bx (∃t v,k-1+t=T∧[Value.slice (some ⟨g0,if vc7=64 then o else o+64,none⟩) (B.length-64) (vc7-64)] = [v]∧SlC w9 (fun x=>x=u) v (E.drop (64*t))∧Blk w9 u (fo E s t).row 228∧Upd (fun x=>x=u) w6 w9) ⟨⟩:=
    ⟨t+1,_,by omega,rfl,hsl,by rw[hfo]; exact hb,hup⟩
   exact⟨k-1,by omega,hall⟩
  | succ q=>
   have e4:8*((q+1:Nat):Int)-8=((8*q:Nat):Int):=by omega
   have e7:=aA0 (n:=N) (k:=8) (j:=7-q) (by omega);rw[show 8-1-(7-q)=q by omega,show 7-q+1=8-q by omega] at e7;rw[e4,show 8-(q+1)=7-q by omega] at *;have e6:=aAX (n:=N) (k:=q) (by omega) (by omega);have h5l:(P ++ (beL 8 N).take (7-q)).length<1000000000:=by rw[List.length_append,List.length_take,hlen]; omega
   generalize N/256 ^ q%256=x at *;obtain⟨Q,hQ⟩ : ∃Q,Q=8*q:=⟨_,rfl⟩;rw[←hQ] at e6 ⊢;have e5:IntKind.u64.wrap (Q:Int)=(Q:Int):=by rw[IntKind.wrap_u64]; omega
   have hQ0:(Q:Int)≤56:=by omega
   generalize (P ++ (beL 8 N).take (7-q)).length=n5 at h5 ⊢;simp(maxSteps:=3000000)(disch:=omega)only[push_cast,seval,e5,e6];refine h5.push h5l ?_;intro v6 w6 h6 _;simp(maxSteps:=3000000)(disch:=omega)only[push_cast,seval];exact⟨q,by omega,by omega,v6,by congr 3; omega,by rw[e7,←List.append_assoc]; exact h6⟩
 have e : ¬(L:Int).tmod 64=56:=by
  rw[uR,hL];have:=aAY (n:=rest.length) (t:=t) (by omega);omega
 simp(maxSteps:=3000000)(disch:=omega)only[push_cast,seval,e];refine h4.push (by rw[hlen]; omega) ?_;intro v6 w6 h6 _;simp(maxSteps:=3000000)(disch:=omega)only[push_cast,seval];refine⟨k-1,by omega,t+1,v6,by omega,rfl,?_⟩;rw[List.replicate_succ',←List.append_assoc];exact h6
set_option maxHeartbeats 2000000 in
theorem aAe {w:World}(hK:KT w){y:Value}{b:List Int}{F:Nat→Prop}(hy:SlC w F y b)(hl:b.length≤900000000) :
 Ok (den Tryz.prog 162 #[y] w) fun u w'=>u = .string (strOfNums (sumP b))∧Upd (fun _=>False) w w':=by
 obtain⟨ya,yc,rfl,_⟩:=id hy.2;refine aB (args:=[.slice ya b.length yc]) rs162 Tryz.func162 rfl mixed (by kernel_rfl) S6 rfl ?_;simp(maxSteps:=3000000)(disch:=omega)only[push_cast,seval];refine Ok.use aA6 ?_;rintro v w1 ⟨p,rfl,hp,hS,hu1⟩;have hK0:=hK.1;simp(maxSteps:=3000000)(disch:=omega)only[push_cast,seval];have hy1:SlC w1 (fun x=>x=p) (.slice ya b.length yc) b:=(hy.mono (G:=fun x=>x=p) fun b hb e=>by omega).go hu1 fun b hb h=>h.elim (fun h=>h.elim) fun h=>h;refine Ok.use (aA8 (hK.upd hu1 fun h=>h) hS (by omega) hy1 hl) ?_;rintro v w2 ⟨rv,hS2,hrv,hnew,hu2⟩;simp(maxSteps:=3000000)(disch:=omega)only[push_cast,seval];have hK2:=(hK.upd hu1 fun h=>h).upd hu2 fun e=>by omega
 have hs:=aAc (b:=b);have hrest:(b.drop (64*(b.length/64))).length<64:=by rw[List.length_drop]; omega
 refine Ok.use (aAd hK2 hS2 (hrv.slb (F:=fun _=>False) fun _ _ h=>h) hrest hl) ?_;rintro v w3 ⟨rfl,hu3⟩;simp(maxSteps:=3000000)(disch:=omega)only[push_cast,seval];rw[hs];exact⟨rfl,(hu1.trans hu2 fun b hb e=>by omega).trans hu3 fun _ _ h=>h⟩
end Go.Proofs.YtpgigkceoolgeaaGreatDoor.Fd
