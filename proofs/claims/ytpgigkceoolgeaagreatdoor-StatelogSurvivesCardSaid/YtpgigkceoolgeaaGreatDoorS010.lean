import Derived.Test.YtpgigkceoolgeaaGreatDoorS009
set_option linter.all false
namespace Go.Proofs.YtpgigkceoolgeaaGreatDoor.Fd
open Go
set_option maxRecDepth 100000
attribute [push_cast] qQ qR qS qT qU qV gD
structure WrV (w : World) (S : Nat → Prop) (p : Nat) (v : Value) (l : List Int) : Prop where
 head:Blk w p [v] 165
 own:Bow w v l
 fp:S p
 fv : ∀g,v.ownBlock=some g→S g∧g≠p
 bd : ∀b,S b→b<w.heap.size
def WrI (w:World)(S:Nat→Prop)(p:Nat)(l:List Int):Prop:=∃v,WrV w S p v l
theorem WrI.upd {w w':World}{S G:Nat→Prop}{p:Nat}{l:List Int}(h:WrI w S p l)(hu:Upd G w w')(hG : ∀b,S b→¬G b):WrI w' S p l:=by
 obtain⟨v,h⟩:=h;exact⟨v,h.head.upd hu (hG _ h.fp),h.own.upd hu fun g hg=>hG g (h.fv g hg).1,h.fp,h.fv,fun b hb=>Nat.lt_of_lt_of_le (h.bd b hb) hu.size⟩
theorem WrV.store {w w1 w2:World}{S:Nat→Prop}{p:Nat}{v v':Value}{l l':List Int}(h:WrV w S p v l)(hu1:Upd S w w1)(hp:Blk w1 p [v] 165)(hown:Bow w2 v' l')(hu:Upd (fun b=>v.ownBlock=some b) w1 w2)
 (hfr : ∀g,v'.ownBlock=some g→v.ownBlock=some g∨(w1.heap.size≤g∧g<w2.heap.size)):WrV (w2.setCell ⟨p,0,none⟩ v') (gr S w (w2.setCell ⟨p,0,none⟩ v')) p v' l'∧Upd S w (w2.setCell ⟨p,0,none⟩ v'):=by
 have hsz:(w2.setCell ⟨p,0,none⟩ v').heap.size=w2.heap.size:=bA;have hne : ∀g,v.ownBlock=some g→g≠p:=fun g hg=>(h.fv g hg).2;have hp2:=hp.upd hu (fun e=>hne p e rfl);have hlt:=hp.lt;have hs1:=hu1.size;have hne' : ∀g,v'.ownBlock=some g→g≠p:=by
  intro g hg;rcases hfr g hg with h1 | h1
  ·exact hne g h1
  ·omega
 have hset:Upd (fun b=>b=p) w2 (w2.setCell ⟨p,0,none⟩ v'):=Upd.set rfl;refine⟨⟨hp2.set 0 v',hown.upd hset hne',.inl h.fp,fun g hg=>⟨?_,hne' g hg⟩,?_⟩,?_⟩
 ·rcases hfr g hg with h1 | h1
  ·exact .inl (h.fv g h1).1
  ·exact .inr ⟨by omega,by omega⟩
 ·rintro b (hb | hb)
  ·have:=h.bd b hb;have:=hu.size;omega
  ·exact hb.2
 ·refine(hu1.trans hu (fun b hb e=>(h.fv b e).1)).trans hset (fun b hb e=>by rw[e]; exact h.fp)
theorem WrI.re {w w1 w':World}{S:Nat→Prop}{p:Nat}{l:List Int}(h:WrI w' (gr (gr S w w1) w1 w') p l)(hs:w.heap.size≤w1.heap.size)(hs2:w1.heap.size≤w'.heap.size):WrI w' (gr S w w') p l:=by
 obtain⟨v,h⟩:=h;have key : ∀b,gr (gr S w w1) w1 w' b→gr S w w' b:=by
  rintro b ((hb | hb) | hb)
  ·exact .inl hb
  ·exact .inr ⟨hb.1,by omega⟩
  ·exact .inr ⟨by omega,hb.2⟩
 have bd:=h.bd;exact⟨v,h.head,h.own,key _ h.fp,fun g hg=>⟨key _ (h.fv g hg).1,(h.fv g hg).2⟩,by
  rintro b (hb | hb)
  ·exact bd b (.inl (.inl hb))
  ·exact hb.2⟩
theorem Upd.gr {w w1 w':World}{S:Nat→Prop}(h:Upd S w w1)(h2:Upd (gr S w w1) w1 w'):Upd S w w':=
 h.trans h2 fun b hb hg=>hg.elim id fun x=>by omega
theorem rG {k m:Nat}(h:m<128 ^ (k+1))(h2 : ¬m<128):m/128<128 ^ k:=by
 rw[Nat.pow_succ] at h;exact Nat.div_lt_of_lt_mul (by omega)
theorem VA {m:Nat}:(m:Int).fdiv (2 ^ (min 7 IntKind.u64.bits))=((m/128:Nat):Int):=by
 rw[Int.fdiv_eq_ediv_of_nonneg _ (by decide)];show(m:Int)/(128:Int)=_;omega
set_option maxHeartbeats 1000000 in
theorem bM {w:World}{S:Nat→Prop}{p:Nat}{l:List Int}(h:WrI w S p l){n:Nat}(hn:n<2 ^ 64)(hl:l.length≤900000000) :
 Ok (den Tryz.prog 65 #[.pointer (some ⟨p,0,none⟩),.int .u64 (n:Int)] w) fun u w'=>WrI w' (gr S w w') p (l ++ encU n)∧Upd S w w':=by
 refine aB (args:=[.pointer (some ⟨p,0,none⟩),.int .u64 (n:Int)]) rs65 Tryz.func65 rfl mixed (by kernel_rfl) QG rfl ?_;simp(disch:=omega)only[push_cast,seval];have hgr:WrI w (gr S w w) p l:=by
  obtain⟨v,h⟩:=h;have bd:=h.bd;exact⟨v,h.head,h.own,.inl h.fp,fun g hg=>⟨.inl (h.fv g hg).1,(h.fv g hg).2⟩,fun b hb=>hb.elim (bd b) fun x=>x.2⟩
 refine aG (I:=fun k st w'=>Bx (∃(m:Nat) (l':List Int),k≤10∧m<128 ^ k∧st = [.int .u64 (m:Int)]∧l' ++ encU m=l ++ encU n∧l'.length+k≤900000010∧WrI w' (gr S w w') p l'∧Upd S w w') ⟨⟩) ?_ 10
  ⟨n,l,Nat.le_refl _,Nat.lt_trans hn (by decide),rfl,rfl,by omega,hgr,Upd.refl⟩
 clear h hgr hl;rintro k st w' ⟨m,l',hk10,hm,rfl,hl,hlen,⟨v,h⟩,hu⟩;have hs:=hu.size;have hm64:m<2 ^ 64∨k=10:=by
  by_cases e:k=10
  ·exact .inr e
  ·exact .inl (Nat.lt_of_lt_of_le hm (Nat.le_trans (Nat.pow_le_pow_right (by omega) (by omega:k≤9)) (by decide)))
 have hlt:=h.head.lt;have hS : ¬gr S w w' w'.heap.size:=fun hb=>by have:=h.bd _ hb; omega
 obtain⟨va,vc,hv⟩:=bY h.own;subst hv;by_cases h128:m<128
 ·have e8:IntKind.u8.wrap (m:Int)=(m:Int):=by rw[dH,Nat.mod_eq_of_lt (by omega)]
  simp(maxSteps:=3000000)(disch:=omega)only[push_cast,seval,h.head.cell,h.head.free,e8];refine bH (m:=[(m:Int)]) (h.own.upd (Upd.alloc (F:=fun _=>False)) (fun _ _ h=>h)) (gE (F:=fun _=>False) (fun h=>h)) (by simp; omega) ?_;intro v' w2 hown hu2 hfr;obtain⟨h1,h2⟩:=h.store (Upd.alloc (F:=gr S w w')) (h.head.alloc _) hown hu2 hfr;have hp2:=(h.head.alloc _).upd hu2 (fun e=>(h.fv p e).2 rfl);obtain⟨va',vc',rfl,_⟩:=hown.form;simp(maxSteps:=3000000)(disch:=omega)only[push_cast,seval,hp2.cell,hp2.free];rw[bL h128] at hl;rw[←hl];exact⟨WrI.re ⟨_,h1⟩ hs h2.size,hu.gr h2⟩
 ·obtain⟨k,rfl⟩ : ∃k',k=k'+1:=⟨k-1,by
   rcases Nat.eq_zero_or_pos k with e | e
   ·subst e; simp at hm; omega
   ·omega⟩
  have e8:IntKind.u8.wrap (m:Int)=((m%256:Nat):Int):=dH;have e9:=T8 (a:=m%256) (by omega);rw[show m%256%128=m%128 from by omega] at e9;have e7:=VA (m:=m);have hm2:=rG hm h128;have hl2:(l' ++ [((m%128+128:Nat):Int)]) ++ encU (m/128)=l ++ encU n:=by
   rw[←hl,dZ h128]; simp
  generalize m%256=r at e8 e9;generalize m%128+128=r2 at e9 hl2;generalize m/128=m2 at *;simp(maxSteps:=3000000)(disch:=omega)only[push_cast,seval,h.head.cell,h.head.free,e8,e9];refine bH (m:=[(r2:Int)]) (h.own.upd (Upd.alloc (F:=fun _=>False)) (fun _ _ h=>h)) (gE (F:=fun _=>False) (fun h=>h)) (by simp; omega) ?_;intro v' w2 hown hu2 hfr;obtain⟨h1,h2⟩:=h.store (Upd.alloc (F:=gr S w w')) (h.head.alloc _) hown hu2 hfr;have hp2:=(h.head.alloc _).upd hu2 (fun e=>(h.fv p e).2 rfl);obtain⟨va',vc',rfl,_⟩:=hown.form;simp(maxSteps:=3000000)(disch:=omega)only[push_cast,seval,hp2.cell,hp2.free,e7];exact⟨k,by omega,m2,_,by omega,hm2,rfl,hl2,by simp; omega,WrI.re ⟨_,h1⟩ hs h2.size,hu.gr h2⟩
theorem cR {w:World}{S:Nat→Prop}{p:Nat}{l:List Int}(h:WrI w S p l){F:Nat→Prop}{y:Value}{m:List Int}(hy:SlB w F y m)(hF : ∀b,S b→F b)(hm:m.length≤90000000)(hl:l.length≤900000000) :
 Ok (den Tryz.prog 120 #[.pointer (some ⟨p,0,none⟩),y] w) fun u w'=>WrI w' (gr S w w') p (l ++ encB m)∧Upd S w w':=by
 obtain⟨ya,yc,rfl,_⟩:=id hy;refine aB (args:=[.pointer (some ⟨p,0,none⟩),.slice ya m.length yc]) rs120 Tryz.func120 rfl mixed (by kernel_rfl) RZ rfl ?_;have e1:IntKind.u64.wrap (m.length:Int)=(m.length:Int):=by rw[IntKind.wrap_u64]; omega
 simp(disch:=omega)only[push_cast,seval,e1];refine Ok.use (bM h (n:=m.length) (by omega) hl) ?_;rintro u w1 ⟨⟨v,h1⟩,hu1⟩;obtain⟨va,vc,rfl,_⟩:=h1.own.form;have hx:=aL (n:=m.length) (by omega);simp(maxSteps:=3000000)(disch:=omega)only[push_cast,seval,h1.head.cell,h1.head.free];refine bH h1.own (hy.upd hu1 hF) (by rw[List.length_append]; omega) ?_;intro v' w2 hown hu2 hfr;obtain⟨h3,h4⟩:=h1.store (Upd.refl (F:=gr S w w1)) h1.head hown hu2 hfr;have hp2:=h1.head.upd hu2 (fun e=>(h1.fv p e).2 rfl);obtain⟨va',vc',rfl,_⟩:=hown.form;simp(maxSteps:=3000000)(disch:=omega)only[push_cast,seval,hp2.cell,hp2.free];have e:l ++ encB m=l ++ encU m.length ++ m:=by simp[encB]
 rw[e];exact⟨WrI.re ⟨_,h3⟩ hu1.size h4.size,hu1.gr h4⟩
theorem rH {s:ByteArray}{t:TypeId}{w:World}{P:Program}(ht:P.underlying t=some .string):lenS P t (.string s) w=some (.int .i64 s.size,w):=by
 simp[lenS,lift,Builtin.len_,run_underlying ht]; rfl
theorem lK {w:World}{S:Nat→Prop}{p:Nat}{l:List Int}(h:WrI w S p l){s:ByteArray}(hm:s.size≤90000000)(hl:l.length≤900000000) :
 Ok (den Tryz.prog 157 #[.pointer (some ⟨p,0,none⟩),.string s] w) fun u w'=>WrI w' (gr S w w') p (l ++ encB (strL s))∧Upd S w w':=by
 refine aB (args:=[.pointer (some ⟨p,0,none⟩),.string s]) rs157 Tryz.func157 rfl mixed (by kernel_rfl) S1 rfl ?_;have e1:IntKind.u64.wrap (s.size:Int)=(s.size:Int):=by rw[IntKind.wrap_u64]; omega
 simp(disch:=omega)only[push_cast,seval,e1,rH Tryz.underlying9];refine Ok.use (bM h (n:=s.size) (by omega) hl) ?_;rintro u w1 ⟨⟨v,h1⟩,hu1⟩;obtain⟨va,vc,rfl,_⟩:=h1.own.form;have hx:=aL (n:=s.size) (by omega);simp(maxSteps:=3000000)(disch:=omega)only[push_cast,seval,h1.head.cell,h1.head.free];refine qD h1.own (by rw[List.length_append]; omega) ?_;intro v' w2 hown hu2 hfr;obtain⟨h3,h4⟩:=h1.store (Upd.refl (F:=gr S w w1)) h1.head hown hu2 hfr;have hp2:=h1.head.upd hu2 (fun e=>(h1.fv p e).2 rfl);obtain⟨va',vc',rfl,_⟩:=hown.form;simp(maxSteps:=3000000)(disch:=omega)only[push_cast,seval,hp2.cell,hp2.free];have hsl:(strL s).length=s.size:=by simp[strL]
 have e:l ++ encB (strL s)=l ++ encU s.size ++ strL s:=by rw[encB,hsl]; simp
 rw[e];exact⟨WrI.re ⟨_,h3⟩ hu1.size h4.size,hu1.gr h4⟩
theorem eF {w:World}{S:Nat→Prop}{p:Nat}{l:List Int}(h:WrI w S p l)(hl:l.length≤900000000) :
 Ok (den Tryz.prog 112 #[.pointer (some ⟨p,0,none⟩)] w) fun u w'=>Bow w' u l∧(∀g,u.ownBlock=some g→w.heap.size≤g)∧Upd (fun _=>False) w w':=by
 obtain⟨v,h⟩:=h;obtain⟨va,vc,rfl,_⟩:=h.own.form;refine aB (args:=[.pointer (some ⟨p,0,none⟩)]) rs112 Tryz.func112 rfl mixed (by kernel_rfl) RQ rfl ?_;have hlt:=h.head.lt;simp(maxSteps:=3000000)(disch:=omega)only[push_cast,seval,h.head.cell,h.head.free];have hy:SlB w (fun b=>w.heap.size≤b) (.slice va l.length vc) l:=h.own.slb fun g hg hb=>by have:=h.own.lt hg; omega
 refine bH (Bow.empty (Blk.new (cs:=[]))) (hy.upd (Upd.alloc (F:=fun _=>False)) (fun _ h=>h.elim)) (by simp; omega) ?_;intro v' w2 hown hu2 hfr;simp(maxSteps:=3000000)(disch:=omega)only[push_cast,seval];refine⟨hown,fun g hg=>?_,Upd.alloc.trans hu2 fun b hb e=>?_⟩
 ·rcases hfr g hg with h1 | h1
  ·have h1:=aU h1; omega
  ·rw[aI] at h1; omega
 ·have e:=aU e; omega
theorem VB {m:Nat}:(m:Int).tmod 128=((m%128:Nat):Int):=by rw [show (128:Int)=((128:Nat):Int) from rfl,←Int.ofNat_tmod]
theorem VC {m:Nat}:(m:Int).tdiv 128=((m/128:Nat):Int):=by rw [show (128:Int)=((128:Nat):Int) from rfl,←Int.ofNat_tdiv]
set_option maxHeartbeats 1000000 in
theorem bV {w:World}{F:Nat→Prop}{y:Value}{b:List Int}(hy:SlB w F y b){n:Nat}(hn:n<2 ^ 64)(hl:b.length≤900000000) :
 Ok (den Tryz.prog 53 #[y,.int .u64 (n:Int)] w) fun u w'=>Bow w' u (b ++ encU n)∧(∀g,u.ownBlock=some g→w.heap.size≤g)∧Upd (fun _=>False) w w':=by
 obtain⟨ya,yc,rfl,_⟩:=id hy;refine aB (args:=[.slice ya b.length yc,.int .u64 (n:Int)]) rs53 Tryz.func53 rfl mixed (by kernel_rfl) P4 rfl ?_;simp(maxSteps:=3000000)(disch:=omega)only[push_cast,seval];refine bH (Bow.empty (Blk.new (cs:=[]))) (hy.upd (Upd.alloc (F:=fun _=>False)) (fun _ h=>h.elim)) (by simp; omega) ?_;intro v' w2 hown hu2 hfr;rw[List.nil_append] at hown;have hu2':Upd (fun _=>False) w w2:=Upd.alloc.trans hu2 fun b hb e=>by have e:=aU e; omega
 have hfr' : ∀g,v'.ownBlock=some g→w.heap.size≤g:=by
  intro g hg;rcases hfr g hg with h1 | h1
  ·have h1:=aU h1; omega
  ·rw[aI] at h1; omega
 clear hu2 hfr;simp(disch:=omega)only[push_cast,seval];refine aG (I:=fun k st w'=>Bx (∃(m:Nat) (l':List Int) (v:Value),k≤10∧m<128 ^ k∧st = [.int .u64 (m:Int),v]∧l' ++ encU m=b ++ encU n∧l'.length+k≤900000010∧Bow w' v l'∧(∀g,v.ownBlock=some g→w.heap.size≤g)∧Upd (fun _=>False) w w') ⟨⟩) ?_ 10
  ⟨n,b,v',Nat.le_refl _,Nat.lt_trans hn (by decide),rfl,rfl,by omega,hown,hfr',hu2'⟩
 clear hown hfr' hu2' hl;rintro k st w' ⟨m,l',v,hk10,hm,rfl,hl,hlen,hown,hfr,hu⟩;have hs:=hu.size;obtain⟨va,vc,rfl,_⟩:=hown.form;have nxt : ∀{w3:World} {v3:Value} {x:Int},Upd (fun b=>(Value.slice va l'.length vc).ownBlock=some b) (w'.alloc (.cells #[.int .u8 x] 5 (0,0))) w3→(∀g,v3.ownBlock=some g→(Value.slice va l'.length vc).ownBlock=some g∨((w'.alloc (.cells #[.int .u8 x] 5 (0,0))).heap.size≤g∧g<w3.heap.size))→
  (∀g,v3.ownBlock=some g→w.heap.size≤g)∧Upd (fun _=>False) w w3:=by
  intro w3 v3 x h1 h2;refine⟨fun g hg=>?_,(hu.alloc').trans h1 fun b hb e=>by have:=hfr b e; omega⟩;rcases h2 g hg with h3 | h3
  ·exact hfr g h3
  ·rw[aI] at h3; omega
 by_cases h128:m<128
 ·have e8:IntKind.u8.wrap (m:Int)=(m:Int):=by rw[dH,Nat.mod_eq_of_lt (by omega)]
  simp(maxSteps:=3000000)(disch:=omega)only[push_cast,seval,e8];refine bH (m:=[(m:Int)]) (hown.upd (Upd.alloc (F:=fun _=>False)) (fun _ _ h=>h)) (gE (F:=fun _=>False) (fun h=>h)) (by simp; omega) ?_;intro v3 w3 hown3 hu3 hfr3;obtain⟨h1,h2⟩:=nxt hu3 hfr3;simp(maxSteps:=3000000)(disch:=omega)only[push_cast,seval];rw[bL h128] at hl;rw[←hl];exact⟨hown3,h1,h2⟩
 ·obtain⟨k,rfl⟩ : ∃k',k=k'+1:=⟨k-1,by
   rcases Nat.eq_zero_or_pos k with e | e
   ·subst e; simp at hm; omega
   ·omega⟩
  have e1:=VB (m:=m);have e2:=VC (m:=m);have e8:IntKind.u8.wrap ((m%128:Nat):Int)=((m%128:Nat):Int):=by rw[dH,Nat.mod_eq_of_lt (by omega)]
  have e9:IntKind.u8.wrap (((m%128:Nat):Int)+128)=((m%128+128:Nat):Int):=by rw[IntKind.wrap_u8]; omega
  have hm2:=rG hm h128;have hl2:(l' ++ [((m%128+128:Nat):Int)]) ++ encU (m/128)=b ++ encU n:=by
   rw[←hl,dZ h128]; simp
  generalize m%128+128=r2 at e9 hl2;generalize m%128=r at e1 e8 e9;have hm2l:m/128<2 ^ 64:=Nat.lt_of_lt_of_le hm2 (Nat.le_trans (Nat.pow_le_pow_right (by omega) (by omega:k≤9)) (by decide));generalize m/128=m2 at *;have e10:IntKind.u64.wrap (m2:Int)=(m2:Int):=by rw[IntKind.wrap_u64]; omega
  simp(maxSteps:=3000000)(disch:=omega)only[push_cast,seval,e1,e8,e9];refine bH (m:=[(r2:Int)]) (hown.upd (Upd.alloc (F:=fun _=>False)) (fun _ _ h=>h)) (gE (F:=fun _=>False) (fun h=>h)) (by simp; omega) ?_;intro v3 w3 hown3 hu3 hfr3;obtain⟨h1,h2⟩:=nxt hu3 hfr3;simp(maxSteps:=3000000)(disch:=omega)only[push_cast,seval,e2,e10];exact⟨k,by omega,m2,_,v3,by omega,hm2,by rfl,hl2,by simp; omega,hown3,h1,h2⟩
theorem cS {w:World}{F:Nat→Prop}{y x:Value}{b m:List Int}(hy:SlB w F y b)(hx:SlB w F x m)(hl:b.length≤900000000)(hm:m.length≤90000000) :
 Ok (den Tryz.prog 97 #[y,x] w) fun u w'=>Bow w' u (b ++ encB m)∧(∀g,u.ownBlock=some g→w.heap.size≤g)∧Upd (fun _=>False) w w':=by
 obtain⟨xa,xc,rfl,_⟩:=id hx;refine aB (args:=[y,.slice xa m.length xc]) rs97 Tryz.func97 rfl mixed (by kernel_rfl) RB rfl ?_;have e1:IntKind.u64.wrap (m.length:Int)=(m.length:Int):=by rw[IntKind.wrap_u64]; omega
 simp(disch:=omega)only[push_cast,seval,e1];refine Ok.use (bV hy (n:=m.length) (by omega) hl) ?_;rintro u w1 ⟨hown,hfr,hu1⟩;have hx10:=aL (n:=m.length) (by omega);simp(maxSteps:=3000000)(disch:=omega)only[push_cast,seval];refine bH hown (hx.upd hu1 (fun _ h=>h.elim)) (by rw[List.length_append]; omega) ?_;intro v' w2 hown2 hu2 hfr2;simp(maxSteps:=3000000)(disch:=omega)only[push_cast,seval];have hs:=hu1.size;have e:b ++ encB m=b ++ encU m.length ++ m:=by simp[encB]
 rw[e];refine⟨hown2,fun g hg=>?_,hu1.trans hu2 fun b hb e=>by have:=hfr b e; omega⟩;rcases hfr2 g hg with h1 | h1
 ·exact hfr g h1
 ·omega
theorem rI {w:World}{F:Nat→Prop}{y:Value}{b:List Int}{s:ByteArray}(hy:SlB w F y b)(hl:b.length≤900000000)(hm:s.size≤90000000) :
 Ok (den Tryz.prog 139 #[y,.string s] w) fun u w'=>Bow w' u (b ++ encB (strL s))∧(∀g,u.ownBlock=some g→w.heap.size≤g)∧Upd (fun _=>False) w w':=by
 refine aB (args:=[y,.string s]) rs139 Tryz.func139 rfl mixed (by kernel_rfl) SI rfl ?_;have e1:IntKind.u64.wrap (s.size:Int)=(s.size:Int):=by rw[IntKind.wrap_u64]; omega
 simp(disch:=omega)only[push_cast,seval,e1,rH Tryz.underlying9];refine Ok.use (bV hy (n:=s.size) (by omega) hl) ?_;rintro u w1 ⟨hown,hfr,hu1⟩;have hx10:=aL (n:=s.size) (by omega);simp(maxSteps:=3000000)(disch:=omega)only[push_cast,seval];refine qD hown (by rw[List.length_append]; omega) ?_;intro v' w2 hown2 hu2 hfr2;simp(maxSteps:=3000000)(disch:=omega)only[push_cast,seval];have hs:=hu1.size;have hsl:(strL s).length=s.size:=by simp[strL]
 have e:b ++ encB (strL s)=b ++ encU s.size ++ strL s:=by rw[encB,hsl]; simp
 rw[e];refine⟨hown2,fun g hg=>?_,hu1.trans hu2 fun b hb e=>by have:=hfr b e; omega⟩;rcases hfr2 g hg with h1 | h1
 ·exact hfr g h1
 ·omega
open Go
set_option maxRecDepth 100000
structure Rd (w : World) (p : Nat) (d : List Int) (at_ : Nat) (item : Nat) (err : Int) (v : Value) : Prop where
 head:Blk w p [v,.int .i64 at_,.int .i64 item,.int .i64 err] 178
 own:Bow w v d
 ne : ∀g,v.ownBlock=some g→g≠p
 rng:Rng d
 len:d.length≤1000000
 le:at_≤d.length
theorem Rd.upd {w w':World}{p:Nat}{d:List Int}{at_ item:Nat}{err:Int}{v:Value}(h:Rd w p d at_ item err v)(hu:Upd (fun _=>False) w w'):Rd w' p d at_ item err v:=
 ⟨h.head.upd hu (fun h=>h),h.own.upd hu (fun _ _ h=>h),h.ne,h.rng,h.len,h.le⟩
theorem Rd.slb {w:World}{p:Nat}{d:List Int}{at_ item:Nat}{err:Int}{v:Value}(h:Rd w p d at_ item err v)(h0:0<d.length) : ∃g c,v = .slice (some ⟨g,0,none⟩) d.length c∧d.length≤c∧Lies w g 0 d∧g≠p∧g<w.heap.size:=by
 obtain⟨a,c,hv,hc⟩:=h.own.form;obtain⟨g,c',hv',hg,_,hl⟩:=Buf.of_own h.own h0;rw[hv] at hv';injection hv' with e1 e2 e3;subst e1;exact⟨g,c,hv,hc,hl,h.ne g hg,h.own.lt hg⟩
theorem Rd.at_ {w:World}{p:Nat}{d:List Int}{at_ item:Nat}{err:Int}{v:Value}(h:Rd w p d at_ item err v){j:Nat}{x:Int}(hx:d[j]? =some x) : ∃g c,v = .slice (some ⟨g,0,none⟩) d.length c∧w.cell? ⟨g,j,none⟩=some (.int .u8 x)∧∃y:Nat,x=y∧y<256:=by
 have hj:=(List.getElem?_eq_some_iff.1 hx).1;obtain⟨g,c,hv,_,hl,_⟩:=h.slb (by omega);refine⟨g,c,hv,?_,x.toNat,?_⟩
 ·have:=hl j (by rw[aQ]; exact hj);rw[Nat.zero_add] at this;rw[this,by8,List.getElem?_map,hx];rfl
 ·have:=h.rng x (List.mem_of_getElem? hx);omega
theorem VD (v:Value)(w:World) : ∀(a:Option Addr) (n c:Nat),v = .slice a n c→bldS Tryz.prog 178 #[(0,.slice a n c)] w=some (.agg #[.slice a n c,.int .i64 0,.int .i64 0,.int .i64 0],w):=by
 intro a n c _;kernel_rfl
theorem VE (a:Option Addr)(n c:Nat)(w:World):bldS Tryz.prog 178 #[(0,.slice a n c)] w=some (.agg #[.slice a n c,.int .i64 0,.int .i64 0,.int .i64 0],w):=VD _ w a n c rfl
attribute [push_cast] VE
theorem lL {w:World}{F:Nat→Prop}{y:Value}{d:List Int}(hy:SlB w F y d)(hr:Rng d)(hl:d.length≤1000000) :
 Ok (den Tryz.prog 77 #[y] w) fun u w'=>∃p v,u = .pointer (some ⟨p,0,none⟩)∧Rd w' p d 0 0 0 v∧w.heap.size≤p∧Upd (fun _=>False) w w':=by
 obtain⟨ya,yc,rfl,_⟩:=id hy;refine aB (args:=[.slice ya d.length yc]) rs77 Tryz.func77 rfl mixed (by kernel_rfl) QS rfl ?_;simp(maxSteps:=3000000)(disch:=omega)only[push_cast,seval];refine bH (Bow.empty (Blk.new (cs:=[]))) (hy.upd (Upd.alloc (F:=fun _=>False)) (fun _ h=>h.elim)) (by simp; omega) ?_;intro v' w2 hown hu2 hfr;rw[List.nil_append] at hown;have hu2':Upd (fun _=>False) w w2:=Upd.alloc.trans hu2 fun b hb e=>by have e:=aU e; omega
 obtain⟨va,vc,rfl,_⟩:=hown.form;simp(maxSteps:=3000000)(disch:=omega)only[push_cast,seval];have hs:=hu2'.size;refine⟨_,_,rfl,⟨Blk.new,hown.upd Upd.alloc (F:=fun _=>False) (fun _ _ h=>h),fun g hg e=>?_,hr,hl,Nat.zero_le _⟩,hs,hu2'.alloc'⟩;have:=hown.lt hg;omega
theorem eH {w:World}{p:Nat}{d:List Int}{at_ item:Nat}{err:Int}{v:Value}(h:Rd w p d at_ item err v):Ok (den Tryz.prog 105 #[.pointer (some ⟨p,0,none⟩)] w) fun u w'=>u = .int .i64 err∧w=w':=by
 obtain⟨va,vc,rfl,_⟩:=h.own.form;refine aB (args:=[.pointer (some ⟨p,0,none⟩)]) rs105 Tryz.func105 rfl mixed (by kernel_rfl) RJ rfl ?_;simp(disch:=omega)only[push_cast,seval,h.head.cell]
theorem VF {w:World}{p:Nat}{d:List Int}{at_ item:Nat}{err:Int}{v:Value}(h:Rd w p d at_ item err v):Ok (den Tryz.prog 106 #[.pointer (some ⟨p,0,none⟩)] w) fun u w'=>u = .int .i64 at_∧w=w':=by
 obtain⟨va,vc,rfl,_⟩:=h.own.form;refine aB (args:=[.pointer (some ⟨p,0,none⟩)]) rs106 Tryz.func106 rfl mixed (by kernel_rfl) RK rfl ?_;simp(disch:=omega)only[push_cast,seval,h.head.cell]
theorem rJ {w:World}{p:Nat}{d:List Int}{at_ item:Nat}{err:Int}{v:Value}(h:Rd w p d at_ item err v):Ok (den Tryz.prog 107 #[.pointer (some ⟨p,0,none⟩)] w) fun u w'=>u = .int .i64 ((d.length:Int)-at_)∧Upd (fun _=>False) w w':=by
 obtain⟨va,vc,rfl,_⟩:=h.own.form;refine aB (args:=[.pointer (some ⟨p,0,none⟩)]) rs107 Tryz.func107 rfl mixed (by kernel_rfl) RL rfl ?_;have hl:=h.len;have hle:=h.le;simp(disch:=omega)only[push_cast,seval,h.head.cell];exact Upd.drew
theorem iT {w:World}{p:Nat}{d:List Int}{at_ item:Nat}{err:Int}{v:Value}(h:Rd w p d at_ item err v) :
 Ok (den Tryz.prog 133 #[.pointer (some ⟨p,0,none⟩)] w) fun u w'=>u = .bool (decide (err=0))∧(∃item',Rd w' p d at_ item' err v)∧Upd (fun b=>b=p) w w':=by
 obtain⟨va,vc,hv,_⟩:=h.own.form;subst hv;refine aB (args:=[.pointer (some ⟨p,0,none⟩)]) rs133 Tryz.func133 rfl mixed (by kernel_rfl) SC rfl ?_;by_cases e:err=0
 ·subst e;simp(maxSteps:=3000000)(disch:=omega)only[push_cast,seval,h.head.cell,h.head.free];have hu:Upd (fun b=>b=p) w (w.setCell ⟨p,2,none⟩ (.int .i64 at_)):=Upd.set rfl;exact⟨⟨at_,h.head.set 2 _,h.own.upd hu h.ne,h.ne,h.rng,h.len,h.le⟩,hu⟩
 ·simp(maxSteps:=3000000)(disch:=omega)only[push_cast,seval,h.head.cell,h.head.free];exact⟨⟨item,h⟩,Upd.refl⟩
theorem VG {x i:Nat}(hi:i<10)(h:x*2 ^ (7*i)<2 ^ 64):IntKind.u64.wrap ((x:Int)*2 ^ (min (7*i) IntKind.u64.bits))=((x*2 ^ (7*i):Nat):Int):=by
 have e:min (7*i) IntKind.u64.bits=7*i:=by show min (7*i) 64=_; omega
 rw[e,IntKind.wrap_u64,show(x:Int)*2 ^ (7*i)=((x*2 ^ (7*i):Nat):Int) from by simp];omega
set_option maxHeartbeats 2000000 in
theorem lM {w:World}{p:Nat}{d:List Int}{at_ item:Nat}{err:Int}{v:Value}(h:Rd w p d at_ item err v) :
 Ok (den Tryz.prog 134 #[.pointer (some ⟨p,0,none⟩)] w) fun u w'=>(∃n nx ok,u = .tuple #[.int .u64 ((n:Nat):Int),.int .i64 ((nx:Nat):Int),.bool ok]∧num d at_=if ok then some (n,nx) else none)∧Upd (fun _=>False) w w':=by
 obtain⟨va,vc,hv,_⟩:=h.own.form;subst hv;have hl:=h.len;have hle:=h.le;refine aB (args:=[.pointer (some ⟨p,0,none⟩)]) rs134 Tryz.func134 rfl mixed (by kernel_rfl) SD rfl ?_;simp(disch:=omega)only[push_cast,seval];refine aG (I:=fun k st w'=>Bx (∃(i n:Nat),k+i=10∧st = [.int .u64 (n:Int),.int .i64 (i:Int)]∧n<2 ^ (7*i)∧num d at_=numF d at_ k i n∧Upd (fun _=>False) w w') ⟨⟩) ?_ 10
  ⟨0,0,rfl,rfl,by simp,rfl,Upd.refl⟩
 rintro k st w' ⟨i,n,hki,rfl,hn,hnum,hu⟩;have hh:=(h.upd hu).head;by_cases hk0:k=0
 ·subst hk0;obtain rfl:i=10:=by omega
  simp(disch:=omega)only[push_cast,seval];exact⟨⟨0,0,false,rfl,hnum⟩,hu⟩
 obtain⟨k,rfl⟩ : ∃k',k=k'+1:=⟨k-1,by omega⟩;rw[numF] at hnum;by_cases hlt:at_+i<d.length;rotate_left
 ·rw[List.getElem?_eq_none (by omega)] at hnum;simp(maxSteps:=3000000)(disch:=omega)only[push_cast,seval,hh.cell,hh.free];exact⟨⟨0,0,false,rfl,hnum⟩,hu.drew'⟩
 have hx:=List.getElem?_eq_getElem hlt;generalize d[at_+i]=x at hx;obtain⟨g,c,hv,q0,y,rfl,hy⟩:=(h.upd hu).at_ hx;injection hv with e1 _ e3;subst e1;rw[hx] at hnum;dsimp only at hnum;have e7:(7*(i:Int)).toNat=7*i:=by omega
 have ea:((at_:Int)+(i:Int)).toNat=at_+i:=by omega
 by_cases h9:i=9∧1<y
 ·rw[if_pos ⟨h9.1,by omega⟩] at hnum;obtain⟨h9',h9⟩:=h9;have h9'':(i:Int)=9:=by omega
  simp(maxSteps:=3000000)(disch:=omega)only[push_cast,seval,hh.cell,hh.free,q0,ea];exact⟨⟨0,0,false,rfl,hnum⟩,hu.drew'.drew'⟩
 rw[if_neg (by omega)] at hnum;have hX:y%128*2 ^ (7*i)<2 ^ 64:=by
  by_cases e:i=9
  ·subst e;have:y%128≤1:=by omega
   have:=Nat.mul_le_mul_right (2 ^ (7*9)) this;omega
  ·have h1:y%128*2 ^ (7*i)≤127*2 ^ 56:=Nat.mul_le_mul (by omega) (Nat.pow_le_pow_right (by omega) (by omega));omega
 have a1:=T9 hy;have a2:IntKind.u64.wrap ((y%128:Nat):Int)=((y%128:Nat):Int):=by rw[IntKind.wrap_u64]; omega
 have a3:=VG (x:=y%128) (i:=i) (by omega) hX;have a4:=UA (a:=n) (b:=y%128) (i:=7*i) (by omega) hn hX;have hn':n+y%128*2 ^ (7*i)<2 ^ (7*(i+1)):=by
  have h1:y%128*2 ^ (7*i)≤127*2 ^ (7*i):=Nat.mul_le_mul_right _ (by omega);rw[show 7*(i+1)=7*i+7 from by omega,Nat.pow_add];omega
 rw[show((y:Int).toNat%128)=y%128 from by omega] at hnum;generalize n+y%128*2 ^ (7*i)=n2 at *;generalize y%128*2 ^ (7*i)=Y at *;generalize y%128=X at *;have hi9:(i:Int)=9∨¬(i:Int)=9:=by omega
 by_cases hlt2:y<128
 ·rw[if_pos (by omega)] at hnum;by_cases h0:y=0∧0<i
  ·rw[if_pos ⟨by omega,h0.2⟩] at hnum;obtain⟨hy0,h0⟩:=h0;have hy0':(y:Int)=0:=by omega
   have hi0 : ¬(i:Int)=0:=by omega
   rcases hi9 with hi9 | hi9 <;> simp(maxSteps:=3000000)(disch:=omega)only[push_cast,seval,hh.cell,hh.free,q0,a1,a2,a3,a4,e7,ea] <;> first | exact⟨⟨n2,at_+i+1,false,by simp,hnum⟩,hu.drew'.drew'.drew'⟩ | exact⟨⟨n2,at_+i+1,false,by simp,hnum⟩,hu.drew'.drew'⟩ | exact⟨⟨_,at_+i+1,false,by simp,hnum⟩,hu.drew'⟩ | exact⟨⟨_,at_+i+1,false,by simp,hnum⟩,hu⟩
  ·rw[if_neg (by omega)] at hnum;by_cases hy0:y=0
   ·have hi0:(i:Int)=0:=by omega
    have hy0':(y:Int)=0:=by omega
    have hi9' : ¬(i:Int)=9:=by omega
    simp(maxSteps:=3000000)(disch:=omega)only[push_cast,seval,hh.cell,hh.free,q0,a1,a2,a3,a4,e7,ea] <;> first | exact⟨⟨n2,at_+i+1,true,by simp,hnum⟩,hu.drew'.drew'.drew'⟩ | exact⟨⟨n2,at_+i+1,true,by simp,hnum⟩,hu.drew'.drew'⟩ | exact⟨⟨_,at_+i+1,true,by simp,hnum⟩,hu.drew'⟩ | exact⟨⟨_,at_+i+1,true,by simp,hnum⟩,hu⟩
   ·have hy0' : ¬(y:Int)=0:=by omega
    rcases hi9 with hi9 | hi9 <;> simp(maxSteps:=3000000)(disch:=omega)only[push_cast,seval,hh.cell,hh.free,q0,a1,a2,a3,a4,e7,ea] <;> first | exact⟨⟨n2,at_+i+1,true,by simp,hnum⟩,hu.drew'.drew'.drew'⟩ | exact⟨⟨n2,at_+i+1,true,by simp,hnum⟩,hu.drew'.drew'⟩ | exact⟨⟨_,at_+i+1,true,by simp,hnum⟩,hu.drew'⟩ | exact⟨⟨_,at_+i+1,true,by simp,hnum⟩,hu⟩
 ·rw[if_neg (by omega)] at hnum;have hi9' : ¬(i:Int)=9:=by omega
  simp(maxSteps:=3000000)(disch:=omega)only[push_cast,seval,hh.cell,hh.free,q0,a1,a2,a3,a4,e7,ea] <;> first | exact⟨k,by omega,i+1,n2,by omega,by simp,hn',hnum,hu.drew'.drew'.drew'⟩ | exact⟨k,by omega,i+1,n2,by omega,by simp,hn',hnum,hu.drew'.drew'⟩ | exact⟨k,by omega,i+1,n2,by omega,by simp,hn',hnum,hu.drew'⟩ | exact⟨k,by omega,i+1,n2,by omega,by simp,hn',hnum,hu⟩
open Go
set_option maxRecDepth 100000
theorem Rd.set1 {w w':World}{p:Nat}{d:List Int}{at_ item:Nat}{err:Int}{v:Value}(h:Rd w p d at_ item err v)(hu:Upd (fun b=>b=p) w w'){at2 item2:Nat}{err2:Int}(hb:Blk w' p [v,.int .i64 at2,.int .i64 item2,.int .i64 err2] 178)(hle:at2≤d.length):Rd w' p d at2 item2 err2 v:=
 ⟨hb,h.own.upd hu h.ne,h.ne,h.rng,h.len,hle⟩
def RdB (w w':World)(p:Nat)(d:List Int)(at_:Nat)(v u:Value):Option (List Int×Nat)→Prop
 | none=>u = .slice none 0 0∧∃item',Rd w' p d at_ item' 2 v
 | some (b,nx)=>Bow w' u b∧(∀g,u.ownBlock=some g→w.heap.size≤g)∧∃item',Rd w' p d nx item' 0 v
set_option maxHeartbeats 2000000 in
theorem lN {w:World}{p:Nat}{d:List Int}{at_ item:Nat}{v:Value}(h:Rd w p d at_ item 0 v) :
 Ok (den Tryz.prog 108 #[.pointer (some ⟨p,0,none⟩)] w) fun u w'=>RdB w w' p d at_ v u (byt_ d at_)∧Upd (fun b=>b=p) w w':=by
 obtain⟨va,vc,hv,hvc⟩:=h.own.form;subst hv;have hl:=h.len;have hle:=h.le;refine aB (args:=[.pointer (some ⟨p,0,none⟩)]) rs108 Tryz.func108 rfl mixed (by kernel_rfl) RM rfl ?_;simp(disch:=omega)only[push_cast,seval];refine Ok.use (iT h) ?_;rintro u w1 ⟨rfl,⟨item1,h1⟩,hu1⟩;simp(disch:=omega)only[push_cast,seval];refine Ok.use (lM h1) ?_;rintro u w2 ⟨⟨n,nx,ok,rfl,hnum⟩,hu2⟩;have h2:=h1.upd hu2;have hu12:Upd (fun b=>b=p) w w2:=hu1.trans hu2 (fun _ _ h=>h.elim);cases ok
 ·have hb:byt_ d at_=none:=by unfold byt_; rw[hnum]; rfl
  rw[hb];simp(maxSteps:=3000000)(disch:=omega)only[push_cast,seval,h2.head.cell,h2.head.free];have hu3:Upd (fun b=>b=p) w2 (w2.setCell ⟨p,3,none⟩ (.int .i64 2)):=Upd.set rfl;exact⟨⟨rfl,item1,h2.set1 hu3 (h2.head.set 3 _) hle⟩,hu12.trans hu3 (fun _ _ h=>h)⟩
 simp only[if_true] at hnum;have hnx:=iR hnum;have hn64:=U5 hnum;have e1:IntKind.u64.wrap ((d.length:Int)-nx)=((d.length-nx:Nat):Int):=by rw[IntKind.wrap_u64]; omega
 have hsub:((d.length-nx:Nat):Int)=(d.length:Int)-nx:=by omega
 by_cases hbad:d.length-nx<n
 ·have hb:byt_ d at_=none:=by unfold byt_; rw[hnum]; dsimp only; rw[if_pos hbad]
  rw[hb];rw[hsub] at e1;have hbad':(d.length:Int)-nx<n:=by omega
  simp(maxSteps:=3000000)(disch:=omega)only[push_cast,seval,h2.head.cell,h2.head.free,e1];have hu3:Upd (fun b=>b=p) w2 (w2.setCell ⟨p,3,none⟩ (.int .i64 2)):=Upd.set rfl;exact⟨⟨rfl,item1,(h2.set1 hu3 (h2.head.set 3 _) hle)⟩,(hu12.trans hu3 (fun _ _ h=>h))⟩
 have hb:byt_ d at_=some ((d.drop nx).take n,nx+n):=by unfold byt_; rw[hnum]; dsimp only; rw[if_neg hbad]
 rw[hb];rw[hsub] at e1;obtain⟨g,c,hv,hc,hli,hgp,hglt⟩:=h2.slb (by omega);injection hv with e2 _ e4;subst e2;subst e4;have hgood : ¬(d.length:Int)-nx<n:=by omega
 have e5:IntKind.i64.wrap (n:Int)=(n:Int):=by rw[IntKind.wrap_i64]; omega
 have hu3:Upd (fun b=>b=p) w2 (w2.setCell ⟨p,1,none⟩ (.int .i64 ((nx+n:Nat):Int))):=Upd.set rfl;have h3:=h2.set1 hu3 (h2.head.set 1 _) (by omega);have e6:((nx+n:Nat):Int)=(nx:Int)+(n:Int):=by omega
 have hsl:SlB (w2.setCell ⟨p,1,none⟩ (.int .i64 ((nx+n:Nat):Int))) (fun b=>b=p) (.slice (some ⟨g,0,none⟩) d.length vc) d:=⟨_,_,rfl,fun _=>⟨g,0,rfl,hli.upd hu3 hglt hgp,hgp⟩⟩;have hsl2:=gC hsl (l:=nx) (n:=n) (by omega) hc;rw[e6] at hsl2 h3 hu3;generalize hw3:w2.setCell ⟨p,1,none⟩ (.int .i64 ((nx:Int)+(n:Int)))=w3 at *;have hp3:=h3.head.alloc (.cells #[] 5 (0,0));have hs2:w3.heap.size=w2.heap.size:=by rw[←hw3]; exact bA
 have ez:((nx:Int)+(n:Int)).toNat-nx=n:=by omega
 rw[Nat.zero_add] at hsl2;simp(maxSteps:=3000000)(disch:=omega)only[push_cast,seval,h2.head.cell,h2.head.free,e1,e5,h3.head.cell,hw3,hp3.cell,ez];have hs3:=hu3.size;have hln:((d.drop nx).take n).length=n:=by rw[List.length_take,List.length_drop]; omega
 refine bH (Bow.empty ((Blk.new (cs:=[])).drew)) ((hsl2.upd (Upd.alloc (F:=fun _=>False)) (fun _ h=>h.elim)).upd (Upd.drew (F:=fun _=>False)) (fun _ h=>h.elim)) (by rw[hln]; simp; omega) ?_;intro v' w5 hown hu5 hfr;rw[List.nil_append] at hown;obtain⟨va',vc',rfl,_⟩:=hown.form;have hu35:Upd (fun _=>False) w3 w5:=Upd.alloc.drew'.trans hu5 fun b hb e=>by have e:=aU e; omega
 have h5:=h3.upd hu35;simp(maxSteps:=3000000)(disch:=omega)only[push_cast,seval,h5.head.cell,h3.head.cell,hp3.cell,e5,ez];have hs1:=hu12.size;refine⟨⟨hown,fun g' hg=>?_,item1,h5⟩,(hu12.trans hu3 (fun _ _ h=>h)).trans hu35 (fun _ _ h=>h.elim)⟩;rcases hfr g' hg with h6 | h6
 ·have:=aU h6; omega
 ·have:((w3.alloc (.cells #[] 5 (0,0))).drew).heap.size=w3.heap.size+1:=aI;omega
def RdT (w':World)(p:Nat)(d:List Int)(at_:Nat)(v u:Value):Option (List Int×Nat)→Prop
 | none=>u = .string (strOfNums [])∧∃item',Rd w' p d at_ item' 2 v
 | some (b,nx)=>u = .string (strOfNums b)∧∃item',Rd w' p d nx item' 0 v
theorem rK {w:World}{p:Nat}{d:List Int}{at_ item:Nat}{v:Value}(h:Rd w p d at_ item 0 v) :
 Ok (den Tryz.prog 104 #[.pointer (some ⟨p,0,none⟩)] w) fun u w'=>RdT w' p d at_ v u (byt_ d at_)∧Upd (fun b=>b=p) w w':=by
 refine aB (args:=[.pointer (some ⟨p,0,none⟩)]) rs104 Tryz.func104 rfl mixed (by kernel_rfl) RI rfl ?_;simp(disch:=omega)only[push_cast,seval];refine Ok.use (lN h) ?_;rintro u w1 ⟨hr,hu⟩;cases hb:byt_ d at_ with
 | none=>
  rw[hb] at hr;obtain⟨rfl,hr⟩:=hr;simp(disch:=omega)only[push_cast,seval,aN (l:=[]) (w:=w1) (v:=.slice none 0 0) (F:=fun _=>False) ⟨none,0,rfl,fun h=>absurd rfl h⟩];exact⟨⟨rfl,hr⟩,hu⟩
 | some x=>
  obtain⟨b,nx⟩:=x;rw[hb] at hr;obtain⟨hown,_,hr⟩:=hr;simp(disch:=omega)only[push_cast,seval,aN (hown.slb (F:=fun _=>False) fun _ _ h=>h)];exact⟨⟨rfl,hr⟩,hu⟩
def RdU (w':World)(p:Nat)(d:List Int)(at_:Nat)(v u:Value):Option (Nat×Nat)→Prop
 | none=>∃item',Rd w' p d at_ item' 2 v
 | some (n,nx)=>u = .int .u64 (n:Int)∧∃item',Rd w' p d nx item' 0 v
theorem rL {w:World}{p:Nat}{d:List Int}{at_ item:Nat}{v:Value}(h:Rd w p d at_ item 0 v) :
 Ok (den Tryz.prog 82 #[.pointer (some ⟨p,0,none⟩)] w) fun u w'=>RdU w' p d at_ v u (num d at_)∧(∃x,u = .int .u64 x)∧Upd (fun b=>b=p) w w':=by
 obtain⟨va,vc,hv,hvc⟩:=h.own.form;subst hv;have hle:=h.le;refine aB (args:=[.pointer (some ⟨p,0,none⟩)]) rs82 Tryz.func82 rfl mixed (by kernel_rfl) pU rfl ?_;simp(disch:=omega)only[push_cast,seval];refine Ok.use (iT h) ?_;rintro u w1 ⟨rfl,⟨item1,h1⟩,hu1⟩;simp(disch:=omega)only[push_cast,seval];refine Ok.use (lM h1) ?_;rintro u w2 ⟨⟨n,nx,ok,rfl,hnum⟩,hu2⟩;have h2:=h1.upd hu2;have hu12:Upd (fun b=>b=p) w w2:=hu1.trans hu2 (fun _ _ h=>h.elim);cases ok
 ·simp only[Bool.false_eq_true,if_false] at hnum;rw[hnum];simp(maxSteps:=3000000)(disch:=omega)only[push_cast,seval,h2.head.cell,h2.head.free];have hu3:Upd (fun b=>b=p) w2 (w2.setCell ⟨p,3,none⟩ (.int .i64 2)):=Upd.set rfl;exact⟨⟨item1,h2.set1 hu3 (h2.head.set 3 _) hle⟩,⟨_,rfl⟩,hu12.trans hu3 (fun _ _ h=>h)⟩
 ·simp only[if_true] at hnum;have hnx:=iR hnum;rw[hnum];simp(maxSteps:=3000000)(disch:=omega)only[push_cast,seval,h2.head.cell,h2.head.free];have hu3:Upd (fun b=>b=p) w2 (w2.setCell ⟨p,1,none⟩ (.int .i64 nx)):=Upd.set rfl;exact⟨⟨rfl,item1,h2.set1 hu3 (h2.head.set 1 _) hnx.2⟩,⟨_,rfl⟩,hu12.trans hu3 (fun _ _ h=>h)⟩
theorem VH {w:World}{p:Nat}{d:List Int}{at_ item:Nat}{v:Value}(h:Rd w p d at_ item 2 v) :
 Ok (den Tryz.prog 82 #[.pointer (some ⟨p,0,none⟩)] w) fun u w'=>(∃x,u = .int .u64 x)∧(∃item',Rd w' p d at_ item' 2 v)∧Upd (fun b=>b=p) w w':=by
 refine aB (args:=[.pointer (some ⟨p,0,none⟩)]) rs82 Tryz.func82 rfl mixed (by kernel_rfl) pU rfl ?_;simp(disch:=omega)only[push_cast,seval];refine Ok.use (iT h) ?_;rintro u w1 ⟨rfl,h1,hu1⟩;simp(disch:=omega)only[push_cast,seval];exact⟨⟨_,rfl⟩,h1,hu1⟩
open Go
set_option maxRecDepth 100000
open Go
set_option maxRecDepth 100000
attribute [push_cast] qW qX
theorem rM {w:World}{F:Nat→Prop}{v:Value}{l:List Int}(h:SlB w F v l)(hl:l.length≤1000000):Ok (den Tryz.prog 103 #[v] w) fun u w'=>u = .bool (zer0 l)∧Upd (fun _=>False) w w':=by
 obtain⟨a,c,rfl,hli⟩:=id h;refine aB (args:=[.slice a l.length c]) rs103 Tryz.func103 rfl mixed (by kernel_rfl) RH rfl ?_;simp(disch:=omega)only[push_cast,seval];refine aG (I:=fun k st w'=>Bx (∃i,k+i=l.length∧st = [.int .i64 (i:Int)]∧Upd (fun _=>False) w w'∧zer0 (l.take i)=true) ⟨⟩) ?_ l.length ⟨0,rfl,rfl,Upd.refl,by simp[zer0]⟩;rintro k st w' ⟨i,hki,rfl,hu,hz⟩;by_cases hk0:k=0
 ·obtain rfl:i=l.length:=by omega
  rw[List.take_length] at hz;simp(disch:=omega)only[push_cast,seval];exact⟨by rw[hz],hu⟩
 have hi:i<l.length:=by omega
 have hx:=List.getElem?_eq_getElem hi;have hxm:=List.getElem_mem hi;generalize l[i]=x at hx hxm;have q:=(h.upd hu (fun _ h=>h.elim));obtain⟨a',c',hv,hl2⟩:=q;injection hv with e1 _ _;subst e1;obtain⟨g,o,rfl,h2,_⟩:=hl2 (by intro e; rw[e] at hi; simp at hi);have q0:w'.cell? ⟨g,o+i,none⟩=some (.int .u8 x):=by rw[h2 i (by rw[aQ]; exact hi),by8,List.getElem?_map,hx]; rfl
 by_cases hx0:x=0
 ·simp(disch:=omega)only[push_cast,seval,q0];refine⟨k-1,by omega,i+1,by omega,by simp,hu,?_⟩;rw[zer0,List.take_add_one,hx,List.all_append,←zer0,hz];simp[hx0]
 ·simp(disch:=omega)only[push_cast,seval,q0];refine⟨?_,hu⟩;have:zer0 l=false:=by
   rw[←Bool.not_eq_true];intro h;unfold zer0 at h;have:=List.all_eq_true.1 h x hxm;simp at this;exact hx0 this
  rw[this]
open Go
set_option maxRecDepth 100000
theorem VI {d b:List Int}{at_ nx:Nat}(hr:Rng d)(h:byt_ d at_=some (b,nx)):Rng b:=by
 unfold byt_ at h;split at h
 ·cases h
 ·split at h
  ·cases h
  ·cases h;exact(hr.drop _).take _
set_option maxHeartbeats 1000000 in
theorem rN {w:World}{F:Nat→Prop}{v:Value}{d:List Int}(h:SlB w F v d)(hr:Rng d)(hl:d.length≤1000000) :
 Ok (den Tryz.prog 56 #[v] w) fun u w'=>(∃u0 ok,u = .tuple #[u0,.bool ok]∧match spl d with | none=>ok=false∧u0 = .slice none 0 0 | some ls=>ok=true∧SlR w' (fun b=>b<w.heap.size) u0 ls)∧Upd (fun _=>False) w w':=by
 refine aB (args:=[v]) rs56 Tryz.func56 rfl mixed (by kernel_rfl) P7 rfl ?_;simp(disch:=omega)only[push_cast,seval];refine Ok.use (lL h hr (by omega)) ?_;rintro u w1 ⟨p,rv,rfl,hR,hp,hu1⟩;simp(disch:=omega)only[push_cast,seval];refine aG (I:=fun k st w'=>Bx (∃(at_ item:Nat) (acc:List (List Int)) (v':Value),d.length≤at_+k∧st = [v']∧Rd w' p d at_ item 0 rv∧spl d=(splF d k at_).map (acc ++ ·)∧acc.length≤at_∧RowB w' (fun b=>b<w1.heap.size) v' acc∧Upd (fun b=>b=p) w1 w') ⟨⟩) ?_ d.length
  ⟨0,0,[],_,by omega,rfl,hR,by simp[spl],Nat.le_refl _,RowB.nil,Upd.refl⟩
 have hs1:=hu1.size;have hpl:=hR.head.lt;have hrv : ∀g,rv.ownBlock=some g→g<w1.heap.size:=fun g hg=>hR.own.lt hg;clear hR;rintro k st w' ⟨at_,item,acc,v',hk,rfl,hR,hspl,hal,hrow,hu⟩;have huw:Upd (fun _=>False) w w':=hu1.trans hu fun b hb e=>by omega
 obtain⟨oa,oc,rfl⟩:=hrow.form;have hle:=hR.le;simp(disch:=omega)only[push_cast,seval];refine Ok.use (rJ hR) ?_;rintro u w2 ⟨rfl,hu2⟩;have hR2:=hR.upd hu2;by_cases hend:at_<d.length;rotate_left
 ·rw[rB hend] at hspl;have he : ¬(0:Int)<(d.length:Int)-at_:=by omega
  simp(disch:=omega)only[push_cast,seval];rw[hspl];refine⟨⟨_,true,rfl,?_⟩,huw.trans hu2 (fun _ _ h=>h)⟩;simp only[Option.map_some,List.append_nil];exact⟨trivial,(hrow.go hu2 (F':=fun b=>b<w1.heap.size) fun b _ h=>h.elim False.elim id).slr.go (Upd.refl (F:=fun _=>False)) fun b _ h=>h.elim False.elim fun h=>by omega⟩
 have he:(0:Int)<(d.length:Int)-at_:=by omega
 simp(disch:=omega)only[push_cast,seval];obtain⟨k',rfl,hsF⟩:=rC hend hk;rw[hsF] at hspl;refine Ok.use (lN hR2) ?_;rintro u w3 ⟨hb,hu3⟩;have hs3:=hu3.size;have hs2:=hu2.size;have hs':=hu.size;cases hby:byt_ d at_ with
 | none=>
  rw[hby] at hb hspl;obtain⟨rfl,item',hR3⟩:=hb;simp(disch:=omega)only[push_cast,seval];refine Ok.use (eH hR3) ?_;rintro u w4 ⟨rfl,rfl⟩;simp(disch:=omega)only[push_cast,seval];rw[hspl];exact⟨⟨_,false,rfl,rfl,rfl⟩,(huw.trans hu2 (fun _ _ h=>h)).trans hu3 fun b hb e=>by omega⟩
 | some x=>
  obtain⟨b,nx⟩:=x;have hnx:=U7 hby
  rw[hby] at hb hspl;obtain⟨hown,hfr,item',hR3⟩:=hb;obtain⟨ba,bc,rfl,_⟩:=hown.form;simp(disch:=omega)only[push_cast,seval];refine Ok.use (eH hR3) ?_;rintro u w4 ⟨rfl,rfl⟩;simp(disch:=omega)only[push_cast,seval];have hrow3:RowB w3 (fun b=>b<w1.heap.size) (.slice oa acc.length oc) acc:=(hrow.go hu2 (F':=fun b=>b<w1.heap.size) fun b _ h=>h.elim False.elim id).go hu3 fun b _ h=>h.elim (fun e=>by omega) id;have hsl:SlB w3 (fun b=>b<w1.heap.size∨(Value.slice oa acc.length oc).ownBlock=some b) (.slice ba b.length bc) b:=hown.slb fun g hg h=>by
   have h1:=hfr g hg;rcases h with h | h
   ·omega
   ·have:=hrow.lt h; omega
  refine lH (hrow3.go (Upd.alloc (F:=fun _=>False)) fun b _ h=>h.elim False.elim id) (qY hsl fun h=>by
   rcases h with h | h
   ·omega
   ·have:=hrow.lt h; omega) (by simp; omega) (fun b hb=>by rw[aI]; omega) ?_
  intro v4 w4 hrow4 hu4 hfr4;obtain⟨va4,vc4,rfl⟩:=hrow4.form;simp(disch:=omega)only[push_cast,seval];have hlt : ∀g,(Value.slice oa acc.length oc).ownBlock=some g→g≠p:=fun g hg e=>by
   obtain⟨us,_,_,_,h4⟩:=hrow;exact h4 g hg (by omega)
  have hu34:Upd (fun b=>(Value.slice oa acc.length oc).ownBlock=some b) w3 w4:=Upd.alloc.trans hu4 (fun _ _ h=>h);refine⟨k',by omega,nx,item',acc ++ [b],_,by omega,by simp,?_,?_,by simp; omega,hrow4,?_⟩
  ·exact⟨hR3.head.upd hu34 fun e=>hlt p e rfl,hR3.own.upd hu34 fun g hg e=>by
    obtain⟨us,_,_,_,h4⟩:=hrow;exact h4 g e (hrv g hg),hR3.ne,hR3.rng,hR3.len,hR3.le⟩
  ·rw[hspl];simp[Option.map_map];rfl
  ·refine((hu.trans hu2 (fun _ _ h=>h.elim)).trans hu3 (fun _ _ h=>h)).trans hu34 fun b' hb' e=>?_;obtain⟨us,_,_,_,h4⟩:=hrow;exact absurd hb' (h4 b' e)
end Go.Proofs.YtpgigkceoolgeaaGreatDoor.Fd
