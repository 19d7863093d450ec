import Derived.Test.YtpgigkceoolgeaaGreatDoorS012
set_option linter.all false
namespace Go.Proofs.YtpgigkceoolgeaaGreatDoor.Fd
open Go
set_option maxRecDepth 100000
structure Wt where
 o:List Int
 d:List Int
structure Cmd where
 client:Int
 seq:Int
 kind:Int
 ws:List Wt
 rep:Int
 tag:List Int
structure Rid where
 client:Int
 number:Int
 tag:List Int
structure Clm where
 rr:Int
 rl:Int
 rn:Int
 reads:List Rid
 base:List Cmd
 conf:List Cmd
 count:Int
 root:List Int
structure Akk where
 rep:Int
 tag:List Int
structure Crt where
 c:Clm
 acks:List Akk
structure Bas where
 steps:List Crt
 taken:List Cmd
structure Con where
 st:List Cmd
 bas:Bas
 life:Int
def zig (n:Int):Nat:=if 0≤n then (2*n).toNat else (-2*n-1).toNat
def encI (n:Int):List Int:=encU (zig n)
def encW (x:Wt):List Int:=encB x.o ++ encB x.d
def encC0 (c:Cmd):List Int:=encI c.client ++ encI c.seq ++ encI c.kind ++ encU c.ws.length ++ c.ws.flatMap encW ++ encI c.rep
def encC (c:Cmd):List Int:=encC0 c ++ encB c.tag
def encL (l:List Cmd):List Int:=encU l.length ++ l.flatMap fun c=>encB (encC c)
def encR (r:Rid):List Int:=encI r.client ++ encI r.number ++ encB r.tag
def claimL:List Int:=[99,108,97,105,109]
def encK (c:Clm):List Int:=encB claimL ++ encI c.rr ++ encI c.rl ++ encI c.rn ++ encU c.reads.length ++ c.reads.flatMap encR ++ encL c.base ++ encL c.conf ++ encI c.count ++ encB c.root
def encA (a:Akk):List Int:=encI a.rep ++ encB a.tag
def encT (s:Crt):List Int:=encB (encK s.c) ++ encU s.acks.length ++ s.acks.flatMap encA
def encBs (b:Bas):List Int:=encU b.steps.length ++ b.steps.flatMap encT ++ encL b.taken
def encCn (c:Con):List Int:=encU c.life.toNat ++ encBs c.bas ++ encL c.st
def I64 (n:Int):Prop:=-9223372036854775808≤n∧n<9223372036854775808
theorem dJ {n:Int}(h:I64 n):zig n<2 ^ 64:=by
 obtain⟨h1,h2⟩:=h;unfold zig;split <;> omega
theorem bQ {n:Int}(h:I64 n):(encI n).length≤10:=aL (dJ h)
theorem cB {n:Int}:Rng (encI n):=bC _
theorem bR {l:List Int}(h:Rng l):Rng (encB l):=(bC _).append h
theorem sL {k:IntKind}{n:Int}{w:World}:cnvS Tryz.prog 2 106 (.int k n) w=some (.int .u64 (IntKind.u64.wrap n),w):=bK (by kernel_rfl) (by kernel_rfl)
theorem V8 {k:IntKind}{n:Int}{w:World}:cnvS Tryz.prog 106 2 (.int k n) w=some (.int .i64 (IntKind.i64.wrap n),w):=bK (by kernel_rfl) (by kernel_rfl)
attribute [push_cast] sL V8
theorem iX {x:Nat}(h:x<2 ^ 64):(BitVec.ofInt 64 (x:Int)).toNat=x:=by
 rw[BitVec.toNat_ofInt];omega
theorem sM {x:Nat}(h:x<2 ^ 64):(BitVec.ofInt 64 (x:Int) ^^^ BitVec.ofInt 64 18446744073709551615).toNat=18446744073709551615-x:=by
 have e:BitVec.ofInt 64 18446744073709551615=BitVec.allOnes 64:=by decide
 rw[e,BitVec.xor_allOnes,BitVec.toNat_not,iX h]
theorem sN {x:Nat}(h:x<2 ^ 64):(BitVec.ofInt 64 (x:Int) ^^^ BitVec.ofInt 64 0).toNat=x:=by
 have e:BitVec.ofInt 64 0=0#64:=by decide
 rw[e,BitVec.xor_zero,iX h]
theorem gJ:IntKind.u64.bits=64:=rfl
theorem sO:IntKind.i64.bits=64:=rfl
theorem V9 {n:Int}(h:I64 n):n.fdiv (2 ^ min 63 IntKind.i64.bits)=if 0≤n then 0 else -1:=by
 obtain⟨h1,h2⟩:=h;rw[sO,show min 63 64=63 from rfl,Int.fdiv_eq_ediv_of_nonneg _ (by decide)];rw[show(2:Int) ^ 63=9223372036854775808 from by decide];split <;> omega
theorem WA {n:Int}(h:I64 n):IntKind.u64.wrap ((BitVec.ofInt IntKind.u64.bits (IntKind.u64.wrap (IntKind.u64.wrap n*2 ^ min 1 IntKind.u64.bits)) ^^^ BitVec.ofInt IntKind.u64.bits (IntKind.u64.wrap (n.fdiv (2 ^ min 63 IntKind.i64.bits)))).toNat:Int)=(zig n:Int):=by
 rw[V9 h,gJ,show min 1 64=1 from rfl];obtain⟨h1,h2⟩:=h;simp only[IntKind.wrap_u64];unfold zig;by_cases h0:0≤n
 ·rw[if_pos h0,if_pos h0];obtain⟨m,rfl⟩ : ∃m:Nat,n=(m:Int):=⟨n.toNat,by omega⟩;have e:((m:Int)%18446744073709551616*2 ^ 1)%18446744073709551616=((2*m:Nat):Int):=by omega
  rw[e,show(0:Int)%18446744073709551616=0 from rfl,sN (by omega)];omega
 ·rw[if_neg h0,if_neg h0];obtain⟨m,hm⟩ : ∃m:Nat,n = -1-(m:Int):=⟨(-1-n).toNat,by omega⟩;subst hm;have e:((-1-(m:Int))%18446744073709551616*2 ^ 1)%18446744073709551616=((18446744073709551614-2*m:Nat):Int):=by omega
  rw[e,show(-1:Int)%18446744073709551616=18446744073709551615 from rfl,sM (by omega)];omega
theorem WB {n:Int}(h:I64 n):IntKind.i64.wrap ((BitVec.ofInt IntKind.i64.bits (IntKind.i64.wrap (((zig n:Nat):Int).fdiv (2 ^ min 1 IntKind.u64.bits))) ^^^ BitVec.ofInt IntKind.i64.bits (IntKind.i64.wrap (-(IntKind.i64.wrap (IntKind.u64.wrap ((BitVec.ofInt IntKind.u64.bits ((zig n:Nat):Int) &&& BitVec.ofInt IntKind.u64.bits 1).toNat:Int)))))).toNat:Int)=n:=by
 have hz:=dJ h;rw[gJ,sO,show min 1 64=1 from rfl,Int.fdiv_eq_ediv_of_nonneg _ (by decide)];obtain⟨h1,h2⟩:=h;have ea:(BitVec.ofInt 64 ((zig n:Nat):Int) &&& BitVec.ofInt 64 1).toNat=zig n%2:=by
  rw[BitVec.toNat_and,iX hz,show(BitVec.ofInt 64 1).toNat=1 from by decide,Nat.and_one_is_mod]
 rw[ea];simp only[IntKind.wrap_u64,IntKind.wrap_i64];unfold zig at hz ⊢;by_cases h0:0≤n
 ·rw[if_pos h0] at hz ⊢;obtain⟨m,rfl⟩ : ∃m:Nat,n=(m:Int):=⟨n.toNat,by omega⟩;rw[show(2*(m:Int)).toNat=2*m from by omega];have e1:(((2*m:Nat):Int)/2 ^ 1+9223372036854775808)%18446744073709551616-9223372036854775808=((m:Nat):Int):=by omega
  have e2:(-((((2*m%2:Nat):Int)%18446744073709551616+9223372036854775808)%18446744073709551616-9223372036854775808)+9223372036854775808)%18446744073709551616-9223372036854775808=0:=by omega
  rw[e1,e2,sN (by omega)];omega
 ·rw[if_neg h0] at hz ⊢;obtain⟨m,hm⟩ : ∃m:Nat,n = -1-(m:Int):=⟨(-1-n).toNat,by omega⟩;subst hm;rw[show(-2*(-1-(m:Int))-1).toNat=2*m+1 from by omega];have e1:(((2*m+1:Nat):Int)/2 ^ 1+9223372036854775808)%18446744073709551616-9223372036854775808=((m:Nat):Int):=by omega
  have e2:(-((((((2*m+1)%2:Nat):Int)%18446744073709551616+9223372036854775808)%18446744073709551616)-9223372036854775808)+9223372036854775808)%18446744073709551616-9223372036854775808 = -1:=by omega
  have e3:BitVec.ofInt 64 (-1)=BitVec.ofInt 64 18446744073709551615:=by decide
  rw[e1,e2,e3,sM (by omega)];omega
theorem eI {w:World}{S:Nat→Prop}{p:Nat}{l:List Int}(h:WrI w S p l){n:Int}(hn:I64 n)(hl:l.length≤900000000) :
 Ok (den Tryz.prog 123 #[.pointer (some ⟨p,0,none⟩),.int .i64 n] w) fun u w'=>WrI w' (gr S w w') p (l ++ encI n)∧Upd S w w':=by
 refine aB (args:=[.pointer (some ⟨p,0,none⟩),.int .i64 n]) rs123 Tryz.func123 rfl mixed (by kernel_rfl) R2 rfl ?_;simp(disch:=omega)only[push_cast,seval];rw[WA hn];refine Ok.use (bM h (dJ hn) hl) ?_;rintro u w1 ⟨h1,hu1⟩;simp(disch:=omega)only[push_cast,seval];exact⟨h1,hu1⟩
def Has (d:List Int)(at_:Nat)(l:List Int):Prop:=∀j,j<l.length→d[at_+j]? =l[j]?
theorem Has.left {d l m:List Int}{at_:Nat}(h:Has d at_ (l ++ m)):Has d at_ l:=fun j hj=>by rw [h j (by rw [List.length_append]; omega),List.getElem?_append_left hj]
theorem Has.right {d l m:List Int}{at_:Nat}(h:Has d at_ (l ++ m)):Has d (at_+l.length) m:=fun j hj=>by
 have:=h (l.length+j) (by rw[List.length_append]; omega);rw[List.getElem?_append_right (by omega),Nat.add_sub_cancel_left] at this;rw[Nat.add_assoc]; exact this
theorem Has.all {d:List Int}:Has d 0 d:=fun j _=>by rw [Nat.zero_add]
theorem Has.le {d l:List Int}{at_:Nat}(h:Has d at_ l)(ha:at_≤d.length):at_+l.length≤d.length:=by
 rcases Nat.eq_zero_or_pos l.length with h0 | h0
 ·omega
 ·have:=h (l.length-1) (by omega);rw[List.getElem?_eq_getElem (by omega:l.length-1<l.length)] at this;have:=(List.getElem?_eq_some_iff.1 this).1;omega
theorem sP {w:World}{p:Nat}{d:List Int}{at_ item:Nat}{v:Value}(h:Rd w p d at_ item 0 v){n:Nat}(hn:n<2 ^ 64)(hh:Has d at_ (encU n)) :
 Ok (den Tryz.prog 82 #[.pointer (some ⟨p,0,none⟩)] w) fun u w'=>u = .int .u64 (n:Int)∧(∃item',Rd w' p d (at_+(encU n).length) item' 0 v)∧Upd (fun b=>b=p) w w':=by
 refine(rL h).mono ?_;rintro u w' ⟨hr,_,hu⟩;rw[eD hn hh] at hr;exact⟨hr.1,hr.2,hu⟩
theorem WE {w:World}{p:Nat}{d:List Int}{at_ item:Nat}{v:Value}(h:Rd w p d at_ item 0 v){b:List Int}(hb:b.length<2 ^ 64)(hh:Has d at_ (encB b)) :
 Ok (den Tryz.prog 108 #[.pointer (some ⟨p,0,none⟩)] w) fun u w'=>Bow w' u b∧(∀g,u.ownBlock=some g→w.heap.size≤g)∧(∃item',Rd w' p d (at_+(encB b).length) item' 0 v)∧Upd (fun b=>b=p) w w':=by
 refine(lN h).mono ?_;rintro u w' ⟨hr,hu⟩;rw[iS hb hh] at hr;exact⟨hr.1,hr.2.1,hr.2.2,hu⟩
theorem WF {w:World}{p:Nat}{d:List Int}{at_ item:Nat}{v:Value}(h:Rd w p d at_ item 0 v){b:List Int}(hb:b.length<2 ^ 64)(hh:Has d at_ (encB b)) :
 Ok (den Tryz.prog 104 #[.pointer (some ⟨p,0,none⟩)] w) fun u w'=>u = .string (strOfNums b)∧(∃item',Rd w' p d (at_+(encB b).length) item' 0 v)∧Upd (fun b=>b=p) w w':=by
 refine(rK h).mono ?_;rintro u w' ⟨hr,hu⟩;rw[iS hb hh] at hr;exact⟨hr.1,hr.2,hu⟩
theorem sQ {P:Program}{w:World}{k:IntKind}{n:Int}:unS (P:=P) .neg (.int k n) w=some (.int k (k.wrap (-n)),w):=by
 have h:(Op.unary .neg (.int k n)).run P w = .ok (.int k (k.wrap (0-n))) w:=rfl;unfold unS lift;rw[h,Int.zero_sub]
theorem WH {w:World}{p:Nat}{d:List Int}{at_ item:Nat}{v:Value}(h:Rd w p d at_ item 0 v){n:Int}(hn:I64 n)(hh:Has d at_ (encI n)) :
 Ok (den Tryz.prog 131 #[.pointer (some ⟨p,0,none⟩)] w) fun u w'=>u = .int .i64 n∧(∃item',Rd w' p d (at_+(encI n).length) item' 0 v)∧Upd (fun b=>b=p) w w':=by
 refine aB (args:=[.pointer (some ⟨p,0,none⟩)]) rs131 Tryz.func131 rfl mixed (by kernel_rfl) SA rfl ?_;simp(disch:=omega)only[push_cast,seval];refine Ok.use (sP h (dJ hn) hh) ?_;rintro u w1 ⟨rfl,h1,hu1⟩;simp(disch:=omega)only[push_cast,seval,sQ,WB hn];exact⟨h1,hu1⟩
theorem WI {w:World}{p:Nat}{d:List Int}{at_ item:Nat}{v:Value}(h:Rd w p d at_ item 0 v){n:Nat}(hn:n<2 ^ 60)(hh:Has d at_ (encU n))(hle:at_+(encU n).length+n≤d.length) :
 Ok (den Tryz.prog 129 #[.pointer (some ⟨p,0,none⟩)] w) fun u w'=>u = .int .i64 (n:Int)∧(∃item',Rd w' p d (at_+(encU n).length) item' 0 v)∧Upd (fun b=>b=p) w w':=by
 have hnum:=eD (d:=d) (at_:=at_) (n:=n) (by omega) hh;have hlen:=h.len;obtain⟨va,vc,hv,hvc⟩:=h.own.form;subst hv;refine aB (args:=[.pointer (some ⟨p,0,none⟩)]) rs129 Tryz.func129 rfl mixed (by kernel_rfl) R8 rfl ?_;simp(disch:=omega)only[push_cast,seval];refine Ok.use (iT h) ?_;rintro u w1 ⟨rfl,⟨item1,h1⟩,hu1⟩;simp(disch:=omega)only[push_cast,seval];refine Ok.use (lM h1) ?_;rintro u w2 ⟨⟨m,nx,ok,rfl,hnm⟩,hu2⟩;rw[hnum] at hnm;cases ok
 ·simp at hnm
 simp only[if_true,Option.some.injEq,Prod.mk.injEq] at hnm;obtain⟨rfl,rfl⟩:=hnm;have h2:=h1.upd hu2;have hu12:Upd (fun b=>b=p) w w2:=hu1.trans hu2 (fun _ _ h=>h.elim);have e1:IntKind.u64.wrap ((d.length:Int)-((at_:Int)+((encU n).length:Int)))=((d.length-(at_+(encU n).length):Nat):Int):=by rw[IntKind.wrap_u64]; omega
 have e2:IntKind.i64.wrap (n:Int)=(n:Int):=by rw[IntKind.wrap_i64]; omega
 generalize hq:d.length-(at_+(encU n).length)=q at *;have e3 : ¬(q:Int)<(n:Int):=by omega
 simp(maxSteps:=3000000)(disch:=omega)only[push_cast,seval,h2.head.cell,h2.head.free,e1,e2,e3];have hu3:Upd (fun b=>b=p) w2 (w2.setCell ⟨p,1,none⟩ (.int .i64 ((at_:Int)+((encU n).length:Int)))):=Upd.set rfl;exact⟨⟨item1,h2.set1 hu3 (h2.head.set 1 _) (by omega)⟩,hu12.trans hu3 (fun _ _ h=>h)⟩
open Go
set_option maxRecDepth 100000
theorem WrI.wide {w:World}{S S':Nat→Prop}{p:Nat}{l:List Int}(h:WrI w S p l)(h1 : ∀b,S b→S' b)(h2 : ∀b,S' b→b<w.heap.size):WrI w S' p l:=by
 obtain⟨v,h⟩:=h;exact⟨v,h.head,h.own,h1 _ h.fp,fun g hg=>⟨h1 _ (h.fv g hg).1,(h.fv g hg).2⟩,h2⟩
theorem WrI.bd {w:World}{S:Nat→Prop}{p:Nat}{l:List Int}(h:WrI w S p l) : ∀b,S b→b<w.heap.size:=by
 obtain⟨v,h⟩:=h;exact h.bd
theorem WrI.quiet {w w':World}{S:Nat→Prop}{p:Nat}{l:List Int}(h:WrI w S p l)(hu:Upd (fun _=>False) w w'):WrI w' S p l:=h.upd hu fun _ _ h=>h
theorem WJ {S:Nat→Prop}{w w1 w':World}(hs : ∀b,S b→b<w.heap.size)(h:w.heap.size≤w1.heap.size)(h2:w1.heap.size≤w'.heap.size) : ∀b,gr (gr S w w1) w1 w' b→gr S w w' b:=by
 rintro b ((hb | hb) | hb)
 ·exact .inl hb
 ·exact .inr ⟨hb.1,by omega⟩
 ·exact .inr ⟨by omega,hb.2⟩
theorem a6 {w w1 w':World}{S:Nat→Prop}{p:Nat}{l:List Int}(hS : ∀b,S b→b<w.heap.size)(u1:Upd S w w1)(h:WrI w' (gr (gr S w w1) w1 w') p l)(u2:Upd (gr S w w1) w1 w'):WrI w' (gr S w w') p l∧Upd S w w':=
 ⟨h.wide (WJ hS u1.size u2.size) (fun b hb=>hb.elim (fun h=>Nat.lt_of_lt_of_le (hS b h) (Nat.le_trans u1.size u2.size)) fun h=>h.2),u1.gr u2⟩
theorem a7 {S:Nat→Prop}{w w':World} : ∀b,b<w.heap.size→S b∨gr S w w' b→S b:=fun b hb h=>h.elim id fun h=>h.elim id fun h=>by omega
def WtW (x:Wt):Prop:=Rng x.o∧Rng x.d
def CmdW (c:Cmd):Prop:=I64 c.client∧I64 c.seq∧I64 c.kind∧I64 c.rep∧(∀x,x∈c.ws→WtW x)∧Rng c.tag
def eW:Elt Wt:=⟨129,2,fun w F x cs=>∃dv,cs = [.string (strOfNums x.o),dv]∧SlB w F dv x.d∧WtW x⟩
theorem SlB.one {w:World}{F:Nat→Prop}{v:Value}{l:List Int}(h:SlB w F v l):v.oneCell'=true:=by
 obtain⟨a,c,rfl,_⟩:=h;rfl
theorem SlB.form {w:World}{F:Nat→Prop}{v:Value}{l:List Int}(h:SlB w F v l) : ∃a c,v = .slice a l.length c:=by
 obtain⟨a,c,h,_⟩:=h;exact⟨a,c,h⟩
theorem aR:EltOk eW where
 pos:=by decide
 len:=by rintro w F x cs ⟨dv,rfl,_⟩; rfl
 one:=by
  rintro w F x cs ⟨dv,rfl,h,_⟩ u hu;simp at hu;rcases hu with rfl | rfl
  ·rfl
  ·exact h.one
 go:=by
  rintro w w' F F' G x cs ⟨dv,rfl,h,h2⟩ hu hG;exact⟨dv,rfl,h.go hu hG,h2⟩
def eC:Elt Cmd:=⟨76,6,fun w F c cs=>∃wv tv,cs = [.int .i64 c.client,.int .i64 c.seq,.int .i64 c.kind,wv,.int .i64 c.rep,tv]∧SlD eW w F wv c.ws∧SlB w F tv c.tag∧CmdW c⟩
theorem aA:EltOk eC where
 pos:=by decide
 len:=by rintro w F x cs ⟨wv,tv,rfl,_⟩; rfl
 one:=by
  rintro w F x cs ⟨wv,tv,rfl,h1,h2,_⟩ u hu;simp at hu;rcases hu with rfl | rfl | rfl | rfl | rfl | rfl
  ·rfl
  ·rfl
  ·rfl
  ·exact h1.one
  ·rfl
  ·exact h2.one
 go:=by
  rintro w w' F F' G x cs ⟨wv,tv,rfl,h1,h2,h3⟩ hu hG;exact⟨wv,tv,rfl,h1.go aR hu hG,h2.go hu hG,h3⟩
theorem bW {l:List Int}:(strOfNums l).size=l.length:=by
 show(List.map _ l).toArray.size=_;simp
theorem iY {l:List Int}(h:Rng l):strL (strOfNums l)=l:=by
 unfold strL strOfNums;simp only[List.map_map];conv=>rhs; rw[←List.map_id l]
 refine List.map_congr_left fun x hx=>?_;have:=h x hx;simp;omega
theorem bD {n:Nat}(h:n<2 ^ 62):IntKind.u64.wrap (n:Int)=(n:Int):=by rw [IntKind.wrap_u64]; omega
theorem WK {n:Int}(h:I64 n):IntKind.i64.wrap n=n:=by
 obtain⟨h1,h2⟩:=h;rw[IntKind.wrap_i64]; omega
theorem bE {α:Type}{f:α→List Int}{l:List α}{i:Nat}{x:α}(h:l[i]? =some x):(l.take (i+1)).flatMap f=(l.take i).flatMap f ++ f x:=by
 obtain⟨hlt,rfl⟩:=List.getElem?_eq_some_iff.1 h;rw[List.take_succ_eq_append_getElem hlt,List.flatMap_append];simp
theorem WM {α:Type}{f:α→List Int}{l:List α}{i:Nat}:((l.take i).flatMap f).length≤(l.flatMap f).length:=by
 conv=>rhs; rw[←List.take_append_drop i l,List.flatMap_append,List.length_append]
 omega
theorem aT {α:Type}{f:α→List Int}(hf : ∀x,1≤(f x).length) : ∀{l:List α},l.length≤(l.flatMap f).length
 | []=>by simp
 | x :: l=>by
  have:=hf x;have:=aT hf (l:=l);rw[List.flatMap_cons,List.length_append,List.length_cons];omega
theorem aV {α:Type}{f:α→List Int}{l:List α}{i:Nat}{x:α}(h:l[i]? =some x):((l.take i).flatMap f).length+(f x).length≤(l.flatMap f).length:=by
 have h1:=bE (f:=f) h;have h2:=WM (f:=f) (l:=l) (i:=i+1);rw[h1,List.length_append] at h2;exact h2
set_option maxHeartbeats 1000000 in
theorem WN {w:World}{S:Nat→Prop}{p:Nat}{l:List Int}(h:WrI w S p l){c:Cmd}{cs:List Value}(hc:eC.C w S c cs)(hl:l.length+(encC0 c).length≤80000000) :
 Ok (den Tryz.prog 154 #[.pointer (some ⟨p,0,none⟩),.agg cs.toArray] w) fun u w'=>WrI w' (gr S w w') p (l ++ encC0 c)∧Upd S w w':=by
 refine aB (args:=[.pointer (some ⟨p,0,none⟩),.agg cs.toArray]) rs154 Tryz.func154 rfl mixed (by kernel_rfl) SY rfl ?_;obtain⟨wv,tv,rfl,hws,htag,hi1,hi2,hi3,hi4,hww,_⟩:=hc;obtain⟨wa,wc,rfl,_⟩:=hws.form;obtain⟨ta,tc,rfl⟩:=htag.form;have hlen:(encC0 c).length=(encI c.client).length+(encI c.seq).length+(encI c.kind).length+(encU c.ws.length).length+(c.ws.flatMap encW).length+(encI c.rep).length:=by simp only[encC0,List.length_append]
 have hS:=h.bd;rw[aD];generalize hKs:KS _ _ _ _ _=Ks;simp(disch:=omega)only[push_cast,seval];have b0:=Blk.new (w:=w) (cs:=[.int .i64 c.client,.int .i64 c.seq,.int .i64 c.kind,.slice wa c.ws.length wc,.int .i64 c.rep,.slice ta c.tag.length tc]) (E:=76);have u0:Upd (fun _=>False) w (w.alloc (.cells [.int .i64 c.client,.int .i64 c.seq,.int .i64 c.kind,.slice wa c.ws.length wc,.int .i64 c.rep,.slice ta c.tag.length tc].toArray 76 (0,0))):=Upd.alloc;generalize w.alloc (.cells [.int .i64 c.client,.int .i64 c.seq,.int .i64 c.kind,.slice wa c.ws.length wc,.int .i64 c.rep,.slice ta c.tag.length tc].toArray 76 (0,0))=w0 at *;have h0:=h.quiet u0;have hws0:=hws.go (F':=S) aR u0 fun b _ h=>h.elim (fun h=>h.elim) id;have bB : ¬S w.heap.size:=fun h=>by have:=hS _ h; omega
 have hS0:=h0.bd;clear hws h htag;subst hKs;rw[aC];rw[aD];generalize hKs:KS _ _ _ _ _=Ks;simp(disch:=omega)only[push_cast,seval,b0.cell];refine Ok.use (eI h0 hi1 (by omega)) ?_;rintro v w1 ⟨h1,u1⟩;have b1:=b0.upd u1 bB;simp(disch:=omega)only[push_cast,seval];subst hKs;rw[aC];rw[aD];generalize hKs:KS _ _ _ _ _=Ks;simp(disch:=omega)only[push_cast,seval,b1.cell];refine Ok.use (eI h1 hi2 (by rw[List.length_append]; omega)) ?_;rintro v w2 ⟨h2,u2⟩;obtain⟨h2,u2⟩:=a6 hS0 u1 h2 u2;have b2:=b0.upd u2 bB;clear h1 u1 b1;simp(disch:=omega)only[push_cast,seval];subst hKs;rw[aC];rw[aD];generalize hKs:KS _ _ _ _ _=Ks;simp(disch:=omega)only[push_cast,seval,b2.cell];refine Ok.use (eI h2 hi3 (by simp only[List.length_append]; omega)) ?_;rintro v w3 ⟨h3,u3⟩;obtain⟨h3,u3⟩:=a6 hS0 u2 h3 u3;have b3:=b0.upd u3 bB;clear h2 u2 b2;simp(disch:=omega)only[push_cast,seval];subst hKs;rw[aC];have hwl:c.ws.length≤(c.ws.flatMap encW).length:=aT fun x=>by have:=aS x.o.length; simp[encW,encB]; omega
 rw[aD];generalize hKs:KS _ _ _ _ _=Ks;simp(disch:=omega)only[push_cast,seval,b3.cell];rw[bD (by omega)];refine Ok.use (bM h3 (by omega) (by simp only[List.length_append]; omega)) ?_;rintro v w4 ⟨h4,u4⟩;obtain⟨h4,u4⟩:=a6 hS0 u3 h4 u4;have b4:=b0.upd u4 bB;clear h3 u3 b3;simp(disch:=omega)only[push_cast,seval];subst hKs;rw[aC];simp(disch:=omega)only[push_cast,seval,b4.cell];have hws4:=hws0.go (F':=gr S w0 w4) aR u4 a7;refine aG (I:=fun k st w'=>Bx (∃i:Nat,k+i=c.ws.length∧st = [.int .i64 (i:Int)]∧WrI w' (gr S w0 w') p (l ++ encI c.client ++ encI c.seq ++ encI c.kind ++ encU c.ws.length ++ (c.ws.take i).flatMap encW)∧Upd S w0 w') ⟨⟩) ?_ c.ws.length ⟨0,rfl,rfl,by simpa using h4,u4⟩;clear h4 u4 b4 hws4;rintro k st w5 ⟨i,hk,rfl,h5,u5⟩;have b5:=b0.upd u5 bB;have hws5:=hws0.go (F':=gr S w0 w5) aR u5 a7;by_cases hk0:k=0
 ·obtain rfl:i=c.ws.length:=by omega
  rw[List.take_length] at h5;simp(disch:=omega)only[push_cast,seval,b5.cell];refine Ok.use (eI h5 hi4 (by simp only[List.length_append]; omega)) ?_;rintro v w6 ⟨h6,u6⟩;obtain⟨h6,u6⟩:=a6 hS0 u5 h6 u6;simp(disch:=omega)only[push_cast,seval];have e:l ++ encI c.client ++ encI c.seq ++ encI c.kind ++ encU c.ws.length ++ c.ws.flatMap encW ++ encI c.rep=l ++ encC0 c:=by simp[encC0]
  rw[e] at h6;have s06:=u6.size;have s00:=u0.size;refine⟨h6.wide (fun b hb=>hb.elim .inl fun h=>.inr ⟨by omega,h.2⟩) (fun b hb=>hb.elim (fun h=>by have:=hS b h; omega) fun h=>h.2),(u0.mono fun _ _ h=>h.elim).trans u6 fun _ _ h=>h⟩
 have hi:i<c.ws.length:=by omega
 have hxi:=List.getElem?_eq_getElem hi;have hwx:=hww _ (List.getElem_mem hi);generalize c.ws[i]=x at *;obtain⟨xb,xo,xc,xcs,hv,_,hxF,⟨dv,rfl,hd,_⟩,hcell⟩:=hws5.at_ hxi;injection hv with e1 _ e3;subst e1;subst e3;obtain⟨da,dc,rfl⟩:=hd.form;have q0:=hcell 0 (by decide);have q1:=hcell 1 (by decide);simp only[eW,List.getElem?_cons_zero,List.getElem?_cons_succ,Nat.add_zero] at q0 q1;simp(disch:=omega)only[push_cast,seval,b5.cell,q0,q1];have c6:=((Blk.new (w:=w5) (cs:=[.string ByteArray.empty,.slice none 0 0]) (E:=129)).set 0 (.string (strOfNums x.o))).set 1 (.slice da x.d.length dc);have u6:Upd (fun _=>False) w5 (((w5.alloc (.cells [.string ByteArray.empty,.slice none 0 0].toArray 129 (0,0))).setCell ⟨w5.heap.size,0,none⟩ (.string (strOfNums x.o))).setCell ⟨w5.heap.size,1,none⟩ (.slice da x.d.length dc)):=(Upd.alloc.setNew (Nat.le_refl _)).setNew (Nat.le_refl _);simp only[List.set_cons_succ,List.set_cons_zero] at c6;generalize ((w5.alloc (.cells [.string ByteArray.empty,.slice none 0 0].toArray 129 (0,0))).setCell ⟨w5.heap.size,0,none⟩ (.string (strOfNums x.o))).setCell ⟨w5.heap.size,1,none⟩ (.slice da x.d.length dc)=w6 at *;have h6:=h5.quiet u6;have hd6:=hd.go (F':=gr S w0 w5) u6 fun b _ h=>h.elim (fun h=>h.elim) id;have b6:=b5.upd u6 (fun h=>h);have hle:=aV (f:=encW) hxi;have hlx:(encW x).length=(encB x.o).length+(encB x.d).length:=by simp[encW]
 have hlo:(encB x.o).length=(encU x.o.length).length+x.o.length:=by simp[encB]
 have hld:(encB x.d).length=(encU x.d.length).length+x.d.length:=by simp[encB]
 have hS5:=h6.bd;refine Ok.use (lK h6 (s:=strOfNums x.o) (by rw[bW]; omega) (by simp only[List.length_append]; omega)) ?_;rintro v w7 ⟨h7,u7⟩;rw[iY hwx.1] at h7;have hX : ¬gr S w0 w5 w5.heap.size:=fun h=>by
  have:=h5.bd _ h;omega
 have c7:=c6.upd u7 hX;have b7:=b6.upd u7 fun h=>h.elim bB fun h=>by have:=b0.lt; omega
 have hd7:=hd6.go (F':=gr (gr S w0 w5) w6 w7) u7 a7;simp(disch:=omega)only[push_cast,seval,c7.cell];refine Ok.use (cR h7 hd7 (fun _ h=>h) (by omega) (by simp only[List.length_append]; omega)) ?_;rintro v w8 ⟨h8,u8⟩;obtain⟨h8,u8⟩:=a6 hS5 u7 h8 u8;simp(disch:=omega)only[push_cast,seval];have s05:=u5.size;have s56:=u6.size;have s68:=u8.size;refine⟨k-1,by omega,i+1,by omega,by simp,?_,(u5.trans u6 fun _ _ h=>h.elim).trans u8 fun b hb h=>h.elim id fun h=>by omega⟩;rw[bE hxi];have e:l ++ encI c.client ++ encI c.seq ++ encI c.kind ++ encU c.ws.length ++ (c.ws.take i).flatMap encW ++ encB x.o ++ encB x.d=l ++ encI c.client ++ encI c.seq ++ encI c.kind ++ encU c.ws.length ++ ((c.ws.take i).flatMap encW ++ encW x):=by simp[encW]
 rw[←e];refine h8.wide (fun b hb=>?_) (fun b hb=>?_)
 ·rcases hb with (hb | hb) | hb
  ·exact .inl hb
  ·exact .inr ⟨hb.1,by omega⟩
  ·exact .inr ⟨by omega,hb.2⟩
 ·rcases hb with hb | hb
  ·have:=hS0 b hb; omega
  ·exact hb.2
theorem WrI.new {w:World}:WrI (w.alloc (.cells #[.slice none 0 0] 165 (0,0))) (fun b=>b=w.heap.size) w.heap.size []:=
 ⟨.slice none 0 0,Blk.new (cs:=[.slice none 0 0]),Bow.nil,rfl,fun g hg=>(by cases hg),fun b hb=>by rw[hb,aI]; omega⟩
theorem sR {c:Cmd}:(encC c).length=(encC0 c).length+(encB c.tag).length:=by simp [encC]
set_option maxHeartbeats 1000000 in
theorem iZ {w:World}{F:Nat→Prop}{c:Cmd}{cs:List Value}(hc:eC.C w F c cs)(hl:(encC c).length≤80000000) :
 Ok (den Tryz.prog 121 #[.agg cs.toArray] w) fun u w'=>Bow w' u (encC c)∧(∀g,u.ownBlock=some g→w.heap.size≤g)∧Upd (fun _=>False) w w':=by
 refine aB (args:=[.agg cs.toArray]) rs121 Tryz.func121 rfl mixed (by kernel_rfl) R0 rfl ?_;have hlen:=sR (c:=c);have hlt:(encB c.tag).length=(encU c.tag.length).length+c.tag.length:=by simp[encB]
 have hc':=hc;obtain⟨wv,tv,rfl,hws,htag,hi1,hi2,hi3,hi4,hww,_⟩:=hc;obtain⟨wa,wc,rfl,_⟩:=hws.form;obtain⟨ta,tc,rfl⟩:=htag.form;rw[aD];generalize hKs:KS _ _ _ _ _=Ks;simp(disch:=omega)only[push_cast,seval];have b0:=Blk.new (w:=w) (cs:=[.int .i64 c.client,.int .i64 c.seq,.int .i64 c.kind,.slice wa c.ws.length wc,.int .i64 c.rep,.slice ta c.tag.length tc]) (E:=76);have u0:Upd (fun _=>False) w (w.alloc (.cells [.int .i64 c.client,.int .i64 c.seq,.int .i64 c.kind,.slice wa c.ws.length wc,.int .i64 c.rep,.slice ta c.tag.length tc].toArray 76 (0,0))):=Upd.alloc;generalize w.alloc (.cells [.int .i64 c.client,.int .i64 c.seq,.int .i64 c.kind,.slice wa c.ws.length wc,.int .i64 c.rep,.slice ta c.tag.length tc].toArray 76 (0,0))=w0 at *;subst hKs;rw[aC];rw[aD];generalize hKs:KS _ _ _ _ _=Ks;simp(disch:=omega)only[push_cast,seval];have h1:=WrI.new (w:=w0);have u1:Upd (fun _=>False) w0 (w0.alloc (.cells #[.slice none 0 0] 165 (0,0))):=Upd.alloc;have s0:w.heap.size<w0.heap.size:=b0.lt;have b1:=b0.upd u1 (fun h=>h);have hc1:=aA.go (F':=fun b=>b=w0.heap.size) hc' (u0.trans u1 fun _ _ h=>h) fun b hb h=>h.elim (fun h=>h.elim) fun h=>by omega
 have ht1:=htag.go (F':=fun b=>b=w0.heap.size) (u0.trans u1 fun _ _ h=>h) fun b hb h=>h.elim (fun h=>h.elim) fun h=>by omega
 have s01:(w0.alloc (.cells #[.slice none 0 0] 165 (0,0))).heap.size=w0.heap.size+1:=aI;generalize w0.alloc (.cells #[.slice none 0 0] 165 (0,0))=w1 at *;subst hKs;rw[aC];rw[aD];generalize hKs:KS _ _ _ _ _=Ks;simp(disch:=omega)only[push_cast,seval,b1.cell];refine Ok.use (WN h1 hc1 (by simp; omega)) ?_;rintro v w2 ⟨h2,u2⟩;have b2:=b1.upd u2 (by omega);have ht2:=ht1.go (F':=gr (fun b=>b=w0.heap.size) w1 w2) u2 a7;simp(disch:=omega)only[push_cast,seval];subst hKs;rw[aC];rw[aD];generalize hKs:KS _ _ _ _ _=Ks;simp(disch:=omega)only[push_cast,seval,b2.cell];refine Ok.use (cR h2 ht2 (fun _ h=>h) (by omega) (by simp; omega)) ?_;rintro v w3 ⟨h3,u3⟩;obtain⟨h3,u3⟩:=a6 h1.bd u2 h3 u3;simp(disch:=omega)only[push_cast,seval];subst hKs;rw[aC];simp(disch:=omega)only[push_cast,seval];refine Ok.use (eF h3 (by simp; omega)) ?_;rintro v w4 ⟨h4,hf4,u4⟩;obtain⟨va,vc,rfl,_⟩:=h4.form;have e : [] ++ encC0 c ++ encB c.tag=encC c:=by simp[encC]
 rw[e] at h4 ⊢;simp(disch:=omega)only[push_cast,seval];have s13:=u3.size;exact⟨h4,fun g hg=>by have:=hf4 g hg; omega,(((u0.trans u1 fun _ _ h=>h).trans u3 fun b hb h=>by omega).trans u4 fun _ _ h=>h)⟩
end Go.Proofs.YtpgigkceoolgeaaGreatDoor.Fd
