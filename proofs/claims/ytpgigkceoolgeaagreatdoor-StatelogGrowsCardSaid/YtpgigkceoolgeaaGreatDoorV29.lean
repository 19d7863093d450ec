import Derived.Test.YtpgigkceoolgeaaGreatDoorV28
set_option linter.all false
namespace Go.Proofs.YtpgigkceoolgeaaGreatDoor.Fd
open Go
set_option maxRecDepth 100000
def cload (c:CS):List Int×Nat:=if c.gen=0 then ([],0) else (c.newest,c.gen)
theorem YU {w:World}{D J:Nat→Prop}{p cb:Nat}{s:DS×CS}(h:CW w D J p cb s)(hl:s.2.newest.length≤900000000)(hg:s.2.gen≤4611686018427387904) :
 Ok (den Tryz.prog 20 #[.pointer (some ⟨cb,0,none⟩)] w) fun v w'=>∃u,v = .tuple #[u,.int .i64 ((cload s.2).2:Int)]∧Fr w w' u (cload s.2).1:=by
 obtain⟨d,c⟩:=s;obtain⟨first,n,slot,newest,gen,down⟩:=c
 obtain⟨sa,sc,hb1,hn1,_⟩:=h.at_;dsimp only at hb1 hn1 hl hg;refine aB (args:=[.pointer (some ⟨cb,0,none⟩)]) rs20 Tryz.func20 rfl mixed (by kernel_rfl) MU rfl ?_;unfold cload;by_cases hg0:gen=0
 ·subst hg0;simp(maxSteps:=3000000)(disch:=omega)only[push_cast,seval,hb1.cell];exact⟨_,rfl,Fr.nil⟩
 ·have hgi : ¬(gen:Int)=0:=by omega
  dsimp only;rw[if_neg hg0];have hlt:=hb1.lt;have hbd:=hb1.drew;have hua:Upd (fun _=>False) w (w.alloc (.cells #[] 5 (0,0))).drew:=(Upd.alloc (F:=fun _=>False)).drew';have hba:=hb1.upd hua fun h=>h;have hba2:=hba.drew;have h6:=(Fr.empty (w:=w)).quiet (Upd.drew (F:=fun _=>False));simp(maxSteps:=3000000)(disch:=omega)only[push_cast,seval,hb1.cell,hgi,hbd.cell,hba.cell];generalize (w.alloc (.cells #[] 5 (0,0))).drew=w6 at *;refine h6.app (h6.old hn1.1) (by rw[List.length_nil]; omega) ?_;intro v7 w7 h7 _;rw[List.nil_append] at h7;obtain⟨va7,vc7,rfl,_⟩:=h7.own.form;have hb7:=hb1.upd h7.upd fun h=>h;simp(maxSteps:=3000000)(disch:=omega)only[push_cast,seval,hb7.cell,hba.cell,hb1.cell,hbd.cell];exact⟨_,rfl,h7⟩
theorem YV {w:World}{F G:Nat→Prop}{u v:Value}{l m:List Int}(hu:SlB w F u l)(hv:SlB w G v m)(h1:Rng l)(h2:Rng m) :
 Ok (den Tryz.prog 95 #[u,v] w) fun r w'=>r = .bool (decide (l=m))∧Upd (fun _=>False) w w':=by
 obtain⟨a1,c1,rfl,_⟩:=id hu;obtain⟨a2,c2,rfl,_⟩:=id hv;refine aB (args:=[.slice a1 l.length c1,.slice a2 m.length c2]) rs95 Tryz.func95 rfl mixed (by kernel_rfl) OE rfl ?_;have e1:=aR hu;have e2:=aR hv;have e3:=kN h1 h2;simp(maxSteps:=3000000)(disch:=omega)only[push_cast,seval,e1,e2,e3];exact Upd.refl
def numL (l:List Int):Nat:=l.foldl (fun n x=>n*256+x.toNat) 0
theorem YW {P:Program}{w:World}{t el:TypeId}{s:Nat}{a:Option Addr}{n c:Nat}{k:IntKind}{h:Int}(ht:elt P t=some el)(hs:siz P el=some s)(h0:0≤h)(h1:h≤c):slcS P t (.slice a n c) none (some (.int k h)) w=some (.slice a h.toNat c,w):=by
 have hu:=fP ht;have he:P.elem t=el:=by simp[Program.elem,hu]
 have hu':P.underlying t=some (.slice (P.elem t)):=by rw[he]; exact hu
 unfold slcS lift;rw[run_sliceAt_slice w t _ _ _ _ hu',run_slice_h w t _ _ _ hu' _ _ h0 h1,he,cV hs];cases a with
 | none=>simp[sliced]
 | some a=>
  have ha:a.add 0=a:=rfl;simp[sliced,ha]
theorem YX {w:World}{F:Nat→Prop}{a:Option Addr}{c:Nat}{d:List Int}(h:SlC w F (.slice a d.length c) d){n:Nat}(hn:n≤d.length):SlC w F (.slice a n c) (d.take n):=by
 have hl:(d.take n).length=n:=by rw[List.length_take]; omega
 obtain⟨a',c',e,hc⟩:=h.2;injection e with e1 e2 e3;subst e1 e3;by_cases h0:d = []
 ·subst h0;have hn0:n=0:=by simpa using hn
  subst hn0;exact⟨⟨a,c,rfl,fun h=>absurd rfl h⟩,a,c,rfl,by simp⟩
 ·obtain⟨_,_,e,hli⟩:=id h.1;injection e with e1 e2 e3;obtain⟨b,o,e4,_⟩:=hli h0;rw[←e1] at e4;subst e4;exact fW h.1 hn hc
theorem YY {m y:Nat}(hm:m<2 ^ 54)(hy:y<256):IntKind.i64.wrap ((BitVec.ofInt IntKind.i64.bits (IntKind.i64.wrap ((m:Int)*2 ^ min 8 IntKind.i64.bits)) ||| BitVec.ofInt IntKind.i64.bits (y:Int)).toNat:Int)=((m*256+y:Nat):Int):=by
 have e1:IntKind.i64.wrap ((m:Int)*2 ^ min 8 IntKind.i64.bits)=(m:Int)*256:=by
  show IntKind.i64.wrap ((m:Int)*2 ^ 8)=_;rw[IntKind.wrap_i64]; omega
 rw[e1];have e3:(BitVec.ofInt 64 ((m:Int)*256) ||| BitVec.ofInt 64 (y:Int)).toNat=m*256+y:=by
  have e:(m:Int)*256=((m*256:Nat):Int):=by omega
  rw[e,dP,dP,BitVec.toNat_or,BitVec.toNat_ofNat,BitVec.toNat_ofNat,Nat.mod_eq_of_lt (by omega),Nat.mod_eq_of_lt (by omega)];have:=Nat.two_pow_add_eq_or_of_lt (i:=8) (b:=y) (by omega) m;rw[Nat.mul_comm m 256];exact this.symm
 show IntKind.i64.wrap ((BitVec.ofInt 64 ((m:Int)*256) ||| BitVec.ofInt 64 (y:Int)).toNat:Int)=_;rw[e3,IntKind.wrap_i64];omega
theorem YZ {m y:Nat}(hm:m<2 ^ 56)(hy:y<256):IntKind.u64.wrap ((BitVec.ofInt IntKind.u64.bits (IntKind.u64.wrap ((m:Int)*2 ^ min 8 IntKind.u64.bits)) ||| BitVec.ofInt IntKind.u64.bits (IntKind.u64.wrap (y:Int))).toNat:Int)=((m*256+y:Nat):Int):=by
 have e1:IntKind.u64.wrap ((m:Int)*2 ^ min 8 IntKind.u64.bits)=(m:Int)*256:=by
  show IntKind.u64.wrap ((m:Int)*2 ^ 8)=_;rw[IntKind.wrap_u64]; omega
 have e2:IntKind.u64.wrap (y:Int)=(y:Int):=by rw[IntKind.wrap_u64]; omega
 rw[e1,e2];have e3:(BitVec.ofInt 64 ((m:Int)*256) ||| BitVec.ofInt 64 (y:Int)).toNat=m*256+y:=by
  have e:(m:Int)*256=((m*256:Nat):Int):=by omega
  rw[e,dP,dP,BitVec.toNat_or,BitVec.toNat_ofNat,BitVec.toNat_ofNat,Nat.mod_eq_of_lt (by omega),Nat.mod_eq_of_lt (by omega)];have:=Nat.two_pow_add_eq_or_of_lt (i:=8) (b:=y) (by omega) m;rw[Nat.mul_comm m 256];exact this.symm
 show IntKind.u64.wrap ((BitVec.ofInt 64 ((m:Int)*256) ||| BitVec.ofInt 64 (y:Int)).toNat:Int)=_;rw[e3,IntKind.wrap_u64];omega
theorem Y0 {l:List Int}{x:Int}:numL (l ++ [x])=numL l*256+x.toNat:=by simp [numL,List.foldl_append]
theorem mO {l:List Int}{t:Nat}{x:Int}(h:l[t]? =some x):numL (l.take (t+1))=numL (l.take t)*256+x.toNat:=by
 obtain⟨h1,h2⟩:=List.getElem?_eq_some_iff.1 h;rw[List.take_succ_eq_append_getElem h1,h2,Y0]
theorem jJ {l:List Int}(h:Rng l) : ∀t,t≤l.length→numL (l.take t)<256 ^ t:=by
 intro t;induction t with
 | zero=>intro _; simp[numL]
 | succ t ih=>
  intro ht;have hx:l[t]? =some (l[t]'(by omega)):=List.getElem?_eq_getElem _;rw[mO hx];have h1:=ih (by omega);have h2:=h _ (List.getElem_mem (h:=by omega) (l:=l) (n:=t));rw[Nat.pow_succ];omega
def slotP (ss:List (List Int)):Option (List Int×Nat):=
 let h:=ss.headD []
 let body:=ss.tail.flatten
 let g:=numL (h.take 8)
 let n:=numL ((h.drop 8).take 4)
 if 1≤g∧g≤4611686018427387904∧n≤body.length∧h=hdrP h.length (body.take n) g then some (body.take n,g) else none
def slotS (d:DS)(x n:Nat):List (List Int):=(List.range n).map fun i=>d.content (x+i)
def bodyU (d:DS)(x t:Nat):List Int:=((List.range t).map fun i=>d.content (x+1+i)).flatten
theorem mP {d:DS}{x t:Nat}:bodyU d x (t+1)=bodyU d x t ++ d.content (x+1+t):=by
 simp[bodyU,List.range_succ]
theorem mQ {d:DS}{x sz:Nat} : ∀{t:Nat},(∀i,i<t→(d.content (x+1+i)).length=sz)→(bodyU d x t).length=t*sz
 | 0,_=>by simp[bodyU]
 | t+1,h=>by rw[mP,List.length_append,mQ (t:=t) fun i hi=>h i (by omega),h t (by omega),Nat.succ_mul]
theorem tY {d:DS}{x t:Nat} : ∀{m:Nat},t≤m→∃r,bodyU d x m=bodyU d x t ++ r
 | 0,h=>⟨[],by rw[show t=0 by omega,List.append_nil]⟩
 | m+1,h=>by
  by_cases e:t=m+1
  ·exact⟨[],by rw[e,List.append_nil]⟩
  ·obtain⟨r,hr⟩:=tY (d:=d) (x:=x) (t:=t) (m:=m) (by omega);exact⟨r ++ d.content (x+1+m),by rw[mP,hr,List.append_assoc]⟩
theorem Y4 {d:DS}{x n:Nat}(h:1≤n):slotS d x n=d.content x :: (List.range (n-1)).map fun i=>d.content (x+1+i):=by
 obtain⟨m,rfl⟩ : ∃m,n=m+1:=⟨n-1,by omega⟩;rw[slotS,List.range_succ_eq_map,Nat.add_sub_cancel];simp only[List.map_cons,List.map_map,Nat.add_zero,List.cons.injEq,true_and];apply List.map_congr_left;intro i _;show d.content (x+(i+1))=_;rw[show x+(i+1)=x+1+i by omega]
theorem Y5 {d:DS}{x n:Nat}(h:1≤n){H:List Int}(hH:H=d.content x):slotP (slotS d x n) =
 if 1≤numL (H.take 8)∧numL (H.take 8)≤4611686018427387904∧numL ((H.drop 8).take 4)≤(bodyU d x (n-1)).length∧H=hdrP H.length ((bodyU d x (n-1)).take (numL ((H.drop 8).take 4))) (numL (H.take 8)) then some ((bodyU d x (n-1)).take (numL ((H.drop 8).take 4)),numL (H.take 8)) else none:=by
 subst hH;rw[Y4 h];rfl
theorem Y6 {k:IntKind}{n:Int}{w:World}:cnvS Tryz.prog 106 2 (.int k n) w=some (.int .i64 (IntKind.i64.wrap n),w):=bF (by kernel_rfl) (by kernel_rfl)
attribute [push_cast] Y6
set_option maxHeartbeats 2000000 in
theorem Y7 {w:World}{D J:Nat→Prop}{p cb:Nat}{s:DS×CS}(h:CW w D J p cb s){N sz i:Nat}(hs:Sz N sz i s.1)(hi:i≤900000)(hz:44≤sz)(hz2:sz≤4096)(h1:s.2.first≤60000)(h2:s.2.n≤60000)(h3:1≤s.2.n){x:Nat}(hx:x≤1)(hN:s.2.first+x*s.2.n+s.2.n≤N)(hoff:s.1.off=false)
 (hsec : ∀y,y<N→(s.1.content y).length=sz∧Rng (s.1.content y)) :
 Ok (den Tryz.prog 50 #[.pointer (some ⟨cb,0,none⟩),.int .i64 (x:Int)] w) fun v w'=>(∃u g hd,v = .tuple #[u,.int .i64 g,.bool hd,.int .i64 0]∧match slotP (slotS s.1 (s.2.first+x*s.2.n) s.2.n) with
  | none=>hd=false
  | some (b,g')=>hd=true∧g=(g':Int)∧SlC w' (fun b=>b<w.heap.size) u b)∧Upd (fun _=>False) w w':=by
 obtain⟨d,c⟩:=s;obtain⟨first,n,slot,newest,gen,down⟩:=c
 obtain⟨sa,sc,hb1,hn1,_⟩:=h.at_;dsimp only at hs h1 h2 h3 hN hoff hsec hb1;have hsz:=hs.size;have hrd : ∀y,y<N→d.read (y:Int)=(some (d.content y),0):=fun y hy=>by
  unfold DS.read;rw[if_pos ⟨by omega,by rw[hs.dur]; omega⟩,hoff];simp
 refine aB (args:=[.pointer (some ⟨cb,0,none⟩),.int .i64 (x:Int)]) rs50 Tryz.func50 rfl mixed (by kernel_rfl) NH rfl ?_;have hud:Upd (fun _=>False) w w.drew:=Upd.drew;have hwd:=h.quiet hud;have hbd:=hb1.drew;simp(maxSteps:=3000000)(disch:=omega)only[push_cast,seval,hb1.cell];generalize w.drew=wd at *;refine Ok.use (mJ hwd hx (by show first≤_; omega) (by show n≤_; omega)) ?_
 rintro v w1 ⟨rfl,hu1⟩;dsimp only;obtain⟨X,hX⟩ : ∃X,X=first+x*n:=⟨_,rfl⟩
 have hXb:X≤120000:=by
  have:x*n≤1*n:=Nat.mul_le_mul_right n hx;omega
 rw[←hX] at hN ⊢;have hb2:=hbd.upd hu1 fun h=>h;have hw1:=hwd.quiet hu1;have hread:=kK hw1.disk (by show 0<d.size; omega) (by have:=hs.few; show d.cache.length<_; omega) (X:Int);rw[show(d,(⟨first,n,slot,newest,gen,down⟩:CS)).1.read (X:Int)=(some (d.content X),0) from hrd X (by omega)] at hread
 simp(maxSteps:=3000000)(disch:=omega)only[push_cast,seval,hb1.cell,hbd.cell,hb2.cell];refine Ok.use hread ?_;rintro v w2 ⟨u,rfl,⟨hb,rfl,hbge,hbh⟩,hu2⟩;dsimp only at hbh ⊢;have hc0:=hsec X (by omega);unfold CV;rw[hc0.1];have hb3:=hb2.upd hu2 fun h=>h;simp(maxSteps:=3000000)(disch:=omega)only[push_cast,seval,hb1.cell,hbd.cell,hb2.cell,hb3.cell];obtain⟨H,hH⟩ : ∃H,H=d.content X:=⟨_,rfl⟩;rw[←hH] at hbh hc0;have hcell : ∀t,t<sz→∃x:Nat,H[t]? =some (x:Int)∧x<256∧(by8 H)[t]? =some (.int .u8 (x:Int)):=fun t ht=>by
  have e:H[t]? =some (H[t]'(by omega)):=List.getElem?_eq_getElem _;obtain⟨y,hy,hy2⟩:=hc0.2.nat e;exact⟨y,by rw[e,hy],hy2,by rw[by8,List.getElem?_map,e,hy]; rfl⟩
 refine aE (I:=fun k st w'=>Bx (∃t,k+t=8∧st = [.int .u64 ((numL (H.take t):Nat):Int),.int .i64 ((t:Nat):Int)]∧w2=w') ⟨⟩) ?_ 8
  ⟨0,by omega,rfl,rfl⟩
 rintro k st _ ⟨t,hk,rfl,rfl⟩;by_cases hk0:k=0
 ·obtain rfl:t=8:=by omega
  have e8:(if sz=8 then 0 else 8)=8:=if_neg (by omega)
  simp(maxSteps:=3000000)(disch:=omega)only[push_cast,seval,e8];refine aE (I:=fun k st w'=>Bx (∃t,k+t=4∧st = [.int .i64 ((numL ((H.drop 8).take t):Nat):Int),.int .i64 ((t:Nat):Int)]∧w2=w') ⟨⟩) ?_ 4
   ⟨0,by omega,rfl,rfl⟩
  rintro k st _ ⟨t,hk,rfl,rfl⟩;by_cases hk0:k=0
  ·obtain rfl:t=4:=by omega
   rw[Y5 h3 hH];have hbl:(bodyU d X (n-1)).length=(n-1)*sz:=mQ fun i hi=>(hsec (X+1+i) (by omega)).1;have hlim:=jJ (hc0.2.drop 8) 4 (by rw[List.length_drop]; omega);obtain⟨B,hB⟩ : ∃B,B=bodyU d X (n-1):=⟨_,rfl⟩;rw[←hB] at hbl ⊢;have hG0:=jJ hc0.2 8 (by omega);generalize numL ((H.drop 8).take 4)=L at *;generalize numL (H.take 8)=G at *;by_cases hg1:G<1
   ·have hgi:(G:Int)<1:=by omega
    rw[if_neg (by omega)];simp(maxSteps:=3000000)(disch:=omega)only[push_cast,seval,e8,hgi];exact⟨⟨_,_,_,rfl,rfl⟩,(hud.trans hu1 fun _ _ h=>h).trans hu2 fun _ _ h=>h⟩
   have hgi : ¬(G:Int)<1:=by omega
   by_cases hg2:4611686018427387904<G
   ·have hgj:(4611686018427387904:Int)<G:=by omega
    rw[if_neg (by omega)];simp(maxSteps:=3000000)(disch:=omega)only[push_cast,seval,e8,hgi,hgj];exact⟨⟨_,_,_,rfl,rfl⟩,(hud.trans hu1 fun _ _ h=>h).trans hu2 fun _ _ h=>h⟩
   have hgj : ¬(4611686018427387904:Int)<G:=by omega
   simp(maxSteps:=3000000)(disch:=omega)only[push_cast,seval,e8,hgi,hgj];have hw2:=hw1.quiet hu2;refine Ok.use (mK hw2 (by show 1≤n; omega) (by show n≤_; omega) (by show d.size≤_; omega)) ?_;rintro v w3 ⟨rfl,hu3⟩;dsimp only;rw[hsz];have hroomb:(n-1)*sz≤60000*4096:=Nat.mul_le_mul (by omega) (by omega);obtain⟨R,hR⟩ : ∃R,R=(n-1)*sz:=⟨_,rfl⟩;rw[←hR] at hroomb hbl ⊢;have hb4:=hb3.upd hu3 fun h=>h;have hu03:Upd (fun _=>False) w w3:=((hud.trans hu1 fun _ _ h=>h).trans hu2 fun _ _ h=>h).trans hu3 fun _ _ h=>h;by_cases hLR:R<L
   ·have hli:(R:Int)<(L:Int):=by omega
    rw[if_neg (by omega)];simp(maxSteps:=3000000)(disch:=omega)only[push_cast,seval,hli];exact⟨⟨_,_,_,rfl,rfl⟩,hu03⟩
   have hli : ¬(R:Int)<(L:Int):=by omega
   simp(maxSteps:=3000000)(disch:=omega)only[push_cast,seval,hli];have hbh3:=hbh.upd hu3 fun h=>h;have hw3:=hw2.quiet hu3;refine aE (I:=fun k st w'=>Bx (∃t v,k+t=n-1∧st = [v,.int .i64 ((t:Nat)+1:Int)]∧Fr w3 w' v (bodyU d X t)) ⟨⟩) ?_ (n-1)
    ⟨0,_,by omega,rfl,Fr.nil⟩
   rintro k st w4 ⟨t,v,hk,rfl,h4⟩;obtain⟨va4,vc4,rfl,hc4⟩:=h4.own.form;have hbt:(bodyU d X t).length=t*sz:=mQ fun i hi=>(hsec (X+1+i) (by omega)).1;have hw4:=hw3.quiet h4.upd;have hb5:=hb4.upd h4.upd fun h=>h;have hbh4:=hbh3.upd h4.upd fun h=>h;have hts:t*sz≤R:=by rw[hR]; exact Nat.mul_le_mul_right sz (by omega)
   by_cases hbL:t*sz<L
   ·have htn:t<n-1:=by
     rcases Nat.lt_or_ge t (n-1) with hh | hh
     ·exact hh
     ·have:(n-1)*sz≤t*sz:=Nat.mul_le_mul_right sz hh;omega
    have hbi:((bodyU d X t).length:Int)<(L:Int):=by omega
    have hbt2:(bodyU d X t).length≤60000*4096:=by omega
    have hud4:Upd (fun _=>False) w4 w4.drew:=Upd.drew;have hw4d:=hw4.quiet hud4;have hb5d:=hb5.drew;have h4d:=h4.quiet hud4;simp(maxSteps:=3000000)(disch:=omega)only[push_cast,seval,hbi,hb5.cell];generalize w4.drew=w4d at *;refine Ok.use (mJ hw4d hx (by show first≤_; omega) (by show n≤_; omega)) ?_
    rintro v w5 ⟨rfl,hu5⟩;dsimp only;rw[←hX];have hb6:=hb5d.upd hu5 fun h=>h;have hw5:=hw4d.quiet hu5;have h5:=h4d.quiet hu5;have eX:(X:Int)+((t:Int)+1)=((X+1+t:Nat):Int):=by omega
    obtain⟨Y,hY⟩ : ∃Y,Y=X+1+t:=⟨_,rfl⟩;rw[←hY] at eX;have hread:=kK hw5.disk (by show 0<d.size; omega) (by have:=hs.few; show d.cache.length<_; omega) (Y:Int);rw[show(d,(⟨first,n,slot,newest,gen,down⟩:CS)).1.read (Y:Int)=(some (d.content Y),0) from hrd Y (by omega)] at hread
    simp(maxSteps:=3000000)(disch:=omega)only[push_cast,seval,hbi,hb5.cell,hb5d.cell,hb6.cell,eX];refine Ok.use hread ?_;rintro v w6 ⟨u,rfl,⟨nb,rfl,hnbge,hnb⟩,hu6⟩;dsimp only at hnb ⊢;have hcY:=hsec Y (by omega);unfold CV;have hb7:=hb6.upd hu6 fun h=>h;have h6:=h5.quiet hu6;rw[hcY.1];simp(maxSteps:=3000000)(disch:=omega)only[push_cast,seval,hbi,hb5.cell,hb5d.cell,hb6.cell,hb7.cell,eX];have hsrc:SlB w6 (fun _=>False) (.slice (some ⟨nb,0,none⟩) sz sz) (d.content Y):=by
     have:=cM hnb (c:=sz) (F:=fun _=>False) fun h=>h;rw[hcY.1] at this;exact this
    refine h6.app hsrc (by rw[hcY.1]; omega) ?_;intro v7 w7 h7 hu7;simp(maxSteps:=3000000)(disch:=omega)only[push_cast,seval];exact⟨k-1,by omega,t+1,v7,by omega,by simp,by rw[mP,←hY]; exact h7⟩
   have hbi : ¬((bodyU d X t).length:Int)<(L:Int):=by omega
   have hLl:L≤(bodyU d X t).length:=by omega
   have hpre:(bodyU d X t).take L=B.take L:=by
    obtain⟨r,hr⟩:=tY (d:=d) (x:=X) (t:=t) (m:=n-1) (by omega);rw[hB,hr,List.take_append_of_le_length hLl]
   have htk:=YX h4.slc hLl;have hLb:L≤60000*4096:=by omega
   rw[hpre] at htk;have hTl:(B.take L).length=L:=by rw[List.length_take]; omega
   rw[←hTl] at htk;have hsx:=YW (P:=Tryz.prog) (t:=55) (w:=w4) (a:=va4) (n:=(bodyU d X t).length) (c:=vc4) (k:=.i64) (h:=(L:Int)) bX bE (by omega) (by omega);rw[Int.toNat_natCast] at hsx;have hhd:=mL hw4 htk (by rw[hTl]; omega) (g:=G) (by omega) (by show 44≤d.size; omega) (by show d.size≤_; omega);rw[hTl] at hhd;have eG:IntKind.i64.wrap (G:Int)=(G:Int):=by rw[IntKind.wrap_i64]; omega
   rw[hTl] at htk;generalize B.take L=T at *;simp(maxSteps:=3000000)(disch:=omega)only[push_cast,seval,hbi,hsx,eG];refine Ok.use hhd ?_;rintro v w5 ⟨nb,rfl,hnb,hnge,hu5⟩;dsimp only at hnb ⊢;rw[hsz] at hnb ⊢;have hhl:(hdrP sz T G).length=sz:=cT (by omega);unfold CV;rw[hhl];have s1:SlB w5 (fun _=>False) (.slice (some ⟨hb,0,none⟩) H.length sz) H:=cM (hbh4.upd hu5 fun h=>h) fun h=>h;have s2:SlB w5 (fun _=>False) (.slice (some ⟨nb,0,none⟩) (hdrP sz T G).length sz) (hdrP sz T G):=cM hnb fun h=>h;have heq:=YV s1 s2 hc0.2 tV;rw[hhl,hc0.1] at heq;simp(maxSteps:=3000000)(disch:=omega)only[push_cast,seval,eG];refine Ok.use heq ?_;rintro v w6 ⟨rfl,hu6⟩;have hu46:Upd (fun _=>False) w4 w6:=hu5.trans hu6 fun _ _ h=>h;have hu06:Upd (fun _=>False) w w6:=(hu03.trans h4.upd fun _ _ h=>h).trans hu46 fun _ _ h=>h;have hs03:=hu03.size;have htk6:SlC w6 (fun b=>b<w.heap.size) (.slice va4 L vc4) T:=(htk.upd hu46 fun _ h=>h.elim).mono fun b _ hb=>by omega
   by_cases hh:H=hdrP sz T G
   ·rw[if_pos ⟨by omega,by omega,by omega,by rw[hc0.1]; exact hh⟩];simp(maxSteps:=3000000)(disch:=omega)only[push_cast,seval,eG];refine⟨⟨_,_,_,rfl,?_⟩,hu06⟩;exact⟨rfl,rfl,htk6⟩
   ·rw[if_neg (by rintro⟨_,_,_,h4⟩; rw[hc0.1] at h4; exact hh h4)];simp(maxSteps:=3000000)(disch:=omega)only[push_cast,seval,eG];exact⟨⟨_,_,_,rfl,rfl⟩,hu06⟩
  obtain⟨y,hy,hy2,hyc⟩:=hcell (8+t) (by omega);rw[←List.getElem?_drop] at hy;have hnx:=mO hy;have hlt:=jJ (hc0.2.drop 8) t (by rw[List.length_drop]; omega);have hp:(256:Nat) ^ t≤256 ^ 3:=Nat.pow_le_pow_right (by omega) (by omega);have hle:(t:Int)<4:=by omega
  obtain⟨j,hj⟩ : ∃j,j=8+t:=⟨_,rfl⟩;rw[←hj] at hyc;have ej:(8:Int)+(t:Int)=(j:Int):=by omega
  have ej2:8+t=j:=hj.symm;generalize numL ((H.drop 8).take t)=m at *;have eu:=YY (m:=m) (by omega) hy2;simp(maxSteps:=3000000)(disch:=omega)only[push_cast,seval,hle,hbh.cell,hyc,e8,ej,ej2];exact⟨k-1,by omega,t+1,by omega,by rw[eu,hnx]; simp,rfl⟩
 obtain⟨y,hy,hy2,hyc⟩:=hcell t (by omega);have hnx:=mO hy;have hlt:=jJ hc0.2 t (by omega);have hp:(256:Nat) ^ t≤256 ^ 7:=Nat.pow_le_pow_right (by omega) (by omega);have hle:(t:Int)<8:=by omega
 generalize numL (H.take t)=m at *;have eu:=YZ (m:=m) (by omega) hy2;simp(maxSteps:=3000000)(disch:=omega)only[push_cast,seval,hle,hbh.cell,hyc];exact⟨k-1,by omega,t+1,by omega,by rw[eu,hnx]; simp,rfl⟩
open Go
set_option maxRecDepth 100000
def newestP (a b:Option (List Int×Nat)):Nat×List Int×Nat:=
 match a,b with
 | none,none=>(1,[],0)
 | some x,none=>(0,x)
 | none,some y=>(1,y)
 | some x,some y=>if x.2<y.2 then (1,y) else (0,x)
theorem eP {ss:List (List Int)}{x:List Int×Nat}(h:slotP ss=some x):1≤x.2∧x.2≤4611686018427387904∧x.1.length≤ss.tail.flatten.length∧∃k,x.1=ss.tail.flatten.take k:=by
 unfold slotP at h;dsimp only at h;split at h
 ·rename_i hc;cases h;exact⟨hc.1,hc.2.1,by rw[List.length_take]; omega,_,rfl⟩
 ·cases h
def openC (d:DS)(first n:Nat):CS:=
 let r:=newestP (slotP (slotS d first n)) (slotP (slotS d (first+n) n))
 ⟨first,n,r.1,r.2.1,r.2.2,false⟩
def stepC (c:CS)(x:Nat)(r:Option (List Int×Nat)):CS:=
 match r with
 | none=>c
 | some y=>if c.gen<y.2 then {c with slot:=x,newest:=y.1,gen:=y.2} else c
theorem Y8 {d:DS}{first n:Nat}:openC d first n=stepC (stepC ⟨first,n,1,[],0,false⟩ 0 (slotP (slotS d (first+0*n) n))) 1 (slotP (slotS d (first+1*n) n)):=by
 unfold openC;rw[Nat.zero_mul,Nat.one_mul,Nat.add_zero];cases ha:slotP (slotS d first n) with
 | none=>
  cases hb:slotP (slotS d (first+n) n) with
  | none=>rfl
  | some y=>
   have:=(eP hb).1;show _=stepC ⟨first,n,1,[],0,false⟩ 1 (some y)
   simp only[newestP,stepC];rw[if_pos (by show 0<y.2; omega)]
 | some x=>
  have hx:=(eP ha).1;have e:stepC ⟨first,n,1,[],0,false⟩ 0 (some x)=⟨first,n,0,x.1,x.2,false⟩:=by
   simp only[stepC];rw[if_pos (by show 0<x.2; omega)]
  rw[e];cases hb:slotP (slotS d (first+n) n) with
  | none=>rfl
  | some y=>
   simp only[newestP,stepC];by_cases h:x.2<y.2
   ·rw[if_pos h,if_pos h]
   ·rw[if_neg h,if_neg h]
theorem CW.set3 {w:World}{D J:Nat→Prop}{p cb:Nat}{s:DS×CS}(h:CW w D J p cb s){nv:Value}{b:List Int}(hb:SlC w (FF D J) nv b)(hr:Rng b)(tg g:Nat) :
 CW (((w.setCell ⟨cb,3,none⟩ (.int .i64 (tg:Int))).setCell ⟨cb,4,none⟩ nv).setCell ⟨cb,5,none⟩ (.int .i64 (g:Int))) D J p cb (s.1,{s.2 with slot:=tg,newest:=b,gen:=g})∧Upd (fun x=>x=cb) w (((w.setCell ⟨cb,3,none⟩ (.int .i64 (tg:Int))).setCell ⟨cb,4,none⟩ nv).setCell ⟨cb,5,none⟩ (.int .i64 (g:Int))):=by
 obtain⟨sv,h1,h2,h3⟩:=h.obj;have q1:Upd (fun x=>x=cb) w (w.setCell ⟨cb,3,none⟩ (.int .i64 (tg:Int))):=Upd.set rfl;have q2:=q1.setIn (a:=⟨cb,4,none⟩) (v:=nv) rfl;have q3:=q2.setIn (a:=⟨cb,5,none⟩) (v:=.int .i64 (g:Int)) rfl;exact⟨(h.set q3 ⟨nv,((h1.set 3 _).set 4 _).set 5 _,hb.upd q3 (fun x e=>.inr (by rw[e]; exact h.jj)),hr⟩).1,q3⟩
theorem Y9 (a:Option Addr)(x y z:Int)(w:World):bldS Tryz.prog 100 #[(0,.pointer a),(1,.int .i64 x),(2,.int .i64 y),(3,.int .i64 z)] w=some (.agg #[.pointer a,.int .i64 x,.int .i64 y,.int .i64 z,.slice none 0 0,.int .i64 0,.bool false],w):=by kernel_rfl
attribute [push_cast] Y9
set_option maxHeartbeats 2000000 in
theorem ZA {w:World}(hK:KT w){D:Nat→Prop}{p:Nat}{d:DS}(h:IsDisk w D p d)(hD0 : ¬D 1){N sz i:Nat}(hs:Sz N sz i d)(hi:i≤900000)(hN:N≤100000)(hz:64≤sz)(hz2:sz≤4096){first count:Nat}(hc4:4≤count)(hfc:first+count≤N)(hc6:count≤60000)(hf6:first≤60000)
 (hsec : ∀y,y<N→(d.content y).length=sz∧Rng (d.content y)) :
 Ok (den Tryz.prog 19 #[.pointer (some ⟨p,0,none⟩),.int .i64 (first:Int),.int .i64 (count:Int)] w) fun v w'=>
  (if d.off then v = .tuple #[.pointer none,.int .i64 8] else ∃cb,w.heap.size≤cb∧v = .tuple #[.pointer (some ⟨cb,0,none⟩),.int .i64 0]∧CW w' D (fun b=>b=cb) p cb (d,openC d first (count/2)))∧Upd (fun _=>False) w w':=by
 have hdl:=hs.dur;have hsz:=hs.size;refine aB (args:=[.pointer (some ⟨p,0,none⟩),.int .i64 (first:Int),.int .i64 (count:Int)]) rs19 Tryz.func19 rfl mixed (by kernel_rfl) MT rfl ?_
 have h1 : ¬(first:Int)<0:=by omega
 have h2 : ¬(count:Int)<4:=by omega
 have h3 : ¬(N:Int)<(count:Int):=by omega
 have h4 : ¬(N:Int)-(count:Int)<(first:Int):=by omega
 have h5 : ¬(sz:Int)<64:=by omega
 simp(maxSteps:=3000000)(disch:=omega)only[push_cast,seval,h1,h2];refine Ok.use (dQ h) ?_;rintro v _ ⟨rfl,rfl⟩;rw[hdl];simp(maxSteps:=3000000)(disch:=omega)only[push_cast,seval,h3];refine Ok.use (dQ h) ?_;rintro v _ ⟨rfl,rfl⟩;rw[hdl];simp(maxSteps:=3000000)(disch:=omega)only[push_cast,seval,h4];refine Ok.use (bM h) ?_;rintro v _ ⟨rfl,rfl⟩;rw[hsz];simp(maxSteps:=3000000)(disch:=omega)only[push_cast,seval,h5];refine Ok.use (kJ h) ?_;rintro v _ ⟨rfl,rfl⟩;cases hoff:d.off
 ·have e2:IntKind.i64.wrap ((count:Int).tdiv 2)=((count/2:Nat):Int):=by
   rw[show(2:Int)=((2:Nat):Int) from rfl,←Int.ofNat_tdiv,IntKind.wrap_i64]; omega
  obtain⟨n,hn⟩ : ∃n,n=count/2:=⟨_,rfl⟩;rw[←hn] at e2 ⊢;simp(maxSteps:=3000000)(disch:=omega)only[push_cast,seval,e2];have hnew:Blk (w.alloc (.cells [.pointer (some ⟨p,0,none⟩),.int .i64 (first:Int),.int .i64 (n:Int),.int .i64 1,.slice none 0 0,.int .i64 0,.bool false].toArray 100 (0,0))) w.heap.size [.pointer (some ⟨p,0,none⟩),.int .i64 (first:Int),.int .i64 (n:Int),.int .i64 1,.slice none 0 0,.int .i64 0,.bool false] 100:=Blk.new
  have hal:Upd (fun _=>False) w (w.alloc (.cells [.pointer (some ⟨p,0,none⟩),.int .i64 (first:Int),.int .i64 (n:Int),.int .i64 1,.slice none 0 0,.int .i64 0,.bool false].toArray 100 (0,0))):=Upd.alloc
  have hsz1:(w.alloc (.cells [.pointer (some ⟨p,0,none⟩),.int .i64 (first:Int),.int .i64 (n:Int),.int .i64 1,.slice none 0 0,.int .i64 0,.bool false].toArray 100 (0,0))).heap.size=w.heap.size+1:=aF
  have hbd:=h.bd;obtain⟨cb,hcb⟩ : ∃cb,cb=w.heap.size:=⟨_,rfl⟩;have hw0:CW (w.alloc (.cells [.pointer (some ⟨p,0,none⟩),.int .i64 (first:Int),.int .i64 (n:Int),.int .i64 1,.slice none 0 0,.int .i64 0,.bool false].toArray 100 (0,0))) D (fun b=>b=cb) p cb (d,⟨first,n,1,[],0,false⟩):=
   ⟨h.upd hal (fun _ _ h=>h),⟨.slice none 0 0,by rw[hcb]; exact hnew,⟨⟨none,0,rfl,fun h=>absurd rfl h⟩,none,0,rfl,Nat.le_refl _⟩,fun x hx=>by cases hx⟩,rfl,fun b hb=>⟨fun hd=>by have:=hbd b hd; omega,by rw[hsz1,hb,hcb]; omega⟩,hK.upd hal (fun h=>h),hD0,fun e=>by have:=hK.1; omega⟩
  rw[←hcb];generalize (w.alloc (.cells [.pointer (some ⟨p,0,none⟩),.int .i64 (first:Int),.int .i64 (n:Int),.int .i64 1,.slice none 0 0,.int .i64 0,.bool false].toArray 100 (0,0)))=w0 at *
  rw[Y8];refine aE (I:=fun k st w'=>Bx (∃t c,k+t=2∧st = [.int .i64 (t:Int)]∧CW w' D (fun b=>b=cb) p cb (d,c)∧c.first=first∧c.n=n∧c.gen≤4611686018427387904∧Upd (fun x=>x=cb) w0 w'∧
   stepC (stepC ⟨first,n,1,[],0,false⟩ 0 (slotP (slotS d (first+0*n) n))) 1 (slotP (slotS d (first+1*n) n))=(if t=0 then stepC (stepC c 0 (slotP (slotS d (first+0*n) n))) 1 (slotP (slotS d (first+1*n) n)) else if t=1 then stepC c 1 (slotP (slotS d (first+1*n) n)) else c)) ⟨⟩) ?_ 2
   ⟨0,_,by omega,rfl,hw0,rfl,rfl,by show 0≤_; omega,Upd.refl,by rw[if_pos rfl]⟩
  rintro k st w1 ⟨t,c,hk,rfl,hw1,hcf,hcn,hcg,hu1,hrest⟩;by_cases hk0:k=0
  ·obtain rfl:t=2:=by omega
   rw[if_neg (by omega),if_neg (by omega)] at hrest;rw[hrest];simp(maxSteps:=3000000)(disch:=omega)only[push_cast,seval];exact⟨⟨cb,by omega,rfl,hw1⟩,hal.trans hu1 fun x hx e=>by omega⟩
  have htle:(t:Int)<2:=by omega
  have hread:=Y7 hw1 hs hi (by omega) hz2 (by show c.first≤_; omega) (by show c.n≤_; omega) (by show 1≤c.n; omega) (x:=t) (by omega) (by show c.first+t*c.n+c.n≤N; rw[hcf,hcn]; have:t*n≤1*n:=Nat.mul_le_mul_right n (by omega); omega) hoff hsec;dsimp only at hread;rw[hcf,hcn] at hread;obtain⟨cf,cn,cs,cnew,cg,cd⟩:=c;dsimp only at hcf hcn hcg;subst hcf hcn;obtain⟨sa,sc,hb1,hn1,_⟩:=hw1.at_;dsimp only at hb1;simp(maxSteps:=3000000)(disch:=omega)only[push_cast,seval,htle,hb1.cell];refine Ok.use hread ?_;rintro v w2 ⟨⟨u,g,hd,rfl,hm⟩,hu2⟩;have hw2:=hw1.quiet hu2;have hb2:=hb1.upd hu2 fun h=>h;have hnext:stepC (stepC ⟨cf,cn,1,[],0,false⟩ 0 (slotP (slotS d (cf+0*cn) cn))) 1 (slotP (slotS d (cf+1*cn) cn))=(if t+1=0 then stepC (stepC (stepC ⟨cf,cn,cs,cnew,cg,cd⟩ t (slotP (slotS d (cf+t*cn) cn))) 0 (slotP (slotS d (cf+0*cn) cn))) 1 (slotP (slotS d (cf+1*cn) cn)) else if t+1=1 then stepC (stepC ⟨cf,cn,cs,cnew,cg,cd⟩ t (slotP (slotS d (cf+t*cn) cn))) 1 (slotP (slotS d (cf+1*cn) cn)) else stepC ⟨cf,cn,cs,cnew,cg,cd⟩ t (slotP (slotS d (cf+t*cn) cn))):=by
   rw[hrest];rw[if_neg (show ¬t+1=0 by omega)];have ht:t=0∨t=1:=by omega
   rcases ht with rfl | rfl
   ·rw[if_pos rfl,if_pos rfl]
   ·rw[if_neg (by omega),if_pos rfl,if_neg (by omega)]
  have hu12:Upd (fun x=>x=cb) w0 w2:=hu1.trans (hu2.mono (G:=fun x=>x=cb) fun _ _ h=>h.elim) fun _ _ h=>h;clear hrest hread;generalize hq:slotP (slotS d (cf+t*cn) cn)=q at *;cases q with
  | none=>
   dsimp only at hm;subst hm;simp(maxSteps:=3000000)(disch:=omega)only[push_cast,seval,htle,hb2.cell];exact⟨k-1,by omega,t+1,⟨cf,cn,cs,cnew,cg,cd⟩,by omega,by simp,hw2,rfl,rfl,hcg,hu12,hnext⟩
  | some y=>
   obtain⟨b,g'⟩:=y;dsimp only at hm;obtain⟨rfl,rfl,hsl⟩:=hm;have hpos:=eP hq;have hst:stepC ⟨cf,cn,cs,cnew,cg,cd⟩ t (some (b,g'))=if cg<g' then ⟨cf,cn,t,b,g',cd⟩ else ⟨cf,cn,cs,cnew,cg,cd⟩:=rfl
   rw[hst] at hnext;obtain⟨ua,uc,rfl,_⟩:=id hsl.2;by_cases hgt:cg<g'
   ·rw[if_pos hgt] at hnext;have hgi:(cg:Int)<(g':Int):=by omega
    have hsl2:SlC w2 (FF D fun b=>b=cb) (.slice ua b.length uc) b:=hsl.mono fun q _ hq2=>hq2.elim (fun hd=>hw1.disk.bd q hd) fun e=>(hw1.sep q e).2;have hrb:Rng b:=by
     obtain⟨kk,e⟩:=hpos.2.2.2;dsimp only at e;rw[e];refine Rng.take (fun x hx=>?_) kk;obtain⟨l,hl,hxl⟩:=List.mem_flatten.1 hx;obtain⟨i,hi,rfl⟩:=List.mem_map.1 (List.mem_of_mem_tail hl);have:=List.mem_range.1 hi;have:t*cn≤1*cn:=Nat.mul_le_mul_right cn (by omega);exact(hsec _ (by omega)).2 x hxl
    obtain⟨hw3,hu3⟩:=hw2.set3 hsl2 hrb t g';simp(maxSteps:=3000000)(disch:=omega)only[push_cast,seval,htle,hb2.cell,hb2.free,hgi];exact⟨k-1,by omega,t+1,⟨cf,cn,t,b,g',cd⟩,by omega,by simp,hw3,rfl,rfl,hpos.2.1,hu12.trans hu3 fun _ _ h=>h,hnext⟩
   ·rw[if_neg hgt] at hnext;have hgi : ¬(cg:Int)<(g':Int):=by omega
    simp(maxSteps:=3000000)(disch:=omega)only[push_cast,seval,htle,hb2.cell,hgi];exact⟨k-1,by omega,t+1,⟨cf,cn,cs,cnew,cg,cd⟩,by omega,by simp,hw2,rfl,rfl,hcg,hu12,hnext⟩
 ·simp(maxSteps:=3000000)(disch:=omega)only[push_cast,seval];exact Upd.refl
open Go
set_option maxRecDepth 100000
structure WfD (n s i : Nat) (d : DS) : Prop where
 sz:Sz n s i d
 dur : ∀l,l∈d.dur→l.length=s∧Rng l
 cache : ∀x,x∈d.cache→x.2.length=s∧Rng x.2
theorem WfD.step {n s i:Nat}{d:DS}(h:WfD n s i d):WfD n s i d.step.2:=by
 refine⟨h.sz.step,?_,by rw[d.step_cache]; exact h.cache⟩;unfold DS.step;split
 ·exact h.dur
 ·split <;> exact h.dur
theorem WfD.mono {n s i j:Nat}{d:DS}(h:WfD n s i d)(hij:i≤j):WfD n s j d:=⟨h.sz.mono hij,h.dur,h.cache⟩
theorem WfD.write {n s i:Nat}{d:DS}(h:WfD n s i d){x:Int}{l:List Int}(hl:Rng l):WfD n s (i+1) (d.write x l).1:=by
 have hs:=h.step;refine⟨h.sz.write x l,?_,?_⟩
 ·unfold DS.write;split
  ·split
   ·exact hs.dur
   ·exact hs.dur
  ·exact h.dur
 ·unfold DS.write;split
  ·rename_i hc;split
   ·intro y hy;rcases List.mem_append.1 hy with hy | hy
    ·exact hs.cache y hy
    ·rw[List.mem_singleton] at hy;rw[hy]; exact⟨by rw[←h.sz.size]; exact hc.2.2,hl⟩
   ·exact hs.cache
  ·exact h.cache
theorem gO {s:Nat}{ch:Nat→Bool}{c:List (Nat×List Int)}{dur:List (List Int)}(hd : ∀l,l∈dur→l.length=s∧Rng l)(hc : ∀x,x∈c→x.2.length=s∧Rng x.2) : ∀{i:Nat} l,l∈settled ch c dur i→l.length=s∧Rng l
 | 0,l,h=>hd l h
 | i+1,l,h=>by
  simp only[settled] at h;split at h
  ·rename_i x hx;split at h
   ·rcases List.mem_or_eq_of_mem_set h with h | h
    ·exact gO hd hc l h
    ·rw[h]; exact hc x (List.mem_of_getElem? hx)
   ·exact gO hd hc l h
  ·exact gO hd hc l h
theorem WfD.sync {n s i:Nat}{d:DS}(h:WfD n s i d):WfD n s i d.sync.1:=by
 refine⟨h.sz.sync,?_,?_⟩
 ·unfold DS.sync;split
  ·exact fun l hl=>gO h.step.dur h.step.cache l hl
  ·exact h.step.dur
 ·unfold DS.sync;split
  ·exact fun x hx=>by cases hx
  ·exact h.step.cache
theorem WfD.crash {n s i:Nat}{d:DS}(h:WfD n s i d)(keep:List Bool):WfD n s 0 (d.crash keep):=
 ⟨h.sz.crash keep,fun l hl=>gO h.dur h.cache l hl,fun x hx=>by cases hx⟩
theorem WfD.fail {n s i:Nat}{d:DS}(h:WfD n s i d){k:Int}(hk:k<9223372036854775808):WfD n s i (d.fail k):=by
 refine⟨h.sz.fail hk,?_,?_⟩
 ·unfold DS.fail;split <;> exact h.dur
 ·unfold DS.fail;split <;> exact h.cache
theorem WfD.new {n s:Nat}:WfD n s 0 (DS.new n s):=⟨Sz.new,fun l hl=>by rw [List.eq_of_mem_replicate hl]; exact ⟨by simp,Rng.zeros⟩,fun x hx=>by cases hx⟩
theorem WfD.content {n s i:Nat}{d:DS}(h:WfD n s i d){y:Nat}(hy:y<n):(d.content y).length=s∧Rng (d.content y):=by
 unfold DS.content;cases hl:lastOf d.cache y with
 | none=>
  have hyd:y<d.dur.length:=by rw[h.sz.dur]; exact hy
  show(d.dur.getD y []).length=s∧Rng (d.dur.getD y []);rw[List.getD_eq_getElem?_getD,List.getElem?_eq_getElem hyd];exact h.dur _ (List.getElem_mem hyd)
 | some l=>exact h.cache _ (iK hl)
theorem WfD.op {n s i:Nat}{d:DS}(h:WfD n s i d){o:DOp}(ho : ∀x,o=some x→Rng x.2):WfD n s (i+1) (d.op o).1:=by
 cases o with
 | none=>exact h.sync.mono (by omega)
 | some x=>exact h.write (ho x rfl)
theorem WfD.ops {n s:Nat} : ∀{l:List DOp} {i:Nat} {d:DS},WfD n s i d→(∀x,some x∈l→Rng x.2)→WfD n s (i+l.length) (runOps d l).1
 | [],i,d,h,_=>h
 | o :: r,i,d,h,ho=>by
  have h1:=h.op (o:=o) fun x hx=>ho x (by rw[←hx]; exact List.mem_cons_self);unfold runOps;split
  ·exact(WfD.ops (l:=r) h1 fun x hx=>ho x (List.mem_cons_of_mem _ hx)).mono (by simp; omega)
  ·exact h1.mono (by simp)
theorem ZB {sz i:Nat}{b:List Int}(h:Rng b):Rng (chunk sz b i):=tU ((h.drop _).take _)
theorem mR {sz at_:Nat}{b:List Int}(h:Rng b) : ∀x,some x∈putOps sz at_ b→Rng x.2:=by
 intro x hx;rcases List.mem_append.1 hx with hx | hx
 ·obtain⟨i,_,e⟩:=List.mem_map.1 hx;cases e;exact ZB h
 ·simp at hx
theorem tZ {sz at_ g:Nat}{b:List Int}(h:Rng b) : ∀x,some x∈saveOps sz at_ b g→Rng x.2:=by
 intro x hx;rcases List.mem_append.1 hx with hx | hx
 ·rcases List.mem_append.1 hx with hx | hx
  ·exact mR Rng.zeros x hx
  ·exact mR h x hx
 ·exact mR tV x hx
theorem mS {sz:Nat}(hz:0<sz){at_:Nat}{b:List Int}{d:DS}(hoff:d.off=false)(hca:d.cache = [])(hsz:d.size=sz)(hN:at_+nch sz b.length≤d.dur.length) :
 ((runOps d (putOps sz at_ b)).2=0∧(runOps d (putOps sz at_ b)).1.off=false∧(runOps d (putOps sz at_ b)).1.cache = []∧(runOps d (putOps sz at_ b)).1.dur.length=d.dur.length∧(runOps d (putOps sz at_ b)).1.size=sz∧(d.cnt=none→(runOps d (putOps sz at_ b)).1.cnt=none)∧
  (∀a,a<d.dur.length→DurL (runOps d (putOps sz at_ b)).1 a=if at_≤a∧a<at_+nch sz b.length then chunk sz b (a-at_) else DurL d a))∨
 ((runOps d (putOps sz at_ b)).2≠0∧(runOps d (putOps sz at_ b)).1.off=true∧(runOps d (putOps sz at_ b)).1.dur=d.dur∧(runOps d (putOps sz at_ b)).1.size=sz∧d.cnt≠none∧
  (∀a x,(a,x)∈(runOps d (putOps sz at_ b)).1.cache→∃i,i<nch sz b.length∧a=at_+i∧x=chunk sz b i)):=by
 have key : ∀k t (d':DS),k+t=nch sz b.length→d'.off=false→d'.dur=d.dur→d'.size=sz→(d.cnt=none→d'.cnt=none)→d'.cache=(List.range t).map (fun i=>(at_+i,chunk sz b i))→
  (((runOps d' ((chL sz b at_).drop t ++ [none])).2=0∧(runOps d' ((chL sz b at_).drop t ++ [none])).1.off=false∧(runOps d' ((chL sz b at_).drop t ++ [none])).1.cache = []∧(runOps d' ((chL sz b at_).drop t ++ [none])).1.dur.length=d.dur.length∧(runOps d' ((chL sz b at_).drop t ++ [none])).1.size=sz∧(d.cnt=none→(runOps d' ((chL sz b at_).drop t ++ [none])).1.cnt=none)∧
   (∀a,a<d.dur.length→DurL (runOps d' ((chL sz b at_).drop t ++ [none])).1 a=if at_≤a∧a<at_+nch sz b.length then chunk sz b (a-at_) else DurL d a))∨
  ((runOps d' ((chL sz b at_).drop t ++ [none])).2≠0∧(runOps d' ((chL sz b at_).drop t ++ [none])).1.off=true∧(runOps d' ((chL sz b at_).drop t ++ [none])).1.dur=d.dur∧(runOps d' ((chL sz b at_).drop t ++ [none])).1.size=sz∧d.cnt≠none∧
   (∀a x,(a,x)∈(runOps d' ((chL sz b at_).drop t ++ [none])).1.cache→∃i,i<nch sz b.length∧a=at_+i∧x=chunk sz b i))):=by
  intro k;induction k with
  | zero=>
   intro t d' hk h1 h2 h3 h4 h5;have ht:t=nch sz b.length:=by omega
   rw[List.drop_of_length_le (by rw[dK]; omega),List.nil_append];have hop:d'.op none=d'.sync:=rfl;have hmem : ∀a x,(a,x)∈d'.cache→∃i,i<nch sz b.length∧a=at_+i∧x=chunk sz b i:=by
    intro a x hx;rw[h5] at hx;obtain⟨i,hi,e⟩:=List.mem_map.1 hx;cases e;exact⟨i,by rw[←ht]; exact List.mem_range.1 hi,rfl,rfl⟩
   rcases k8 d' h1 with ⟨s1,s2,s3,s4,s5,s6,s7⟩ | ⟨s1,s2,s3,s4,s5,s6⟩
   ·rw[eI (by rw[hop]; exact s1),hop];refine .inl ⟨rfl,s2,s5,by show d'.sync.1.dur.length=_; rw[s4,h2],s6.trans h3,fun h=>s7 (h4 h),fun a ha=>?_⟩;show d'.sync.1.dur.getD a []=_;rw[s3 a (by rw[h2]; exact ha)];by_cases hr:at_≤a∧a<at_+nch sz b.length
    ·rw[if_pos hr];have : ∀m,m≤nch sz b.length→a-at_<m→lastOf ((List.range m).map (fun i=>(at_+i,chunk sz b i))) a=some (chunk sz b (a-at_)):=by
      intro m;induction m with
      | zero=>intro _ h; omega
      | succ m ih=>
       intro hm hlt;rw[List.range_succ,List.map_append,List.map_singleton,kY];by_cases e:at_+m=a
       ·rw[if_pos e,show a-at_=m by omega]
       ·rw[if_neg e]; exact ih (by omega) (by omega)
     unfold DS.content;rw[h5,this t (by omega) (by omega)];rfl
    ·rw[if_neg hr,qY fun x hx=>by
      obtain⟨i,hi,e,_⟩:=hmem a x hx;omega,h2]
     rfl
   ·rw[eJ (by rw[hop,s1]; decide),hop];refine .inr ⟨by rw[s1]; decide,s2,s3.trans h2,s5.trans h3,fun h=>s6 (h4 h),?_⟩;rw[s4];exact hmem
  | succ k ih=>
   intro t d' hk h1 h2 h3 h4 h5;rw[tX (by omega),List.cons_append];have hop:d'.op (some (at_+t,chunk sz b t))=d'.write ((at_+t:Nat):Int) (chunk sz b t):=rfl;rcases kZ d' h1 (x:=at_+t) (l:=chunk sz b t) (by rw[h2]; omega) (by rw[h3,mM]) with ⟨s1,s2,s3,s4,s5,s6⟩ | ⟨s1,s2,s3,s4,s5,s6⟩
   ·rw[eI (by rw[hop]; exact s1),hop];refine ih (t+1) _ (by omega) s2 (s3.trans h2) (s5.trans h3) (fun h=>s6 (h4 h)) ?_;rw[s4,h5,List.range_succ,List.map_append];rfl
   ·rw[eJ (by rw[hop,s1]; decide),hop];refine .inr ⟨by rw[s1]; decide,s2,s3.trans h2,s5.trans h3,fun h=>s6 (h4 h),?_⟩;rw[s4,h5];intro a x hx;obtain⟨i,hi,e⟩:=List.mem_map.1 hx;cases e;have:=List.mem_range.1 hi;exact⟨i,by omega,rfl,rfl⟩
 have:=key (nch sz b.length) 0 d (by omega) hoff rfl hsz (fun h=>h) (by rw[hca]; rfl);rw[List.drop_zero] at this;exact this
open Go
set_option maxRecDepth 100000
attribute [push_cast] rB
end Go.Proofs.YtpgigkceoolgeaaGreatDoor.Fd
