import Derived.Test.YtpgigkceoolgeaaGreatDoorS010
set_option linter.all false
namespace Go.Proofs.YtpgigkceoolgeaaGreatDoor.Fd
open Go
set_option maxRecDepth 100000
theorem VJ:strOfNums titleL=(⟨#[106,111,117,114,110,97,108]⟩:ByteArray):=by rfl
theorem VK:Rng titleL:=by
 intro x hx;simp[titleL] at hx;omega
theorem VL {b:List Int}(h:Rng b):((strOfNums b).toList == (⟨#[106,111,117,114,110,97,108]⟩:ByteArray).toList)=decide (b=titleL):=by
 rw[←VJ]; exact dX h VK
theorem VM {w:World}{F:Nat→Prop}{b o c:Nat}{d:List Int}(h:SlB w F (.slice (some ⟨b,o,none⟩) d.length c) d){l:Nat}(hl:l≤d.length)(hc:d.length≤c):SlB w F (.slice (some ⟨b,if c=l then o else o+l,none⟩) (d.length-l) (c-l)) (d.drop l):=by
 have:=gC h (l:=l) (n:=d.length-l) (by omega) hc;rwa [List.take_of_length_le (by rw[List.length_drop]; omega)] at this
set_option maxHeartbeats 1000000 in
theorem VN {w:World}{F:Nat→Prop}{v:Value}{d:List Int}(h:SlC w F v d)(hr:Rng d)(hl:d.length≤1000000)(h0:0<d.length) :
 Ok (den Tryz.prog 55 #[v] w) fun u w'=>(∃n ok,u = .tuple #[.int .i64 ((n:Nat):Int),.bool ok]∧(headD d=if ok then some n else none)∧(ok=true→n≤1099511627776))∧Upd (fun _=>False) w w':=by
 obtain⟨va,vc,hv,hvc⟩:=h.2;subst hv;refine aB (args:=[.slice va d.length vc]) rs55 Tryz.func55 rfl mixed (by kernel_rfl) P6 rfl ?_;simp(maxSteps:=3000000)(disch:=omega)only[push_cast,seval];refine Ok.use (rM h.1 (by omega)) ?_;rintro u w1 ⟨rfl,hu1⟩;cases hz:zer0 d;rotate_left
 ·simp(maxSteps:=3000000)(disch:=omega)only[push_cast,seval];exact⟨⟨0,true,rfl,by unfold headD; rw[if_pos hz]; rfl,fun _=>by omega⟩,hu1⟩
 have hD:headD d=match byt_ d 0 with
  | none=>none
  | some (s,a)=>match num d a with
   | none=>none
   | some (n,b)=>if s=titleL∧n≤1099511627776∧zer0 (d.drop b) then some n else none:=by
  unfold headD;rw[if_neg (by rw[hz]; decide)];rfl
 rw[hD];simp(maxSteps:=3000000)(disch:=omega)only[push_cast,seval];refine Ok.use (lL (h.1.upd hu1 (fun _ h=>h.elim)) hr (by omega)) ?_;rintro u w2 ⟨p,rv,rfl,hR,hp,hu2⟩;simp(maxSteps:=3000000)(disch:=omega)only[push_cast,seval];have hu12:=hu1.trans hu2 (fun _ _ h=>h);have hs1:=hu1.size;have hpl:=hR.head.lt;refine Ok.use (rK hR) ?_;rintro u w3 ⟨hb,hu3⟩;have hu13:Upd (fun _=>False) w w3:=hu12.trans hu3 fun b hb e=>by omega
 have key : ∀{w':World},Upd (fun b=>b=p) w3 w'→Upd (fun _=>False) w w':=fun hu=>hu13.trans hu fun b hb e=>by omega
 cases hby:byt_ d 0 with
 | none=>
  rw[hby] at hb;obtain⟨rfl,item',hR3⟩:=hb;simp(maxSteps:=3000000)(disch:=omega)only[push_cast,seval];refine Ok.use (VH hR3) ?_;rintro u w4 ⟨⟨x,rfl⟩,⟨item4,hR4⟩,hu4⟩;simp(maxSteps:=3000000)(disch:=omega)only[push_cast,seval];refine Ok.use (eH hR4) ?_;rintro u w5 ⟨rfl,rfl⟩;simp(maxSteps:=3000000)(disch:=omega)only[push_cast,seval];exact⟨⟨0,false,rfl,rfl,fun h=>by cases h⟩,key hu4⟩
 | some y=>
  obtain⟨s,a⟩:=y;rw[hby] at hb;obtain⟨rfl,item',hR3⟩:=hb;have hsr:=VI hr hby
  have hte:=VL hsr;simp(maxSteps:=3000000)(disch:=omega)only[push_cast,seval];refine Ok.use (rL hR3) ?_;rintro u w4 ⟨hn,⟨x,rfl⟩,hu4⟩;have hu14:=key hu4;cases hnum:num d a with
  | none=>
   rw[hnum] at hn;obtain⟨item4,hR4⟩:=hn;simp(maxSteps:=3000000)(disch:=omega)only[push_cast,seval];refine Ok.use (eH hR4) ?_;rintro u w5 ⟨rfl,rfl⟩;simp(maxSteps:=3000000)(disch:=omega)only[push_cast,seval];exact⟨⟨0,false,rfl,rfl,fun h=>by cases h⟩,hu14⟩
  | some y=>
   obtain⟨n,b⟩:=y;rw[hnum] at hn;obtain⟨hx,item4,hR4⟩:=hn;injection hx with _ hx;subst hx;have hnx:=iR hnum;simp(maxSteps:=3000000)(disch:=omega)only[push_cast,seval];refine Ok.use (eH hR4) ?_;rintro u w5 ⟨rfl,rfl⟩;by_cases h1:s=titleL;rotate_left
   ·rw[decide_eq_false h1] at hte;simp(maxSteps:=3000000)(disch:=omega)only[push_cast,seval,hte];exact⟨⟨0,false,rfl,by rw[if_neg (fun h=>h1 h.1)]; rfl,fun h=>by cases h⟩,by first | exact hu14 | exact hu14.drew'⟩
   rw[decide_eq_true h1] at hte;by_cases h2:n≤1099511627776;rotate_left
   ·have h2':(1099511627776:Int)<n:=by omega
    simp(maxSteps:=3000000)(disch:=omega)only[push_cast,seval,hte];exact⟨⟨0,false,rfl,by rw[if_neg (fun h=>h2 h.2.1)]; rfl,fun h=>by cases h⟩,by first | exact hu14 | exact hu14.drew'⟩
   have h2' : ¬(1099511627776:Int)<n:=by omega
   have hd0:=List.getElem?_eq_getElem (l:=d) (i:=0) h0;obtain⟨g,o,c,hv,_⟩:=h.at_ hd0;injection hv with e1 _ e3;subst e1;subst e3;simp(maxSteps:=3000000)(disch:=omega)only[push_cast,seval,hte];refine Ok.use (VF hR4) ?_;rintro u w5 ⟨rfl,rfl⟩;simp(maxSteps:=3000000)(disch:=omega)only[push_cast,seval];have hsl:=VM (h.1.upd hu14 (fun _ h=>h.elim)) (l:=b) hnx.2 hvc;have hdl:(d.drop b).length=d.length-b:=List.length_drop;rw[←hdl] at hsl;rw[←hdl];refine Ok.use (rM hsl (by omega)) ?_;rintro u w5 ⟨rfl,hu5⟩;have e5:IntKind.i64.wrap (n:Int)=(n:Int):=by rw[IntKind.wrap_i64]; omega
   cases hz5:zer0 (d.drop b)
   ·simp(maxSteps:=3000000)(disch:=omega)only[push_cast,seval,hte];exact⟨⟨0,false,rfl,by simp,fun h=>by cases h⟩,hu14.trans hu5 (fun _ _ h=>h)⟩
   ·simp(maxSteps:=3000000)(disch:=omega)only[push_cast,seval,hte,e5];exact⟨⟨n,true,rfl,by simp[h1,h2],fun _=>h2⟩,hu14.trans hu5 (fun _ _ h=>h)⟩
theorem lP {ls:List (List Int)}{l:List Int}(h:l∈ls):l.length≤(stream ls).length:=by
 obtain⟨a,b,rfl⟩:=List.append_of_mem h;rw[cY,eE];simp[encB];omega
theorem VO {ls:List (List Int)}{i:Nat}{l:List Int}(h:ls[i]? =some l):stream (ls.take (i+1))=stream (ls.take i) ++ encB l:=by
 rw[List.take_add_one,h,cY];simp[stream]
theorem VP {ls:List (List Int)}:ls.length≤(stream ls).length:=by
 induction ls with
 | nil=>simp
 | cons a l ih=>
  rw[eE];have:=aS a.length;simp[encB];omega
theorem VQ {ls:List (List Int)}{i:Nat}:(stream (ls.take i)).length≤(stream ls).length:=by
 have:stream ls=stream (ls.take i) ++ stream (ls.drop i):=by rw[←cY,List.take_append_drop]
 rw[this];simp
open Go
set_option maxRecDepth 100000
theorem gH {w:World}{F:Nat→Prop}{b o c:Nat}{d:List Int}(h:SlB w F (.slice (some ⟨b,o,none⟩) d.length c) d){n:Nat}(hn:n≤d.length)(hc:d.length≤c):SlC w F (.slice (some ⟨b,o,none⟩) n c) (d.take n):=by
 have hl:(d.take n).length=n:=by rw[List.length_take]; omega
 obtain⟨a',c',hv,hli⟩:=h;injection hv with e1 e2 e3;subst e1;refine⟨⟨_,c,by rw[hl],fun h0=>?_⟩,_,c,by rw[hl],by omega⟩;obtain⟨b',o',h1,h2,h3⟩:=hli (by intro e; subst e; simp at h0);refine⟨b',o',h1,fun j hj=>?_,h3⟩;rw[aQ,hl] at hj;rw[h2 j (by rw[aQ]; omega),by8,by8,List.getElem?_map,List.getElem?_map,List.getElem?_take_of_lt hj]
open Go
set_option maxRecDepth 100000
structure Sz (n s i : Nat) (d : DS) : Prop where
 dur:d.dur.length=n
 size:d.size=s
 few:d.cache.length≤i
 cnt : ∀k,d.cnt=some k→k<9223372036854775808
theorem Sz.step {n s i:Nat}{d:DS}(h:Sz n s i d):Sz n s i d.step.2:=by
 unfold DS.step;split
 ·exact h
 ·split
  ·exact h
  ·exact⟨h.dur,h.size,h.few,h.cnt⟩
  ·rename_i k hk;exact⟨h.dur,h.size,h.few,fun j hj=>by cases hj; have:=h.cnt _ hk; omega⟩
theorem Sz.mono {n s i j:Nat}{d:DS}(h:Sz n s i d)(hij:i≤j):Sz n s j d:=⟨h.dur,h.size,Nat.le_trans h.few hij,h.cnt⟩
theorem Sz.write {n s i:Nat}{d:DS}(h:Sz n s i d)(x:Int)(l:List Int):Sz n s (i+1) (d.write x l).1:=by
 have h':=h.step;unfold DS.write;split
 ·split
  ·exact⟨h'.dur,h'.size,by have:=h'.few; simp; exact this,h'.cnt⟩
  ·exact h'.mono (by omega)
 ·exact h.mono (by omega)
theorem Sz.sync {n s i:Nat}{d:DS}(h:Sz n s i d):Sz n s i d.sync.1:=by
 have h':=h.step;unfold DS.sync;split
 ·refine⟨?_,h'.size,Nat.zero_le _,h'.cnt⟩;show(settled _ _ _ _).length=n;rw[dG];exact h'.dur
 ·exact h'
theorem Sz.fail {n s i:Nat}{d:DS}(h:Sz n s i d){x:Int}(hx:x<9223372036854775808):Sz n s i (d.fail x):=by
 unfold DS.fail;split
 ·exact h
 ·exact⟨h.dur,h.size,h.few,fun j hj=>by
   have:(max x 0).toNat=j:=by simpa using hj
   omega⟩
theorem Sz.crash {n s i:Nat}{d:DS}(h:Sz n s i d)(l:List Bool):Sz n s 0 (d.crash l):=by
 refine⟨?_,h.size,Nat.le_refl _,fun j hj=>by cases hj⟩;show(settled _ _ _ _).length=n;rw[dG];exact h.dur
theorem Sz.new {n s:Nat}:Sz n s 0 (DS.new n s):=⟨by simp [DS.new],rfl,Nat.le_refl _,fun k h=>by cases h⟩
structure JS where
 first:Nat
 area:Nat
 stream:List Int
 down:Bool
def jwrite (s:DS×JS)(x:Int)(b:List Int):DS×JS:=
 ((s.1.write ((s.2.first:Int)+x) (pad s.1.size b)).1,{s.2 with down:=s.2.down || decide ((s.1.write ((s.2.first:Int)+x) (pad s.1.size b)).2≠0)})
def jsync (s:DS×JS):DS×JS:=(s.1.sync.1,{s.2 with down:=s.2.down || decide (s.1.sync.2≠0)})
def jcommit (s:DS×JS)(n:Nat):DS×JS:=if (jwrite s 0 (headL n)).2.down then jwrite s 0 (headL n) else jsync (jwrite s 0 (headL n))
def jready (s:DS×JS):DS×JS:=(s.1,{s.2 with down:=s.2.down || s.1.off})
def JO (w:World)(F:Nat→Prop)(p jb:Nat)(j:JS):Prop:=∃sv,Blk w jb [.pointer (some ⟨p,0,none⟩),.int .i64 j.first,.int .i64 j.area,sv,.bool j.down] 108∧SlC w F sv j.stream∧Rng j.stream
def FF (D J:Nat→Prop)(b:Nat):Prop:=D b∨J b
structure JW (w : World) (D J : Nat → Prop) (p jb : Nat) (s : DS × JS) : Prop where
 disk:IsDisk w D p s.1
 obj:JO w (FF D J) p jb s.2
 jj:J jb
 sep : ∀b,J b→¬D b∧b<w.heap.size
structure JT (w w' : World) (D D' : Nat → Prop) (jb : Nat) : Prop where
 new : ∀b,D' b→gr D w w' b
 old : ∀b,D b→D' b
 upd:Upd (fun b=>D b∨b=jb) w w'
theorem JT.refl {w:World}{D:Nat→Prop}{jb:Nat}:JT w w D D jb:=⟨fun _ h=>.inl h,fun _ h=>h,Upd.refl⟩
theorem JT.trans {w w' w'':World}{D D' D'':Nat→Prop}{jb:Nat}(h1:JT w w' D D' jb)(h2:JT w' w'' D' D'' jb):JT w w'' D D'' jb:=by
 have s1:=h1.upd.size;have s2:=h2.upd.size;refine⟨fun b hb=>?_,fun b hb=>h2.old b (h1.old b hb),h1.upd.trans h2.upd fun b hb h=>?_⟩
 ·rcases h2.new b hb with h | h
  ·rcases h1.new b h with h | h
   ·exact .inl h
   ·exact .inr ⟨h.1,by omega⟩
  ·exact .inr ⟨by omega,h.2⟩
 ·rcases h with h | h
  ·rcases h1.new b h with h | h
   ·exact .inl h
   ·omega
  ·exact .inr h
theorem JT.quiet {w w':World}{D:Nat→Prop}{jb:Nat}(hu:Upd (fun _=>False) w w'):JT w w' D D jb:=⟨fun _ h=>.inl h,fun _ h=>h,hu.mono fun _ _ h=>h.elim⟩
theorem JT.slb {w w':World}{D D' J:Nat→Prop}{jb:Nat}(h:JT w w' D D' jb)(hj:J jb){v:Value}{l:List Int}(hs:SlB w (FF D J) v l):SlB w' (FF D' J) v l:=by
 refine hs.go h.upd fun b hb hh=>?_;rcases hh with (hh | hh) | (hh | hh)
 ·exact .inl hh
 ·exact .inr (by rw[hh]; exact hj)
 ·rcases h.new b hh with hh | hh
  ·exact .inl hh
  ·omega
 ·exact .inr hh
theorem JT.slc {w w':World}{D D' J:Nat→Prop}{jb:Nat}(h:JT w w' D D' jb)(hj:J jb){v:Value}{l:List Int}(hs:SlC w (FF D J) v l):SlC w' (FF D' J) v l:=⟨h.slb hj hs.1,hs.2⟩
theorem JT.slr {w w':World}{D D' J:Nat→Prop}{jb:Nat}(h:JT w w' D D' jb)(hj:J jb){v:Value}{ls:List (List Int)}(hs:SlR w (FF D J) v ls):SlR w' (FF D' J) v ls:=by
 refine hs.go h.upd fun b hb hh=>?_;rcases hh with (hh | hh) | (hh | hh)
 ·exact .inl hh
 ·exact .inr (by rw[hh]; exact hj)
 ·rcases h.new b hh with hh | hh
  ·exact .inl hh
  ·omega
 ·exact .inr hh
theorem JT.other {w w':World}{D D' J:Nat→Prop}{p jb jb2:Nat}{j2:JS}(h:JT w w' D D' jb)(hj:J jb)(ho:JO w (FF D J) p jb2 j2)(hne:jb2≠jb)(hD : ¬D jb2):JO w' (FF D' J) p jb2 j2:=by
 obtain⟨sv,h1,h2,h3⟩:=ho;exact⟨sv,h1.upd h.upd fun hh=>hh.elim hD hne,h.slc hj h2,h3⟩
theorem JW.quiet {w w':World}{D J:Nat→Prop}{p jb:Nat}{s:DS×JS}(h:JW w D J p jb s)(hu:Upd (fun _=>False) w w'):JW w' D J p jb s:=by
 obtain⟨sv,h1,h2,h3⟩:=h.obj;exact⟨h.disk.upd hu (fun _ _ h=>h),⟨sv,h1.upd hu (fun h=>h),h2.upd hu (fun _ h=>h.elim),h3⟩,h.jj,fun b hb=>⟨(h.sep b hb).1,Nat.lt_of_lt_of_le (h.sep b hb).2 hu.size⟩⟩
theorem JW.disked {w w':World}{D D' J:Nat→Prop}{p jb:Nat}{s:DS×JS}{d':DS}(h:JW w D J p jb s)(hd:IsDisk w' D' p d')(ht:JT w w' D D' jb)(hu:Upd D w w'):JW w' D' J p jb (d',s.2):=by
 obtain⟨sv,h1,h2,h3⟩:=h.obj;refine⟨hd,⟨sv,h1.upd hu (h.sep jb h.jj).1,ht.slc h.jj h2,h3⟩,h.jj,fun b hb=>⟨fun hb2=>?_,Nat.lt_of_lt_of_le (h.sep b hb).2 hu.size⟩⟩;rcases ht.new b hb2 with hh | hh
 ·exact(h.sep b hb).1 hh
 ·have:=(h.sep b hb).2; omega
theorem JW.set {w w':World}{D J:Nat→Prop}{p jb:Nat}{s:DS×JS}{j':JS}(h:JW w D J p jb s)(hu:Upd (fun b=>b=jb) w w')(ho:JO w' (FF D J) p jb j'):JW w' D J p jb (s.1,j')∧JT w w' D D jb:=by
 refine⟨⟨h.disk.upd hu fun b hb e=>(h.sep jb h.jj).1 (by rw[←e]; exact hb),ho,h.jj,fun b hb=>⟨(h.sep b hb).1,Nat.lt_of_lt_of_le (h.sep b hb).2 hu.size⟩⟩,⟨fun b hb=>.inl hb,fun b hb=>hb,hu.mono fun b _ e=>.inr e⟩⟩
theorem JW.goDown {w:World}{D J:Nat→Prop}{p jb:Nat}{s:DS×JS}(h:JW w D J p jb s)(b:Bool):JW (w.setCell ⟨jb,4,none⟩ (.bool b)) D J p jb (s.1,{s.2 with down:=b})∧JT w (w.setCell ⟨jb,4,none⟩ (.bool b)) D D jb:=by
 obtain⟨sv,h1,h2,h3⟩:=h.obj;have hu:Upd (fun x=>x=jb) w (w.setCell ⟨jb,4,none⟩ (.bool b)):=Upd.set rfl;exact h.set hu ⟨sv,h1.set 4 _,h2.upd hu (fun x e=>.inr (by rw[e]; exact h.jj)),h3⟩
theorem rO {w:World}{D J:Nat→Prop}{p jb:Nat}{s:DS×JS}(h:JW w D J p jb s) :
 Ok (den Tryz.prog 141 #[.pointer (some ⟨jb,0,none⟩)] w) fun u w'=>u = .bool (!(jready s).2.down)∧JW w' D J p jb (jready s)∧JT w w' D D jb:=by
 obtain⟨d,j⟩:=s;obtain⟨sv,h1,h2,h3⟩:=id h.obj;obtain⟨sa,sc,rfl,_⟩:=id h2.2;refine aB (args:=[.pointer (some ⟨jb,0,none⟩)]) rs141 Tryz.func141 rfl mixed (by kernel_rfl) SK rfl ?_;have hh:=h.goDown (j.down || d.off);have hlt:=h1.lt;cases hd:j.down
 ·rw[hd] at h1 hh;simp(maxSteps:=3000000)(disch:=omega)only[push_cast,seval,h1.cell,h1.free];refine Ok.use (lD h.disk) ?_;rintro u w1 ⟨rfl,rfl⟩;have hb:=hh.1.obj;obtain⟨sv2,h4,_,_⟩:=hb;rw[Bool.false_or] at hh h4;simp only at hh h4;have e:jready (d,j)=(d,{j with down:=d.off}):=by simp[jready,hd]
  rw[e];cases ho:d.off
  ·rw[ho] at hh h4;simp(maxSteps:=3000000)(disch:=omega)only[push_cast,seval,h1.cell,h1.free,h4.cell];exact hh
  ·rw[ho] at hh h4;simp(maxSteps:=3000000)(disch:=omega)only[push_cast,seval,h1.cell,h1.free,h4.cell];exact hh
 ·rw[hd] at h1 hh;have hb:=hh.1.obj;obtain⟨sv2,h4,_,_⟩:=hb;rw[Bool.true_or] at hh h4;simp only at hh h4;have e:jready (d,j)=(d,{j with down:=true}):=by simp[jready,hd]
  rw[e];simp(maxSteps:=3000000)(disch:=omega)only[push_cast,seval,h1.cell,h1.free,h4.cell];exact hh
open Go
set_option maxRecDepth 100000
theorem JW.down_iff {w:World}{D J:Nat→Prop}{p jb:Nat}{s:DS×JS}(h:JW w D J p jb s) : ∃sa sc,Blk w jb [.pointer (some ⟨p,0,none⟩),.int .i64 s.2.first,.int .i64 s.2.area,.slice sa s.2.stream.length sc,.bool s.2.down] 108∧s.2.stream.length≤sc∧SlC w (FF D J) (.slice sa s.2.stream.length sc) s.2.stream∧Rng s.2.stream:=by
 obtain⟨sv,h1,h2,h3⟩:=h.obj;obtain⟨sa,sc,rfl,hc⟩:=id h2.2;exact⟨sa,sc,h1,hc,h2,h3⟩
theorem rP {d:DS}{x:Int}{l:List Int}:(d.write x l).2=0∨(d.write x l).2=1∨(d.write x l).2=8:=by
 unfold DS.write;split
 ·split
  ·exact .inl rfl
  ·exact .inr (.inr rfl)
 ·exact .inr (.inl rfl)
theorem VR {d:DS}:d.sync.2=0∨d.sync.2=8:=by
 unfold DS.sync;split
 ·exact .inl rfl
 ·exact .inr rfl
set_option maxHeartbeats 1000000 in
theorem rQ {w:World}{D J:Nat→Prop}{p jb:Nat}{s:DS×JS}(h:JW w D J p jb s){n sz i:Nat}(hs:Sz n sz i s.1)(hi:i≤900000000)(hz:0<sz)(hz2:sz≤4096)(hf:s.2.first≤100000){x:Nat}(hx:x≤1000000)
 {y:Value} {b:List Int} (hy:SlB w (FF D J) y b) (hb0:0<b.length) (hb:b.length≤sz) :
 Ok (den Tryz.prog 142 #[.pointer (some ⟨jb,0,none⟩),.int .i64 (x:Int),y] w) fun u w'=>u = .bool (!(jwrite s x b).2.down)∧∃D',JW w' D' J p jb (jwrite s x b)∧JT w w' D D' jb:=by
 obtain⟨sa,sc,h1,hc,h2,h3⟩:=h.down_iff;obtain⟨ya,yc,rfl,hyl⟩:=id hy;obtain⟨yb,yo,rfl,hlies,hyF⟩:=hyl (by intro e; rw[e] at hb0; simp at hb0);have hylt:=hlies.lt hb0;have hsz:=hs.size;refine aB (args:=[.pointer (some ⟨jb,0,none⟩),.int .i64 (x:Int),.slice (some ⟨yb,yo,none⟩) b.length yc]) rs142 Tryz.func142 rfl mixed (by kernel_rfl) SL rfl ?_;simp(maxSteps:=3000000)(disch:=omega)only[push_cast,seval,h1.cell,h1.free];refine Ok.use (bP h.disk) ?_;rintro u w1 ⟨rfl,rfl⟩;rw[hsz];simp(maxSteps:=3000000)(disch:=omega)only[push_cast,seval,h1.cell,h1.free];have hnew:Blk (w.alloc (.cells (List.replicate sz (Value.int .u8 0)).toArray 5 (0,0))) w.heap.size (List.replicate sz (Value.int .u8 0)) 5:=Blk.new;have hal:Upd (fun _=>False) w (w.alloc (.cells (List.replicate sz (Value.int .u8 0)).toArray 5 (0,0))):=Upd.alloc;rw[iM cG bJ hnew (cs:=by8 b) (by rw[aQ]; omega) (fun j hj=>(hlies.upd hal hylt (fun h=>h)) j hj) (by rw[aQ,List.length_replicate]; omega) dD];have e:(List.replicate sz (Value.int IntKind.u8 0)).take 0 ++ by8 b ++ (List.replicate sz (Value.int IntKind.u8 0)).drop (0+(by8 b).length)=by8 (pad sz b):=by
  rw[List.take_zero,List.nil_append,List.drop_replicate,aQ,Nat.zero_add,pad,cH];simp[by8]
 have hset:Blk ((w.alloc (.cells (List.replicate sz (Value.int .u8 0)).toArray 5 (0,0))).setRow w.heap.size (by8 (pad sz b)).toArray) w.heap.size (by8 (pad sz b)) 5:=hnew.setRow;have huw:Upd (fun _=>False) w ((w.alloc (.cells (List.replicate sz (Value.int .u8 0)).toArray 5 (0,0))).setRow w.heap.size (by8 (pad sz b)).toArray):=hal.trans (Upd.setRow (F:=fun b=>b=w.heap.size) rfl) (fun b h1 h2=>by omega);have hpl:=gG hb;rw[e];generalize (w.alloc (.cells (List.replicate sz (Value.int .u8 0)).toArray 5 (0,0))).setRow w.heap.size (by8 (pad sz b)).toArray=w1 at *;have hw1:=h.quiet huw;obtain⟨sa1,sc1,g1,_,_,_⟩:=hw1.down_iff;have hD : ¬D w.heap.size:=fun hd=>by have:=h.disk.bd _ hd; omega
 have hsl:SlB w1 D (.slice (some ⟨w.heap.size,0,none⟩) sz sz) (pad sz b):=by
  have:=cX hset (c:=sz) hD;rw[hpl] at this;exact this
 simp(maxSteps:=3000000)(disch:=omega)only[push_cast,seval,g1.cell,g1.free];replace hsl:=hsl.upd (Upd.drew (F:=fun _=>False)) (fun _ h=>h.elim);replace huw:=huw.drew';have hw1:=h.quiet huw;have g1d:=g1.drew;generalize w1.drew=w1' at *;refine Ok.use (qG hw1.disk (by rw[hsz]; exact hz) (by have:=hs.few; omega) hs.cnt _ hsl) ?_;rintro u w2 ⟨rfl,hd2,hu2⟩;have ht2:JT w1' w2 D (gr D w1' w2) jb:=⟨fun b hb=>hb,fun b hb=>.inl hb,hu2.mono fun b _ hb=>.inl hb⟩;have hw2:=hw1.disked hd2 ht2 hu2;obtain⟨sa2,sc2,g2,_,_,_⟩:=hw2.down_iff;have hjw:jwrite s x b=((s.1.write ((s.2.first:Int)+x) (pad sz b)).1,{s.2 with down:=s.2.down || decide ((s.1.write ((s.2.first:Int)+x) (pad sz b)).2≠0)}):=by
  unfold jwrite; rw[hsz]
 have hcode:=rP (d:=s.1) (x:=(s.2.first:Int)+x) (l:=pad sz b);have ht:JT w w2 D (gr D w1' w2) jb:=(JT.quiet huw).trans ht2;rw[hjw];generalize (s.1.write ((s.2.first:Int)+x) (pad sz b))=r at *;obtain⟨d',code⟩:=r;obtain⟨d,j⟩:=s;dsimp only at hcode hw2 g2 ⊢;by_cases hc0:code=0
 ·subst hc0;have e2:({j with down:=j.down || decide ((0:Int)≠0)}:JS)=j:=by simp
  rw[e2];simp(maxSteps:=3000000)(disch:=omega)only[push_cast,seval,g1.cell,g1d.cell,g2.cell,g2.free];exact⟨by simp,_,hw2,ht⟩
 ·have e2:({j with down:=j.down || decide (code≠0)}:JS) = {j with down:=true}:=by simp[hc0]
  rw[e2];obtain⟨hw3,ht3⟩:=hw2.goDown true;obtain⟨sa3,sc3,g3,_,_,_⟩:=hw3.down_iff;dsimp only at g3;simp(maxSteps:=3000000)(disch:=omega)only[push_cast,seval,g1.cell,g1d.cell,g2.cell,g2.free,g3.cell];exact⟨by simp,_,hw3,ht.trans ht3⟩
theorem rR {w:World}{D J:Nat→Prop}{p jb:Nat}{s:DS×JS}(h:JW w D J p jb s){n sz i:Nat}(hs:Sz n sz i s.1)(hi:i≤900000000) :
 Ok (den Tryz.prog 143 #[.pointer (some ⟨jb,0,none⟩)] w) fun u w'=>u = .bool (!(jsync s).2.down)∧∃D',JW w' D' J p jb (jsync s)∧JT w w' D D' jb:=by
 obtain⟨sa,sc,h1,hc,h2,h3⟩:=h.down_iff;refine aB (args:=[.pointer (some ⟨jb,0,none⟩)]) rs143 Tryz.func143 rfl mixed (by kernel_rfl) SM rfl ?_;simp(maxSteps:=3000000)(disch:=omega)only[push_cast,seval,h1.cell,h1.free];refine Ok.use (qM h.disk (by have:=hs.few; omega) hs.cnt) ?_;rintro u w2 ⟨rfl,hd2,hu2⟩;have ht2:JT w w2 D (gr D w w2) jb:=⟨fun b hb=>hb,fun b hb=>.inl hb,hu2.mono fun b _ hb=>.inl hb⟩;have hw2:=h.disked hd2 ht2 hu2;obtain⟨sa2,sc2,g2,_,_,_⟩:=hw2.down_iff;have hcode:=VR (d:=s.1);unfold jsync;generalize s.1.sync=r at *;obtain⟨d',code⟩:=r;obtain⟨d,j⟩:=s;dsimp only at hcode hw2 g2 ⊢;by_cases hc0:code=0
 ·subst hc0;have e2:({j with down:=j.down || decide ((0:Int)≠0)}:JS)=j:=by simp
  rw[e2];simp(maxSteps:=3000000)(disch:=omega)only[push_cast,seval,g2.cell,g2.free];exact⟨by simp,_,hw2,ht2⟩
 ·have e2:({j with down:=j.down || decide (code≠0)}:JS) = {j with down:=true}:=by simp[hc0]
  rw[e2];obtain⟨hw3,ht3⟩:=hw2.goDown true;obtain⟨sa3,sc3,g3,_,_,_⟩:=hw3.down_iff;dsimp only at g3;simp(maxSteps:=3000000)(disch:=omega)only[push_cast,seval,g2.cell,g2.free,g3.cell];exact⟨by simp,_,hw3,ht2.trans ht3⟩
theorem rS {w:World}{D J:Nat→Prop}{p jb:Nat}{s:DS×JS}(h:JW w D J p jb s){n sz i:Nat}(hs:Sz n sz i s.1)(hi:i≤800000000)(hz:18≤sz+2)(hz2:sz≤4096)(hf:s.2.first≤100000){k:Nat}(hk:k≤1000000)(hsz:(headL k).length≤sz) :
 Ok (den Tryz.prog 144 #[.pointer (some ⟨jb,0,none⟩),.int .i64 (k:Int)] w) fun u w'=>u = .bool (!(jcommit s k).2.down)∧∃D',JW w' D' J p jb (jcommit s k)∧JT w w' D D' jb:=by
 refine aB (args:=[.pointer (some ⟨jb,0,none⟩),.int .i64 (k:Int)]) rs144 Tryz.func144 rfl mixed (by kernel_rfl) SN rfl ?_;simp(maxSteps:=3000000)(disch:=omega)only[push_cast,seval];have hu0:Upd (fun _=>False) w (w.alloc (.cells [Value.slice none 0 0].toArray 165 (0,0))):=Upd.alloc;have hw0:WrI (w.alloc (.cells [Value.slice none 0 0].toArray 165 (0,0))) (fun b=>b=w.heap.size) w.heap.size []:=⟨_,Blk.new,Bow.nil,rfl,by simp[Value.ownBlock],fun b hb=>by rw[hb,aI]; omega⟩;have hsz0:(w.alloc (.cells [Value.slice none 0 0].toArray 165 (0,0))).heap.size=w.heap.size+1:=aI;generalize (w.alloc (.cells [Value.slice none 0 0].toArray 165 (0,0)))=w0 at *;refine Ok.use (lK hw0 (s:=⟨#[106,111,117,114,110,97,108]⟩) (by decide) (by simp)) ?_;rintro u w1 ⟨hw1,hu1⟩;have hst:strL (⟨#[106,111,117,114,110,97,108]⟩:ByteArray)=titleL:=by rfl
 rw[hst,List.nil_append] at hw1;have e1:IntKind.u64.wrap (k:Int)=(k:Int):=by rw[IntKind.wrap_u64]; omega
 simp(maxSteps:=3000000)(disch:=omega)only[push_cast,seval,e1];refine Ok.use (bM hw1 (n:=k) (by omega) (by rw[cQ]; simp)) ?_;rintro u w2 ⟨hw2,hu2⟩;have hw:encB titleL ++ encU k=headL k:=rfl;rw[hw] at hw2;simp(maxSteps:=3000000)(disch:=omega)only[push_cast,seval];refine Ok.use (eF hw2 (by omega)) ?_;rintro u w3 ⟨hown,hfr,hu3⟩;have hs1:=hu1.size;have hs2:=hu2.size;have hu02:Upd (fun _=>False) w w2:=hu0.trans (hu1.gr hu2) fun b hb e=>by omega
 have hu03:=hu02.trans hu3 (fun _ _ h=>h);have hs02:=hu02.size;obtain⟨ua,uc,rfl,_⟩:=hown.form;have hl:=lJ (n:=k);have hy:SlB w3 (FF D J) (.slice ua (headL k).length uc) (headL k):=hown.slb fun g hg hF=>by
  have:=hfr g hg;rcases hF with hF | hF
  ·have:=h.disk.bd g hF; omega
  ·have:=(h.sep g hF).2; omega
 have hw3:=h.quiet hu03;simp(maxSteps:=3000000)(disch:=omega)only[push_cast,seval];refine Ok.use (rQ hw3 hs (by omega) (by omega) hz2 hf (x:=0) (by omega) hy (by omega) hsz) ?_;rintro u w4 ⟨rfl,D4,hw4,ht4⟩;have ht04:=(JT.quiet hu03).trans ht4;unfold jcommit;cases hd:(jwrite s 0 (headL k)).2.down
 ·simp only[Bool.false_eq_true,if_false];simp(maxSteps:=3000000)(disch:=omega)only[push_cast,seval];refine Ok.use (rR hw4 (hs.write _ _) (by omega)) ?_;rintro u w5 ⟨rfl,D5,hw5,ht5⟩;simp(maxSteps:=3000000)(disch:=omega)only[push_cast,seval];exact⟨D5,hw5,ht04.trans ht5⟩
 ·simp only[if_true];simp(maxSteps:=3000000)(disch:=omega)only[push_cast,seval];exact⟨by rw[hd]; rfl,D4,hw4,ht04⟩
open Go
set_option maxRecDepth 100000
def jloop (next:List Int):Nat→Nat→DS×JS→DS×JS
 | 0,_,s=>s
 | k+1,i,s=>if i*s.1.size<next.length then (if (jwrite s ((1+i:Nat):Int) ((next.drop (i*s.1.size)).take s.1.size)).2.down then jwrite s ((1+i:Nat):Int) ((next.drop (i*s.1.size)).take s.1.size)
  else jloop next k (i+1) (jwrite s ((1+i:Nat):Int) ((next.drop (i*s.1.size)).take s.1.size))) else s
def jappend (s:DS×JS)(recs:List (List Int)):(DS×JS)×Int:=
 if (jready s).2.down then (jready s,8) else
 if recs = [] then (jready s,0) else
 if s.2.area-s.2.stream.length<(stream recs).length then (jready s,7) else
 let s2:=jloop (s.2.stream ++ stream recs) (s.2.stream ++ stream recs).length (s.2.stream.length/s.1.size) (jready s)
 if s2.2.down then (s2,8) else
 if (jsync s2).2.down then (jsync s2,8) else
 let s4:=jcommit (jsync s2) (s.2.stream ++ stream recs).length
 if s4.2.down then (s4,8) else ((s4.1,{s4.2 with stream:=s.2.stream ++ stream recs}),0)
def jreset (s:DS×JS):(DS×JS)×Int:=
 if (jready s).2.down then (jready s,8) else
 if (jcommit (jready s) 0).2.down then (jcommit (jready s) 0,8) else (((jcommit (jready s) 0).1,{(jcommit (jready s) 0).2 with stream:=[]}),0)
theorem VS {w:World}{D J:Nat→Prop}{p jb:Nat}{s:DS×JS}(h:JW w D J p jb s)(hl:s.2.stream.length≤1000000) :
 Ok (den Tryz.prog 23 #[.pointer (some ⟨jb,0,none⟩)] w) fun u w'=>(match spl s.2.stream with | none=>u = .slice none 0 0 | some ls=>SlR w' (fun b=>b<w.heap.size) u ls)∧Upd (fun _=>False) w w':=by
 obtain⟨sa,sc,h1,hc,h2,h3⟩:=h.down_iff;refine aB (args:=[.pointer (some ⟨jb,0,none⟩)]) rs23 Tryz.func23 rfl mixed (by kernel_rfl) PB rfl ?_;simp(maxSteps:=3000000)(disch:=omega)only[push_cast,seval,h1.cell];refine Ok.use (rN h2.1 h3 hl) ?_;rintro u w1 ⟨⟨u0,ok,rfl,hm⟩,hu⟩;simp(maxSteps:=3000000)(disch:=omega)only[push_cast,seval];refine⟨?_,hu⟩;revert hm;cases spl s.2.stream with
 | none=>exact fun h=>h.2
 | some ls=>exact fun h=>h.2
theorem lQ {k:Nat}(h:k<2 ^ 21):(headL k).length≤11:=by
 rw[lJ];have:=rA (k:=2) (n:=k) h;omega
theorem rT {next:List Int} : ∀{k i:Nat} {s:DS×JS},(jloop next k i s).2.first=s.2.first∧(jloop next k i s).2.area=s.2.area∧(jloop next k i s).2.stream=s.2.stream
 | 0,_,_=>⟨rfl,rfl,rfl⟩
 | k+1,i,s=>by
  rw[jloop];split
  ·split
   ·exact⟨rfl,rfl,rfl⟩
   ·exact rT (k:=k)
  ·exact⟨rfl,rfl,rfl⟩
theorem Sz.jwrite {n sz i:Nat}{s:DS×JS}(h:Sz n sz i s.1)(x:Int)(b:List Int):Sz n sz (i+1) (jwrite s x b).1:=h.write _ _
theorem VT {w:World}{k k':IntKind}{n:Int}(h0:0≤n)(h1:n≤1000000000):mkS Tryz.prog 55 (.int k 0) (.int k' n) w=some (.slice (some ⟨w.heap.size,0,none⟩) 0 n.toNat,w.alloc (.cells (List.replicate n.toNat (Value.int .u8 0)).toArray 5 (0,0))):=by
 have hi : ∃i,Tryz.prog.info? 5=some i∧i.size=1∧i.bytes=1∧i.zero=some (.int .u8 0):=by
  have hs:=bJ;have hb:=fY;have hz:=fZ;unfold siz at hs;unfold byt at hb;unfold zer at hz;cases hi:Tryz.prog.info? 5 with
  | none=>rw[hi] at hs; cases hs
  | some i=>
   rw[hi] at hb hz hs;simp only[Option.map_some,Option.some.injEq,Option.bind_some] at hb hz hs;exact⟨i,rfl,hs,hb,hz⟩
 obtain⟨i,hi,hs,hb,hz⟩:=hi;have hr:=run_make (P:=Tryz.prog) w 55 5 i _ Tryz.underlying55 hi hz k k' 0 n (Int.le_refl _) h0 (by rw[hb]; omega) (by omega);have hc:(Value.int IntKind.u8 0).cells = #[Value.int .u8 0]:=rfl;unfold mkS lift;rw[hr,hs,Nat.mul_one,hc,pH];rfl
attribute [push_cast] VT
theorem Bow.made {w:World}{n:Nat}(h:n≤1000000000):Bow (w.alloc (.cells (List.replicate n (Value.int .u8 0)).toArray 5 (0,0))) (.slice (some ⟨w.heap.size,0,none⟩) 0 n) []:=
 World.ownsRow_made w _ n (Nat.zero_le _) (by unfold maxLen; omega) (by simp)
set_option maxHeartbeats 4000000 in
theorem VU {w:World}{D J:Nat→Prop}{p jb:Nat}{s:DS×JS}(h:JW w D J p jb s){n sz i:Nat}(hs:Sz n sz i s.1)(hi:i≤700000000)(hz:16≤sz)(hz2:sz≤4096)(hf:s.2.first≤100000)(hl:s.2.stream.length≤s.2.area)(ha:s.2.area≤250000)
 {y:Value} {recs:List (List Int)} (hy:SlR w (FF D J) y recs) (hr:RngL recs) (hrl:(stream recs).length≤1000000) :
 Ok (den Tryz.prog 111 #[.pointer (some ⟨jb,0,none⟩),y] w) fun u w'=>u = .int .i64 (jappend s recs).2∧∃D',JW w' D' J p jb (jappend s recs).1∧JT w w' D D' jb:=by
 obtain⟨ya,yc,rfl,_⟩:=id hy;refine aB (args:=[.pointer (some ⟨jb,0,none⟩),.slice ya recs.length yc]) rs111 Tryz.func111 rfl mixed (by kernel_rfl) RP rfl ?_;simp(maxSteps:=3000000)(disch:=omega)only[push_cast,seval];refine Ok.use (rO h) ?_;rintro u w1 ⟨rfl,hw1,ht1⟩;have hf1:(jready s).2.first=s.2.first:=rfl
 have ha1:(jready s).2.area=s.2.area:=rfl;have hst1:(jready s).2.stream=s.2.stream:=rfl;have hd1:(jready s).1=s.1:=rfl;have hA:jappend s recs=_:=rfl;conv at hA=>rhs; unfold jappend
 cases hdn:(jready s).2.down;rotate_left
 ·rw[if_pos hdn] at hA;rw[hA];simp(maxSteps:=3000000)(disch:=omega)only[push_cast,seval];exact⟨D,hw1,ht1⟩
 rw[if_neg (by rw[hdn]; decide)] at hA;rw[←hd1] at hs;generalize hs1e:jready s=s1 at *;by_cases hr0:recs = []
 ·rw[if_pos hr0] at hA;rw[hA];subst hr0;simp(maxSteps:=3000000)(disch:=omega)only[push_cast,seval];exact⟨D,hw1,ht1⟩
 rw[if_neg hr0] at hA;have hr0' : ¬(recs.length:Int)=0:=by
  intro e;exact hr0 (List.eq_nil_of_length_eq_zero (by omega))
 have hy1:=ht1.slr h.jj hy;have hu2:Upd (fun _=>False) w1 (w1.alloc (.cells [Value.slice none 0 0].toArray 165 (0,0))):=Upd.alloc;have hwr:WrI (w1.alloc (.cells [Value.slice none 0 0].toArray 165 (0,0))) (fun b=>b=w1.heap.size) w1.heap.size []:=⟨_,Blk.new,Bow.nil,rfl,by simp[Value.ownBlock],fun b hb=>by rw[hb,aI]; omega⟩;simp(maxSteps:=3000000)(disch:=omega)only[push_cast,seval];generalize w1.alloc (.cells [Value.slice none 0 0].toArray 165 (0,0))=w2 at *;have hw2:=hw1.quiet hu2;have hy2:=hy1.go (F':=FF D J) hu2 fun b _ h=>h.elim False.elim id;have ht2:=ht1.trans (JT.quiet hu2);have hs12:=hu2.size;have hql:=hwr;have hq:w1.heap.size<w2.heap.size:=by
  obtain⟨v,hv⟩:=hwr;exact hv.head.lt
 have hrn:=VP (ls:=recs);have hgr0:WrI w2 (gr (fun b=>b=w1.heap.size) w2 w2) w1.heap.size []:=by
  obtain⟨v,hv⟩:=hwr;exact⟨v,hv.head,hv.own,.inl rfl,fun g hg=>⟨.inl (hv.fv g hg).1,(hv.fv g hg).2⟩,fun b hb=>hb.elim (hv.bd b) fun x=>x.2⟩
 refine aG (I:=fun k st w'=>Bx (∃idx,k+idx=recs.length∧st = [.int .i64 (idx:Int)]∧WrI w' (gr (fun b=>b=w1.heap.size) w2 w') w1.heap.size (stream (recs.take idx))∧Upd (fun b=>b=w1.heap.size) w2 w') ⟨⟩) ?_ recs.length
  ⟨0,rfl,rfl,hgr0,Upd.refl⟩
 clear hwr hql hgr0;rintro k st w3 ⟨idx,hk,rfl,hwr,hu3⟩;have htl:=VQ (ls:=recs) (i:=idx);have hu13:Upd (fun _=>False) w1 w3:=hu2.trans hu3 fun b hb e=>by omega
 by_cases hk0:k=0;rotate_left
 ·have hidx:idx<recs.length:=by omega
  have hx:=List.getElem?_eq_getElem hidx;have hxl:=lP (List.getElem_mem hidx);generalize recs[idx]=x at hx hxl;obtain⟨b,o,ea,ec,rfl,q0,s0⟩:=(hy1.go hu13 (F':=FF D J) fun b _ h=>h.elim False.elim id).at_ hx;have s1:SlB w3 (gr (fun b=>b=w1.heap.size) w2 w3) (.slice ea x.length ec) x:=by
   obtain⟨b',o',ea',ec',e1,q1,s1⟩:=(hy1.go (w':=w1) (F':=fun b=>FF D J b∨w1.heap.size≤b) (Upd.refl (F:=fun _=>False)) fun b hb h=>h.elim False.elim fun h=>h.elim id fun h=>by omega).at_ hx;injection e1 with e1;injection e1 with e1 e2;subst e1;subst e2;have hbl:b<w1.heap.size:=World.block_lt_of_cell? _ _ q1;rw[World.cell?_of_block (hu13.block b hbl (fun h=>h)),q1] at q0;injection q0 with q0;injection q0 with q0 q0' q0'';subst q0;subst q0'';exact s1.go hu13 fun b hb h=>.inr (h.elim False.elim fun h=>h.elim (fun e=>by omega) fun h=>by omega)
  have hst:=VO hx;simp(maxSteps:=3000000)(disch:=omega)only[push_cast,seval,q0];refine Ok.use (cR hwr s1 (fun b hb=>hb) (by omega) (by omega)) ?_;rintro u w4 ⟨hwr4,hu4⟩;simp(maxSteps:=3000000)(disch:=omega)only[push_cast,seval];refine⟨k-1,by omega,idx+1,by omega,by simp,?_,hu3.gr hu4⟩;rw[hst];exact WrI.re hwr4 hu3.size hu4.size
 obtain rfl:idx=recs.length:=by omega
 rw[List.take_length] at hwr;clear hk hk0 htl;obtain⟨sa,sc,g1,hgc,g2,g3⟩:=(hw1.quiet hu13).down_iff;simp(maxSteps:=3000000)(disch:=omega)only[push_cast,seval];refine Ok.use (eF hwr (by omega)) ?_;rintro u w4 ⟨hmore,hmfr,hu4⟩;obtain⟨ma,mc,rfl,_⟩:=hmore.form;have hu14:=hu13.trans hu4 (fun _ _ h=>h);have hw4:=hw1.quiet hu14;obtain⟨sa4,sc4,b4,hbc,c4,d4⟩:=hw4.down_iff;have b4':=b4;rw[ha1,hst1] at b4;by_cases hfull:s.2.area-s.2.stream.length<(stream recs).length
 ·rw[if_pos hfull] at hA;rw[hA];have hfull':(s.2.area:Int)-s.2.stream.length<(stream recs).length:=by omega
  simp(maxSteps:=3000000)(disch:=omega)only[push_cast,seval,b4.cell];exact⟨D,hw4.quiet (by first | exact Upd.drew | exact Upd.refl),(ht1.trans (JT.quiet hu14)).trans (JT.quiet (by first | exact Upd.drew | exact Upd.refl))⟩
 rw[if_neg hfull] at hA;have hfull' : ¬(s.2.area:Int)-s.2.stream.length<(stream recs).length:=by omega
 have hst4:SlB w4 (FF D J) (.slice sa4 s.2.stream.length sc4) s.2.stream:=by
  have:=c4.1;rw[hst1] at this;exact this
 have rst4:Rng s.2.stream:=by rw[←hst1]; exact d4
 obtain⟨L,hL⟩ : ∃L,L=s.2.stream.length+(stream recs).length:=⟨_,rfl⟩;have e0:((s.2.stream.length:Int)+((stream recs).length:Int)).toNat=L:=by omega
 have bm:=b4.alloc (.cells (List.replicate L (Value.int .u8 0)).toArray 5 (0,0));simp(maxSteps:=3000000)(disch:=omega)only[push_cast,seval,b4.cell,e0,bm.cell];have hum:Upd (fun _=>False) w4 (w4.alloc (.cells (List.replicate L (Value.int .u8 0)).toArray 5 (0,0))).drew.drew:=(Upd.alloc.drew').drew';have hom:Bow (w4.alloc (.cells (List.replicate L (Value.int .u8 0)).toArray 5 (0,0))).drew.drew (.slice (some ⟨w4.heap.size,0,none⟩) 0 L) []:=((Bow.made (by omega)).upd (Upd.drew (F:=fun _=>False)) (fun _ _ h=>h)).upd (Upd.drew (F:=fun _=>False)) (fun _ _ h=>h);have hmsz:(w4.alloc (.cells (List.replicate L (Value.int .u8 0)).toArray 5 (0,0))).drew.drew.heap.size=w4.heap.size+1:=aI;refine bH hom (hst4.upd hum (fun _ h=>h.elim)) (by simp; omega) ?_;intro v5 w5 hown5 hu5 hfr5;rw[List.nil_append] at hown5;have hu45:Upd (fun _=>False) w4 w5:=hum.trans hu5 fun b hb e=>by have e:=aU e; omega
 have hv5 : ∀g,v5.ownBlock=some g→w4.heap.size≤g:=by
  intro g hg;rcases hfr5 g hg with h1 | h1
  ·have:=aU h1; omega
  ·omega
 obtain⟨va5,vc5,rfl,_⟩:=hown5.form;have b5:=b4.upd hu45 (fun h=>h);simp(maxSteps:=3000000)(disch:=omega)only[push_cast,seval,b4.cell,e0,bm.cell,b5.cell];have hm5:SlB w5 (fun _=>False) (.slice ma (stream recs).length mc) (stream recs):=(hmore.upd hu45 (fun _ _ h=>h)).slb fun _ _ h=>h;refine bH hown5 hm5 (by omega) ?_;intro v6 w6 hown6 hu6 hfr6;have hs45:=hu45.size;have hu46:Upd (fun _=>False) w4 w6:=hu45.trans hu6 fun b hb e=>by have:=hv5 b e; omega
 have hv6 : ∀g,v6.ownBlock=some g→w4.heap.size≤g:=by
  intro g hg;rcases hfr6 g hg with h1 | h1
  ·exact hv5 g h1
  ·omega
 obtain⟨va6,vc6,rfl,hc6⟩:=hown6.form;have b6:=b4.upd hu46 (fun h=>h);simp(maxSteps:=3000000)(disch:=omega)only[push_cast,seval,b4.cell,e0,bm.cell,b5.cell,b6.cell];have ht6:=(ht1.trans (JT.quiet hu14)).trans (JT.quiet hu46);have hw6:=hw4.quiet hu46;refine Ok.use (bP hw6.disk) ?_;rintro u w7 ⟨rfl,rfl⟩;have hsz:=hs.size;rw[hsz];have hmpos:0<(stream recs).length:=by
  have:0<recs.length:=by
   rcases Nat.eq_zero_or_pos recs.length with e | e
   ·exact absurd (List.eq_nil_of_length_eq_zero e) hr0
   ·exact e
  omega
 rw[show s.1.size=sz from by rw[←hd1]; exact hsz] at hA;obtain⟨N,hN⟩ : ∃N,N=s.2.stream ++ stream recs:=⟨_,rfl⟩;have hNL:N.length=L:=by rw[hN,List.length_append]; omega
 rw[←hN] at hA hown6 hc6 hv6 ⊢;obtain⟨g6,c6,hv6e,hg6,_,_⟩:=Buf.of_own hown6 (by omega);have hrN:Rng N:=by
  rw[hN];refine rst4.append fun x hx=>?_;obtain⟨l,hl,hx⟩:=List.mem_flatMap.1 hx;rcases List.mem_append.1 hx with hx | hx
  ·exact bC _ x hx
  ·exact hr l hl x hx
 injection hv6e with e1 _ e3;subst e1;subst e3;have hsl6:SlB w6 (FF D J) (.slice (some ⟨g6,0,none⟩) N.length vc6) N:=hown6.slb (F:=FF D J) fun g hg hF=>by
  have h1:=hv6 g hg;rcases hF with hF | hF
  ·have:=hw4.disk.bd g hF; omega
  ·have:=(hw4.sep g hF).2; omega
 have etd:(s.2.stream.length:Int).tdiv (sz:Int)=((s.2.stream.length/sz:Nat):Int):=(Int.ofNat_tdiv _ _).symm;have hi0:s.2.stream.length/sz≤s.2.stream.length:=Nat.div_le_self _ _;generalize s.2.stream.length/sz=i0 at *;have hsz0 : ¬(sz:Int)=0:=by omega
 simp(maxSteps:=3000000)(disch:=omega)only[push_cast,seval,b6.cell,etd];have hsz1:N.length≤(i0+N.length)*sz:=by
  have:(i0+N.length)*1≤(i0+N.length)*sz:=Nat.mul_le_mul_left _ (by omega);omega
 refine aG (I:=fun k st w'=>Bx (∃(i':Nat) (s':DS×JS) (D':Nat→Prop),i'+k=i0+N.length∧N.length≤(i'+k)*sz∧st = [.int .i64 (i':Int)]∧jloop N k i' s'=jloop N N.length i0 s1∧JW w' D' J p jb s'∧JT w6 w' D D' jb∧s'.2.down=false∧s'.2.first=s.2.first∧Sz n sz (i+(i'-i0)) s'.1∧i0≤i'∧SlB w' (FF D' J) (.slice (some ⟨g6,0,none⟩) N.length vc6) N) ⟨⟩) ?_ N.length
  ⟨i0,s1,D,rfl,hsz1,rfl,rfl,hw6,JT.refl,hdn,hf1,by rw[Nat.sub_self]; exact hs,Nat.le_refl _,hsl6⟩
 clear hsz1 hsl6;rintro k st w7 ⟨i',s',D',hik,hfuel,rfl,hloop,hw7,ht7,hdn7,hf7,hs7,hi7,hsl7⟩;obtain⟨X,hX⟩ : ∃X,X=i'*sz:=⟨_,rfl⟩;have em1:(i':Int)*(sz:Int)=(X:Int):=by rw[hX]; simp
 have em2:((i':Int)+1)*(sz:Int)=(X:Int)+(sz:Int):=by rw[Int.add_mul,em1,Int.one_mul]
 have hs71:=hs7.size;have hXb:X≤1000000*4096:=by
  rw[hX];exact Nat.mul_le_mul (by omega) hz2
 by_cases hX7:X<N.length
 ·obtain⟨k,rfl⟩ : ∃k',k=k'+1:=⟨k-1,by
   rcases Nat.eq_zero_or_pos k with e | e
   ·subst e; rw[Nat.add_zero,←hX] at hfuel; omega
   ·omega⟩
  have hlp:jloop N (k+1) i' s'=if (jwrite s' ((1+i':Nat):Int) ((N.drop X).take sz)).2.down then jwrite s' ((1+i':Nat):Int) ((N.drop X).take sz) else jloop N k (i'+1) (jwrite s' ((1+i':Nat):Int) ((N.drop X).take sz)):=by
   rw[jloop,hs71,←hX,if_pos hX7]
  obtain⟨M,hM⟩ : ∃M,M=min (N.length-X) sz:=⟨_,rfl⟩;have ez:(min (N.length:Int) ((X:Int)+(sz:Int))).toNat-X=M:=by omega
  have hslM:=gC hsl7 (l:=X) (n:=M) (by omega) hc6;have etk:(N.drop X).take M=(N.drop X).take sz:=by
   rw[hM,←List.length_drop,List.take_eq_take_iff];simp[Nat.min_comm]
  rw[etk,Nat.zero_add] at hslM;have hlenM:((N.drop X).take sz).length=M:=by rw[List.length_take,List.length_drop]; omega
  have hX7':(X:Int)<(N.length:Int):=by omega
  have hiX:i'≤X:=by
   rw[hX];exact Nat.le_mul_of_pos_right _ (by omega)
  simp(maxSteps:=3000000)(disch:=omega)only[push_cast,seval,em1,em2,ez];rw[show(1:Int)+(i':Int)=((1+i':Nat):Int) from by omega];refine Ok.use (rQ hw7 hs7 (by omega) (by omega) hz2 (by rw[hf7]; exact hf) (x:=1+i') (by omega) hslM (by rw[hlenM]; omega) (by rw[hlenM]; omega)) ?_;rintro u w8 ⟨rfl,D8,hw8,ht8⟩;rw[hlp] at hloop;cases hdn8:(jwrite s' ((1+i':Nat):Int) ((N.drop X).take sz)).2.down
  ·rw[if_neg (by rw[hdn8]; decide)] at hloop;simp(maxSteps:=3000000)(disch:=omega)only[push_cast,seval];refine⟨k,by omega,i'+1,_,D8,by omega,by rw[show i'+1+k=i'+(k+1) from by omega]; exact hfuel,by simp,hloop,hw8,ht7.trans ht8,hdn8,hf7,(hs7.jwrite _ _).mono (by omega),by omega,ht8.slb h.jj hsl7⟩
  ·rw[if_pos hdn8] at hloop;rw[←hloop] at hA;dsimp only at hA;rw[if_pos hdn8] at hA;rw[hA];simp(maxSteps:=3000000)(disch:=omega)only[push_cast,seval];exact⟨D8,hw8,(ht6.trans ht7).trans ht8⟩
 ·have hX7' : ¬(X:Int)<(N.length:Int):=by omega
  have hlp:jloop N k i' s'=s':=by
   cases k with
   | zero=>rfl
   | succ k=>rw[jloop,hs71,←hX,if_neg hX7]
  rw[hlp] at hloop;rw[←hloop] at hA;dsimp only at hA;rw[if_neg (by rw[hdn7]; decide)] at hA;simp(maxSteps:=3000000)(disch:=omega)only[push_cast,seval,em1];refine Ok.use (rR hw7 hs7 (by omega)) ?_;rintro u w8 ⟨rfl,D8,hw8,ht8⟩;have ht08:=(ht6.trans ht7).trans ht8;cases hdn8:(jsync s').2.down;rotate_left
  ·rw[if_pos hdn8] at hA;rw[hA];simp(maxSteps:=3000000)(disch:=omega)only[push_cast,seval];exact⟨D8,hw8,ht08⟩
  rw[if_neg (by rw[hdn8]; decide)] at hA;have hhl:=lQ (k:=N.length) (by omega);simp(maxSteps:=3000000)(disch:=omega)only[push_cast,seval];refine Ok.use (rS hw8 (n:=n) (sz:=sz) (i:=i+(i'-i0)) hs7.sync (by omega) (by omega) hz2 (by show s'.2.first≤100000; rw[hf7]; exact hf) (k:=N.length) (by omega) (by omega)) ?_;rintro u w9 ⟨rfl,D9,hw9,ht9⟩;have ht09:=ht08.trans ht9;cases hdn9:(jcommit (jsync s') N.length).2.down;rotate_left
  ·rw[if_pos hdn9] at hA;rw[hA];simp(maxSteps:=3000000)(disch:=omega)only[push_cast,seval];exact⟨D9,hw9,ht09⟩
  rw[if_neg (by rw[hdn9]; decide)] at hA;rw[hA];obtain⟨sa9,sc9,b9,_,_,_⟩:=hw9.down_iff;have hsl9:SlC w9 (FF D9 J) (.slice (some ⟨g6,0,none⟩) N.length vc6) N:=⟨ht9.slb h.jj (ht8.slb h.jj hsl7),_,_,rfl,hc6⟩;have hu10:Upd (fun b=>b=jb) w9 (w9.setCell ⟨jb,3,none⟩ (.slice (some ⟨g6,0,none⟩) N.length vc6)):=Upd.set rfl;obtain⟨hw10,ht10⟩:=hw9.set hu10 (j':={(jcommit (jsync s') N.length).2 with stream:=N}) ⟨_,b9.set 3 _,hsl9.upd hu10 (fun b e=>.inr (by rw[e]; exact h.jj)),hrN⟩;simp(maxSteps:=3000000)(disch:=omega)only[push_cast,seval,b9.cell,b9.free];exact⟨D9,hw10,ht09.trans ht10⟩
end Go.Proofs.YtpgigkceoolgeaaGreatDoor.Fd
