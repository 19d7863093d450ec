import Derived.Test.YtpgigkceoolgeaaGreatDoorS008
set_option linter.all false
namespace Go.Proofs.YtpgigkceoolgeaaGreatDoor.Fd
open Go Go.ChangeMaps
set_option maxRecDepth 100000
def DS.sync (d:DS):DS×Int:=if d.step.1 then (d.step.2.settle fun _=>true,0) else (d.step.2,8)
def DS.fail (d:DS)(n:Int):DS:=if d.off then d else {d with cnt:=some (max n 0).toNat}
def DS.crash (d:DS)(keep:List Bool):DS:={d.settle (fun i=>keep.getD i false) with off:=false,cnt:=none}
theorem DS.step_cache (d:DS):d.step.2.cache=d.cache:=by
 unfold DS.step;split
 ·rfl
 ·split <;> rfl
theorem UX {i:Int}{w:World}:Ok (den Tryz.prog 62 [Value.int .i64 i].toArray w) fun v w'=>v = .bool true∧w=w':=by
 refine aB (args:=[.int .i64 i]) rs62 Tryz.func62 rfl mixed (by kernel_rfl) QD rfl ?_;simp(disch:=omega)only[push_cast,seval]
theorem qM {w:World}{F:Nat→Prop}{p:Nat}{d:DS}(h:IsDisk w F p d)(hc:d.cache.length<1000000000)(hk : ∀k,d.cnt=some k→k<9223372036854775808) :
 Ok (den Tryz.prog 32 #[.pointer (some ⟨p,0,none⟩)] w) fun u w'=>u = .int .i64 d.sync.2∧IsDisk w' (gr F w w') p d.sync.1∧Upd F w w':=by
 refine aB (args:=[.pointer (some ⟨p,0,none⟩)]) rs32 Tryz.func32 rfl mixed (by kernel_rfl) PJ rfl ?_;simp(disch:=omega)only[push_cast,seval];refine Ok.use (qF h hk) ?_;rintro v w1 ⟨rfl,h1,hu1⟩;have hc1:=d.step_cache;unfold DS.sync;generalize d.step.2=d1 at *;cases d.step.1
 ·simp(disch:=omega)only[push_cast,seval];exact⟨h1.gr,hu1⟩
 ·simp(disch:=omega)only[push_cast,seval];have hs:=qL (cap:=[]) (g:=62) (ch:=fun _=>true) h1 (by rw[hc1]; exact hc) (by kernel_rfl) (fun i w' _ _=>UX);refine Ok.use hs ?_;rintro v w2 ⟨h2,hu2⟩;simp(disch:=omega)only[push_cast,seval];have hsz:=hu1.size;refine⟨h2.mono ?_ ?_,hu1.trans hu2 (fun _ _ h=>h)⟩
  ·rintro b (hb | hb)
   ·exact .inl hb
   ·exact .inr ⟨by omega,hb.2⟩
  ·rintro b (hb | hb)
   ·exact Nat.lt_of_lt_of_le (h1.bd b hb) hu2.size
   ·exact hb.2
theorem UY {i:Nat}{w:World}{F:Nat→Prop}{k:Nat}{v:Value}{l:List Bool}(hk:w.cell? ⟨k,0,none⟩=some v)(hv:SlT w F v l) :
 Ok (den Tryz.prog 58 [Value.int .i64 i,.pointer (some ⟨k,0,none⟩)].toArray w) fun v w'=>v = .bool (l.getD i false)∧w=w':=by
 obtain⟨a,c,rfl,hl⟩:=hv;refine aB (args:=[.int .i64 i,.pointer (some ⟨k,0,none⟩)]) rs58 Tryz.func58 rfl mixed (by kernel_rfl) P9 rfl ?_;by_cases hi:i<l.length
 ·obtain⟨b,o,rfl,_,hc,_⟩:=hl (by intro e; rw[e] at hi; simp at hi);have hcc:=hc i hi;rw[List.getElem?_eq_getElem hi] at hcc;simp only[Option.map_some] at hcc;simp(disch:=omega)only[push_cast,seval,hk,hcc];simp[List.getD_eq_getElem?_getD,hi]
 ·simp(disch:=omega)only[push_cast,seval,hk];simp[List.getD_eq_getElem?_getD,hi]
theorem qN {w:World}{F:Nat→Prop}{p:Nat}{d:DS}(h:IsDisk w F p d)(hc:d.cache.length<1000000000){v:Value}{l:List Bool}(hv:SlT w F v l) :
 Ok (den Tryz.prog 25 #[.pointer (some ⟨p,0,none⟩),v] w) fun _ w'=>IsDisk w' (gr F w w') p (d.crash l)∧Upd F w w':=by
 obtain⟨a,c,rfl,hl⟩:=hv;refine aB (args:=[.pointer (some ⟨p,0,none⟩),.slice a l.length c]) rs25 Tryz.func25 rfl mixed (by kernel_rfl) PD rfl ?_;simp(disch:=omega)only[push_cast,seval];have hu0:Upd (fun _=>False) w (w.alloc (.cells [Value.slice a l.length c].toArray 43 (0,0))):=Upd.alloc;have hs:=qL (cap:=[.pointer (some ⟨w.heap.size,0,none⟩)]) (g:=58) (ch:=fun i=>l.getD i false) (h.upd hu0 (fun _ _ h=>h)) hc (by kernel_rfl) (fun i w' _ hu=>by
  have hn:Blk w' w.heap.size [Value.slice a l.length c] 43:=(Blk.new (w:=w) (cs:=[Value.slice a l.length c]) (E:=43)).upd hu (fun h=>h);refine UY (F:=fun _=>False) (hn.cell 0) ⟨a,c,rfl,fun h0=>?_⟩;obtain⟨b,o,h1,h2,h3,h4⟩:=hl h0;have hu':=hu0.trans hu (fun _ _ h=>h);exact⟨b,o,h1,Nat.lt_of_lt_of_le h2 hu'.size,fun j hj=>by rw[←h3 j hj]; exact World.cell?_of_block (hu'.block b h2 (fun h=>h)),fun h=>h⟩)
 refine Ok.use hs ?_;rintro v w2 ⟨h2,hu2⟩;have hu02:Upd F w w2:=(hu0.mono (fun _ _ h=>h.elim)).trans hu2 (fun _ _ h=>h);have h3:IsDisk w2 (gr F w w2) p (d.settle fun i=>l.getD i false):=by
  refine h2.mono ?_ ?_
  ·rintro b (hb | hb)
   ·exact .inl hb
   ·rw[aI] at hb; exact .inr ⟨by omega,hb.2⟩
  ·rintro b (hb | hb)
   ·exact Nat.lt_of_lt_of_le (h.bd b hb) hu02.size
   ·exact hb.2
 obtain⟨q,durs,cv,cachs,armed,left,h3⟩:=h3;have hb:=h3.head;simp(disch:=omega)only[push_cast,seval,hb.cell,hb.free];have hu3:Upd (fun b=>b=p) w2 (((w2.setCell ⟨p,3,none⟩ (.bool false)).setCell ⟨p,4,none⟩ (.bool false)).setCell ⟨p,5,none⟩ (.int .i64 0)):=(((Upd.refl (F:=fun b=>b=p)).setIn rfl).setIn rfl).setIn rfl;have hp:gr F w w2 p:=h3.fp;have hb':=((hb.set 3 (.bool false)).set 4 (.bool false)).set 5 (.int .i64 0);have hd:=h3.durc;refine⟨?_,hu02.trans hu3 (fun b hb e=>?_)⟩
 ·refine IsDisk.mono (F:=gr F w w2) ⟨q,durs,cv,cachs,false,0,hb',h3.row.upd hu3 h3.pq.symm,cO h3.own hu3 (fun g hg=>(h3.cvc g hg).2.1),h3.dur,h3.cache,
   fun x hx=>⟨(h3.durc x hx).1.upd hu3 (h3.durc x hx).2.2.2.1,(h3.durc x hx).2⟩,fun x hx=>⟨(h3.cachc x hx).1.upd hu3 (h3.cachc x hx).2.2.2.2.1,(h3.cachc x hx).2⟩,
   h3.cvc,h3.fp,h3.fq,h3.pq,rfl,h3.small,fun b hb=>Nat.lt_of_lt_of_le (h3.bd b hb) hu3.size⟩ ?_ ?_
  ·rintro b (hb | hb)
   ·exact .inl hb
   ·exact .inr ⟨hb.1,Nat.lt_of_lt_of_le hb.2 hu3.size⟩
  ·rintro b (hb | hb)
   ·exact Nat.lt_of_lt_of_le (h.bd b hb) (Nat.le_trans hu02.size hu3.size)
   ·exact hb.2
 ·subst e;rcases hp with hp | hp
  ·exact hp
  ·omega
theorem UZ {w:World}{F:Nat→Prop}{p:Nat}{d:DS}(h:IsDisk w F p d)(n:Int) :
 Ok (den Tryz.prog 24 #[.pointer (some ⟨p,0,none⟩),.int .i64 n] w) fun _ w'=>IsDisk w' (gr F w w') p (d.fail n)∧Upd F w w':=by
 have h':=h;obtain⟨q,durs,cv,cachs,armed,left,h⟩:=h;refine aB (args:=[.pointer (some ⟨p,0,none⟩),.int .i64 n]) rs24 Tryz.func24 rfl mixed (by kernel_rfl) PC rfl ?_;have hb:=h.head;obtain⟨size,dur,cache,off,cnt⟩:=d;cases off
 ·simp(disch:=omega)only[push_cast,seval,hb.cell,hb.free];have hu3:Upd (fun b=>b=p) w ((w.setCell ⟨p,4,none⟩ (.bool true)).setCell ⟨p,5,none⟩ (.int .i64 (max n 0))):=((Upd.refl (F:=fun b=>b=p)).setIn rfl).setIn rfl;have hb':=(hb.set 4 (.bool true)).set 5 (.int .i64 (max n 0));refine⟨IsDisk.gr ⟨q,durs,cv,cachs,true,(max n 0).toNat,?_,h.row.upd hu3 h.pq.symm,cO h.own hu3 (fun g hg=>(h.cvc g hg).2.1),h.dur,h.cache,
   fun x hx=>⟨(h.durc x hx).1.upd hu3 (h.durc x hx).2.2.2.1,(h.durc x hx).2⟩,fun x hx=>⟨(h.cachc x hx).1.upd hu3 (h.cachc x hx).2.2.2.2.1,(h.cachc x hx).2⟩,
   h.cvc,h.fp,h.fq,h.pq,rfl,h.small,fun b hb=>Nat.lt_of_lt_of_le (h.bd b hb) hu3.size⟩,hu3.mono fun b _ e=>e ▸ h.fp⟩
  rw[show(((max n 0).toNat:Nat):Int)=max n 0 from by omega];exact hb'
 ·simp(disch:=omega)only[push_cast,seval,hb.cell,hb.free];exact⟨h'.gr,Upd.refl⟩
def DS.new (n size:Nat):DS:={size:=size,dur:=List.replicate n (List.replicate size 0),cache:=[],off:=false,cnt:=none}
theorem U0 (x:Int)(a:Option Addr)(n c:Nat)(w:World):bldS Tryz.prog 97 #[(0,.int .i64 x),(1,.slice a n c)] w=some (.agg #[.int .i64 x,.slice a n c,.slice none 0 0,.bool false,.bool false,.int .i64 0],w):=by kernel_rfl
attribute [push_cast] U0
theorem qO {n:Nat}:by8 (List.replicate n 0)=List.replicate n (.int .u8 0):=by simp [by8]
theorem qP {w:World}{n size:Nat}(h1:1≤n)(h2:n≤65536)(h3:16≤size)(h4:size≤4096) :
 Ok (den Tryz.prog 31 #[.int .i64 n,.int .i64 size] w) fun v w'=>∃p,v = .tuple #[.pointer (some ⟨p,0,none⟩),.int .i64 0]∧IsDisk w' (gr (fun _=>False) w w') p (DS.new n size)∧Upd (fun _=>False) w w':=by
 refine aB (args:=[.int .i64 n,.int .i64 size]) rs31 Tryz.func31 rfl mixed (by kernel_rfl) PI rfl ?_;simp(disch:=omega)only[push_cast,seval];have hrow:Blk (w.alloc (.cells (List.replicate n (Value.slice none 0 0)).toArray 55 (0,0))) w.heap.size (List.replicate n (.slice none 0 0)) 55:=Blk.new;have hu1:Upd (fun _=>False) w (w.alloc (.cells (List.replicate n (Value.slice none 0 0)).toArray 55 (0,0))):=Upd.alloc;have hs1:(w.alloc (.cells (List.replicate n (Value.slice none 0 0)).toArray 55 (0,0))).heap.size=w.heap.size+1:=aI;generalize w.alloc (.cells (List.replicate n (Value.slice none 0 0)).toArray 55 (0,0))=w1 at *;have hhead:Blk (w1.alloc (.cells [.int .i64 (size:Int),.slice (some ⟨w.heap.size,0,none⟩) n n,.slice none 0 0,.bool false,.bool false,.int .i64 0].toArray 97 (0,0))) (w.heap.size+1)
  [.int .i64 (size:Int),.slice (some ⟨w.heap.size,0,none⟩) n n,.slice none 0 0,.bool false,.bool false,.int .i64 0] 97:=by rw[←hs1]; exact Blk.new
 have hrow2:=hrow.alloc (.cells [.int .i64 (size:Int),.slice (some ⟨w.heap.size,0,none⟩) n n,.slice none 0 0,.bool false,.bool false,.int .i64 0].toArray 97 (0,0));have hu2:=hu1.alloc' (o:=.cells [.int .i64 (size:Int),.slice (some ⟨w.heap.size,0,none⟩) n n,.slice none 0 0,.bool false,.bool false,.int .i64 0].toArray 97 (0,0));have hs2:(w1.alloc (.cells [.int .i64 (size:Int),.slice (some ⟨w.heap.size,0,none⟩) n n,.slice none 0 0,.bool false,.bool false,.int .i64 0].toArray 97 (0,0))).heap.size=w.heap.size+2:=by rw[aI,hs1]
 generalize w1.alloc (.cells [.int .i64 (size:Int),.slice (some ⟨w.heap.size,0,none⟩) n n,.slice none 0 0,.bool false,.bool false,.int .i64 0].toArray 97 (0,0))=w2 at *;clear hrow hu1 hs1 w1;simp(disch:=omega)only[push_cast,seval,hhead.cell];refine aG (I:=fun k st w'=>Bx (∃i ds,k+i=n∧st = [.int .i64 (i:Int)]∧Upd (fun _=>False) w w'∧w2.heap.size≤w'.heap.size∧ds.length=i∧
  Blk w' (w.heap.size+1) [.int .i64 (size:Int),.slice (some ⟨w.heap.size,0,none⟩) n n,.slice none 0 0,.bool false,.bool false,.int .i64 0] 97∧
  Blk w' w.heap.size (ds.map (fun x:Nat×List Int=>CV x.1 x.2) ++ List.replicate k (.slice none 0 0)) 55∧
  ∀x∈ds,x.2=List.replicate size 0∧Blk w' x.1 (by8 x.2) 5∧w.heap.size+2≤x.1) ⟨⟩) ?_ n ⟨0,[],rfl,rfl,hu2,Nat.le_refl _,rfl,hhead,by simpa using hrow2,by simp⟩
 rintro k st w' ⟨i,ds,hki,rfl,hu,hsz,hdl,hh,hr,hds⟩;have hsz0:=hu.size;by_cases hk0:k=0
 ·subst hk0;obtain rfl:i=n:=by omega
  simp(disch:=omega)only[push_cast,seval];refine⟨_,rfl,⟨w.heap.size,ds,.slice none 0 0,[],false,0,?_,by simpa using hr,World.ownsRow_nil _ _ _ _,?_,rfl,?_,by simp,by simp[Value.ownBlock],.inr ⟨by omega,hh.lt⟩,.inr ⟨by omega,hr.lt⟩,by omega,rfl,⟨h4,by omega⟩,?_⟩,hu⟩
  ·rw[hdl]; exact hh
  ·show List.replicate i (List.replicate size 0)=ds.map (·.2);rw[eq_comm,List.eq_replicate_iff];refine⟨by simpa using hdl,?_⟩;intro l hl;obtain⟨x,hx,rfl⟩:=List.mem_map.1 hl;exact(hds x hx).1
  ·intro x hx;obtain⟨e1,e2,e3⟩:=hds x hx;refine⟨e2,by rw[e1]; simp[DS.new],.inr ⟨by omega,e2.lt⟩,by omega,by omega,by simp[Value.ownBlock]⟩
  ·rintro b (hb | hb)
   ·exact hb.elim
   ·exact hb.2
 ·obtain⟨j,rfl⟩:=Nat.exists_eq_succ_of_ne_zero hk0;have hcell:w'.cell? ⟨w.heap.size,i,none⟩=some (.slice none 0 0):=by
   rw[hr.cell,List.getElem?_append_right (by simp; omega)];simp[hdl]
  have hl1:=hh.lt;have hl2:=hr.lt;simp(disch:=omega)only[push_cast,seval,hh.cell,hh.free,hcell,hr.free];have hunew:Upd (fun b=>b=w.heap.size) w' ((w'.drew.alloc (.cells (List.replicate size (Value.int .u8 0)).toArray 5 (0,0))).setCell ⟨w.heap.size,i,none⟩ (.slice (some ⟨w'.heap.size,0,none⟩) size size)):=((Upd.refl (F:=fun b=>b=w.heap.size)).drew'.alloc').setIn rfl;have hnew:Blk ((w'.drew.alloc (.cells (List.replicate size (Value.int .u8 0)).toArray 5 (0,0))).setCell ⟨w.heap.size,i,none⟩ (.slice (some ⟨w'.heap.size,0,none⟩) size size)) w'.heap.size (List.replicate size (Value.int .u8 0)) 5:=
   (Blk.new (w:=w'.drew)).other _ (by show w.heap.size≠w'.heap.size; omega)
  have hrs:=((hr.drew.alloc (.cells (List.replicate size (Value.int .u8 0)).toArray 5 (0,0))).set i (.slice (some ⟨w'.heap.size,0,none⟩) size size));refine⟨j,by omega,i+1,ds ++ [(w'.heap.size,List.replicate size 0)],by omega,by simp,hu.trans hunew (fun b h1 h2=>by omega),Nat.le_trans hsz hunew.size,by simp[hdl],hh.upd hunew (by omega),?_,?_⟩
  ·have e:(ds.map (fun x:Nat×List Int=>CV x.1 x.2) ++ List.replicate j.succ (Value.slice none 0 0)).set i (.slice (some ⟨w'.heap.size,0,none⟩) size size) =
    (ds ++ [(w'.heap.size,List.replicate size 0)]).map (fun x:Nat×List Int=>CV x.1 x.2) ++ List.replicate j (Value.slice none 0 0):=by
    rw[List.set_append_right _ _ (by simp; omega)];simp[hdl,List.replicate_succ,CV]
   rw[←e];exact hrs
  ·intro x hx;rcases List.mem_append.1 hx with hx | hx
   ·obtain⟨e1,e2,e3⟩:=hds x hx;exact⟨e1,e2.upd hunew (by omega),e3⟩
   ·simp only[List.mem_singleton] at hx;subst hx;exact⟨rfl,by rw[qO]; exact hnew,by show w.heap.size+2≤w'.heap.size; omega⟩
open Go
set_option maxRecDepth 100000
def Rng (l:List Int):Prop:=∀x,x∈l→0≤x∧x<256
theorem Rng.append {l m:List Int}(h1:Rng l)(h2:Rng m):Rng (l ++ m):=by
 intro x hx;rcases List.mem_append.1 hx with h | h
 ·exact h1 x h
 ·exact h2 x h
theorem Rng.take {l:List Int}(h:Rng l)(n:Nat):Rng (l.take n):=fun x hx=>h x (List.mem_of_mem_take hx)
theorem Rng.drop {l:List Int}(h:Rng l)(n:Nat):Rng (l.drop n):=fun x hx=>h x (List.mem_of_mem_drop hx)
theorem Rng.zeros {n:Nat}:Rng (List.replicate n 0):=fun x hx=>by rw [List.eq_of_mem_replicate hx]; omega
theorem qQ (x:Int)(w:World):bslS Tryz.prog 55 1 #[(0,.int .u8 x)] w=some (.slice (some ⟨w.heap.size,0,none⟩) 1 1,w.alloc (.cells [.int .u8 x].toArray 5 (0,0))):=by kernel_rfl
theorem qR {k:IntKind}{n:Int}{w:World}:cnvS Tryz.prog 3 106 (.int k n) w=some (.int .u64 (IntKind.u64.wrap n),w):=bK (by kernel_rfl) (by kernel_rfl)
theorem qS {k:IntKind}{n:Int}{w:World}:cnvS Tryz.prog 106 3 (.int k n) w=some (.int .i64 (IntKind.i64.wrap n),w):=bK (by kernel_rfl) (by kernel_rfl)
theorem qT {k:IntKind}{n:Int}{w:World}:cnvS Tryz.prog 106 5 (.int k n) w=some (.int .u8 (IntKind.u8.wrap n),w):=bK (by kernel_rfl) (by kernel_rfl)
theorem qU {k:IntKind}{n:Int}{w:World}:cnvS Tryz.prog 5 106 (.int k n) w=some (.int .u64 (IntKind.u64.wrap n),w):=bK (by kernel_rfl) (by kernel_rfl)
theorem qV {k:IntKind}{n:Int}{w:World}:cnvS Tryz.prog 5 3 (.int k n) w=some (.int .i64 (IntKind.i64.wrap n),w):=bK (by kernel_rfl) (by kernel_rfl)
theorem gD {k:IntKind}{n:Int}{w:World}:cnvS Tryz.prog 3 147 (.int k n) w=some (.int .u64 (IntKind.u64.wrap n),w):=bK (by kernel_rfl) (by kernel_rfl)
attribute [push_cast] qQ qR qS qT qU qV gD
theorem cX {w:World}{b:Nat}{l:List Int}(h:Blk w b (by8 l) 5){c:Nat}{F:Nat→Prop}(hF : ¬F b):SlB w F (.slice (some ⟨b,0,none⟩) l.length c) l:=
 ⟨_,c,rfl,fun _=>⟨b,0,rfl,Lies.of_blk h,hF⟩⟩
theorem gE {w:World}{x:Int}{F:Nat→Prop}(hF : ¬F w.heap.size):SlB (w.alloc (.cells [.int .u8 x].toArray 5 (0,0))) F (.slice (some ⟨w.heap.size,0,none⟩) 1 1) [x]:=cX (l:=[x]) Blk.new hF
theorem aU {b o n c g:Nat}(h:(Value.slice (some ⟨b,o,none⟩) n c).ownBlock=some g):b=g:=Option.some.inj h
theorem dH {m:Nat}:IntKind.u8.wrap (m:Int)=((m%256:Nat):Int):=by
 rw[IntKind.wrap_u8]; omega
theorem aN {w:World}{F:Nat→Prop}{v:Value}{l:List Int}(h:SlB w F v l):cnvS Tryz.prog 55 9 v w=some (.string (strOfNums l),w):=
 TJ Tryz.underlying55 Tryz.underlying5 Tryz.underlying9 h
def SlC (w:World)(F:Nat→Prop)(v:Value)(d:List Int):Prop:=SlB w F v d∧∃a c,v = .slice a d.length c∧d.length≤c
theorem SlC.upd {w w':World}{F G:Nat→Prop}{v:Value}{l:List Int}(h:SlC w F v l)(hu:Upd G w w')(hG : ∀b,G b→F b):SlC w' F v l:=⟨h.1.upd hu hG,h.2⟩
theorem SlC.mono {w:World}{F G:Nat→Prop}{v:Value}{l:List Int}(h:SlC w F v l)(hG : ∀b,b<w.heap.size→G b→F b):SlC w G v l:=⟨h.1.mono hG,h.2⟩
theorem Bow.slc {w:World}{v:Value}{l:List Int}(h:Bow w v l){F:Nat→Prop}(hF : ∀g,v.ownBlock=some g→¬F g):SlC w F v l:=⟨h.slb hF,h.form⟩
theorem SlC.at_ {w:World}{F:Nat→Prop}{v:Value}{d:List Int}(h:SlC w F v d){j:Nat}{x:Int}(hx:d[j]? =some x) : ∃g o c,v = .slice (some ⟨g,o,none⟩) d.length c∧w.cell? ⟨g,o+j,none⟩=some (.int .u8 x):=by
 have hj:=(List.getElem?_eq_some_iff.1 hx).1;obtain⟨⟨a,c,hv,hl⟩,_⟩:=h;obtain⟨g,o,rfl,h1,_⟩:=hl (by intro e; rw[e] at hj; simp at hj);refine⟨g,o,c,hv,?_⟩;have:=h1 j (by rw[aQ]; exact hj);rw[this,by8,List.getElem?_map,hx];rfl
theorem Rng.nat {l:List Int}(h:Rng l){j:Nat}{x:Int}(hx:l[j]? =some x) : ∃y:Nat,x=y∧y<256:=by
 have:=h x (List.mem_of_getElem? hx);exact⟨x.toNat,by omega,by omega⟩
theorem SlB.go {w w':World}{F F' G:Nat→Prop}{v:Value}{l:List Int}(h:SlB w F v l)(hu:Upd G w w')(hG : ∀b,b<w.heap.size→G b∨F' b→F b):SlB w' F' v l:=by
 obtain⟨a,c,hv,hl⟩:=h;refine⟨a,c,hv,fun h0=>?_⟩;obtain⟨b,o,h1,h2,h3⟩:=hl h0;have hb:=h2.lt (List.length_pos_iff.2 h0);exact⟨b,o,h1,h2.upd hu hb fun h=>h3 (hG b hb (.inl h)),fun h=>h3 (hG b hb (.inr h))⟩
theorem SlC.go {w w':World}{F F' G:Nat→Prop}{v:Value}{l:List Int}(h:SlC w F v l)(hu:Upd G w w')(hG : ∀b,b<w.heap.size→G b∨F' b→F b):SlC w' F' v l:=⟨h.1.go hu hG,h.2⟩
def SlR (w:World)(F:Nat→Prop)(v:Value)(ls:List (List Int)):Prop:=∃a c,v = .slice a ls.length c∧(ls≠[]→∃b o,a=some ⟨b,o,none⟩∧b<w.heap.size∧¬F b∧∀j l,ls[j]? =some l→∃u,w.cell? ⟨b,o+j,none⟩=some u∧SlB w F u l)
theorem SlR.go {w w':World}{F F' G:Nat→Prop}{v:Value}{ls:List (List Int)}(h:SlR w F v ls)(hu:Upd G w w')(hG : ∀b,b<w.heap.size→G b∨F' b→F b):SlR w' F' v ls:=by
 obtain⟨a,c,hv,hl⟩:=h;refine⟨a,c,hv,fun h0=>?_⟩;obtain⟨b,o,h1,h2,h3,h4⟩:=hl h0;refine⟨b,o,h1,Nat.lt_of_lt_of_le h2 hu.size,fun h=>h3 (hG b h2 (.inr h)),fun j l hj=>?_⟩;obtain⟨u,h5,h6⟩:=h4 j l hj;exact⟨u,by rw[World.cell?_of_block (hu.block b h2 fun h=>h3 (hG b h2 (.inl h)))]; exact h5,h6.go hu hG⟩
theorem SlR.nil {w:World}{F:Nat→Prop}{a:Option Addr}{c:Nat}:SlR w F (.slice a 0 c) []:=⟨a,c,rfl,fun h=>absurd rfl h⟩
theorem SlR.at_ {w:World}{F:Nat→Prop}{a:Option Addr}{n c:Nat}{ls:List (List Int)}(h:SlR w F (.slice a n c) ls){j:Nat}{l:List Int}(hj:ls[j]? =some l) : ∃b o ea ec,a=some ⟨b,o,none⟩∧w.cell? ⟨b,o+j,none⟩=some (.slice ea l.length ec)∧SlB w F (.slice ea l.length ec) l:=by
 obtain⟨a',c',hv,hl⟩:=h;injection hv with e1 e2 e3;subst e1;obtain⟨b,o,h1,h2,h3,h4⟩:=hl (by intro e; rw[e] at hj; simp at hj);obtain⟨u,h5,h6⟩:=h4 j l hj;obtain⟨ea,ec,rfl,_⟩:=id h6;exact⟨b,o,ea,ec,h1,h5,h6⟩
def RowB (w:World)(F:Nat→Prop)(v:Value)(ls:List (List Int)):Prop:=∃us:List Value,w.ownsRow 0 55 1 v us.length us∧us.length=ls.length∧
 (∀(j:Nat) (u:Value) (l:List Int),us[j]? =some u→ls[j]? =some l→SlB w (fun b=>F b∨v.ownBlock=some b) u l)∧∀g,v.ownBlock=some g→¬F g
theorem RowB.go {w w':World}{F F' G:Nat→Prop}{v:Value}{ls:List (List Int)}(h:RowB w F v ls)(hu:Upd G w w')(hG : ∀b,b<w.heap.size→G b∨F' b→F b):RowB w' F' v ls:=by
 obtain⟨us,h1,h2,h3,h4⟩:=h;refine⟨us,cO h1 hu fun g hg h=>h4 g hg (hG g (World.ownsRow.lt h1 g hg).2 (.inl h)),h2,fun j u l hu2 hl=>(h3 j u l hu2 hl).go hu fun b hb h=>?_,fun g hg h=>h4 g hg (hG g (World.ownsRow.lt h1 g hg).2 (.inr h))⟩;rcases h with h | h | h
 ·exact .inl (hG b hb (.inl h))
 ·exact .inl (hG b hb (.inr h))
 ·exact .inr h
theorem RowB.nil {w:World}{F:Nat→Prop}:RowB w F (.slice none 0 0) []:=⟨[],World.ownsRow_nil _ _ _ _,rfl,by simp,by simp [Value.ownBlock]⟩
theorem RowB.empty {w:World}{F:Nat→Prop}{g:Nat}(h:Blk w g [] 55)(hF : ¬F g):RowB w F (.slice (some ⟨g,0,none⟩) 0 0) []:=
 ⟨[],⟨rfl,.inr ⟨g,0,#[],rfl,Nat.zero_le _,h,Nat.le_refl _,Nat.zero_le _,rfl,rfl⟩⟩,rfl,by simp,fun g' hg=>by rw[←aU hg]; exact hF⟩
theorem RowB.slr {w:World}{F:Nat→Prop}{v:Value}{ls:List (List Int)}(h:RowB w F v ls):SlR w F v ls:=by
 obtain⟨us,h1,h2,h3,h4⟩:=h;rcases h1.2 with ⟨rfl,h0⟩ | ⟨g,cap,cur,rfl,_,hg,_,_,_,htake⟩
 ·have:ls = []:=List.eq_nil_of_length_eq_zero (by omega);subst this;exact .nil
 ·refine⟨_,cap,by rw[h2],fun _=>⟨g,0,rfl,(Array.getElem?_eq_some_iff.1 hg).1,h4 g rfl,fun j l hj=>?_⟩⟩;have hjl:=(List.getElem?_eq_some_iff.1 hj).1;have hju:j<us.length:=by omega
  refine⟨us[j],?_,(h3 j _ l (List.getElem?_eq_getElem hju) hj).mono fun b _ h=>.inl h⟩;have hB:Blk w g cur.toList 55:=by show _=_; rw[hg]
  have hj2:cur.toList[j]? =us[j]? :=by
   conv=>rhs; rw[←htake]
   rw[List.getElem?_take_of_lt (by omega)]
  rw[hB.cell,Nat.zero_add,hj2,List.getElem?_eq_getElem hju]
theorem RowB.form {w:World}{F:Nat→Prop}{v:Value}{ls:List (List Int)}(h:RowB w F v ls) : ∃a c,v = .slice a ls.length c:=by
 obtain⟨us,h1,h2,_⟩:=h;obtain⟨a,c,hv⟩:=bY h1;exact⟨a,c,by rw[←h2]; exact hv⟩
theorem RowB.lt {w:World}{F:Nat→Prop}{v:Value}{ls:List (List Int)}(h:RowB w F v ls){g:Nat}(hg:v.ownBlock=some g):g<w.heap.size:=by
 obtain⟨us,h1,_⟩:=h;exact(World.ownsRow.lt h1 g hg).2
theorem qW (a:Option Addr)(n c:Nat)(w:World):bslS Tryz.prog 38 1 #[(0,.slice a n c)] w=some (.slice (some ⟨w.heap.size,0,none⟩) 1 1,w.alloc (.cells [.slice a n c].toArray 55 (0,0))):=by kernel_rfl
theorem qX (w:World):bslS Tryz.prog 38 0 #[] w=some (.slice (some ⟨w.heap.size,0,none⟩) 0 0,w.alloc (.cells #[] 55 (0,0))):=by kernel_rfl
attribute [push_cast] qW qX
theorem lG {α:Type}{n:Nat}{p:Nat→α→Prop}(h : ∀i,i<n→∃x,p i x) : ∃l:List α,l.length=n∧∀i x,l[i]? =some x→p i x:=by
 induction n with
 | zero=>exact⟨[],rfl,by simp⟩
 | succ n ih=>
  obtain⟨l,h1,h2⟩:=ih (fun i hi=>h i (by omega));obtain⟨x,hx⟩:=h n (by omega);refine⟨l ++ [x],by simp[h1],fun i y hy=>?_⟩;rcases Nat.lt_or_ge i n with hi | hi
  ·rw[List.getElem?_append_left (by omega)] at hy;exact h2 i y hy
  ·rw[List.getElem?_append_right (by omega)] at hy;have e:i=n:=by
    have:=(List.getElem?_eq_some_iff.1 hy).1;simp at this;omega
   subst e;simp[h1] at hy;subst hy;exact hx
theorem SlR.src {w:World}{F:Nat→Prop}{y:Value}{ms:List (List Int)}(hy:SlR w F y ms) : ∃news,Src Tryz.prog 1 38 y ms.length news w∧news.length=ms.length∧∀(j:Nat) (u:Value) (l:List Int),news[j]? =some u→ms[j]? =some l→SlB w F u l:=by
 obtain⟨a,c,rfl,hl⟩:=hy;have hk:Tryz.prog.underlying 38=some (.slice 55):=Tryz.underlying38;by_cases h0:ms = []
 ·subst h0;refine⟨[],?_,rfl,by simp⟩;cases a with
  | none=>exact Src.ofNil w hk c
  | some a=>exact Src.ofSlice w hk a 0 c [] rfl (by simp) (by simp)
 ·obtain⟨b,o,rfl,_,_,h4⟩:=hl h0;obtain⟨news,n1,n2⟩:=lG (n:=ms.length) (p:=fun j u=>w.cell? ⟨b,o+j,none⟩=some u∧(∃ea en ec,u = .slice ea en ec)∧∀l,ms[j]? =some l→SlB w F u l) fun i hi=>by
   obtain⟨u,h5,h6⟩:=h4 i _ (List.getElem?_eq_getElem hi);obtain⟨ea,ec,hu,_⟩:=id h6;exact⟨u,h5,⟨ea,_,ec,hu⟩,fun l hl=>by rw[List.getElem?_eq_getElem hi] at hl; cases hl; exact h6⟩
  refine⟨news,Src.ofSlice w hk ⟨b,o,none⟩ ms.length c news (by rw[n1,Nat.mul_one]) (fun j u hj=>?_) (fun u hu=>?_),n1,fun j u l hj hl=>(n2 j u hj).2.2 l hl⟩
  ·rw[←(n2 j u hj).1];congr 1;unfold Addr.add;split
   ·rename_i h0; rw[h0]; rfl
   ·rfl
  ·obtain⟨j,hj⟩:=List.mem_iff_getElem?.1 hu;obtain⟨_,⟨ea,en,ec,rfl⟩,_⟩:=n2 j u hj;rfl
theorem lH {w:World}{F:Nat→Prop}{v:Value}{ls:List (List Int)}(h:RowB w F v ls){y:Value}{ms:List (List Int)}(hy:SlR w (fun b=>F b∨v.ownBlock=some b) y ms)(hlen:ls.length+ms.length≤1000000)(hF : ∀b,F b→b<w.heap.size){ty:TypeId}
 {K:Value×World→Prop} (hk : ∀v' w',RowB w' F v' (ls ++ ms)→Upd (fun b=>v.ownBlock=some b) w w'→(∀g,v'.ownBlock=some g→v.ownBlock=some g∨(w.heap.size≤g∧g<w'.heap.size))→K (v',w')) :
 Okk (appS Tryz.prog #[38,38] ty v y w) K:=by
 obtain⟨us,h1,h2,h3,h4⟩:=h;obtain⟨news,s1,s2,s3⟩:=hy.src;refine iQ (by_:=24) pJ pK pL pM rfl (by omega) h1 s1 (by omega) (by unfold maxLen; omega) ?_;intro v' w' g1 g2 g3;have hlt : ∀g,v.ownBlock=some g→g<w.heap.size:=fun g hg=>(World.ownsRow.lt h1 g hg).2;have mv : ∀{u:Value} {l:List Int},SlB w (fun b=>F b∨v.ownBlock=some b) u l→SlB w' (fun b=>F b∨v'.ownBlock=some b) u l:=by
  intro u l hs;refine hs.go g2 fun b hb h=>?_;rcases h with h | h | h
  ·exact .inr h
  ·exact .inl h
  ·rcases g3 b h with h | h
   ·exact .inr h
   ·omega
 refine hk v' w' ⟨us ++ news,by rw[List.length_append,s2]; exact g1,by rw[List.length_append,List.length_append,h2,s2],fun j u l hj hl=>mv ?_,fun g hg hFg=>?_⟩ g2 g3
 ·by_cases hj2:j<us.length
  ·rw[List.getElem?_append_left hj2] at hj;rw[List.getElem?_append_left (by omega)] at hl;exact h3 j u l hj hl
  ·rw[List.getElem?_append_right (by omega)] at hj;rw[List.getElem?_append_right (by omega)] at hl;rw[h2] at hj;exact s3 _ u l hj hl
 ·rcases g3 g hg with h | h
  ·exact h4 g h hFg
  ·have:=hF g hFg; omega
theorem qY {w:World}{F:Nat→Prop}{a:Option Addr}{c:Nat}{l:List Int}(h:SlB w F (.slice a l.length c) l)(hF : ¬F w.heap.size):SlR (w.alloc (.cells [.slice a l.length c].toArray 55 (0,0))) F (.slice (some ⟨w.heap.size,0,none⟩) 1 1) [l]:=by
 refine⟨_,1,rfl,fun _=>⟨w.heap.size,0,rfl,by rw[aI]; omega,hF,fun j l' hj=>?_⟩⟩;have hj0:j=0:=by have:=(List.getElem?_eq_some_iff.1 hj).1; simpa using this
 subst hj0;simp at hj;subst hj;exact⟨_,(Blk.new (cs:=[Value.slice a l.length c])).cell 0,h.go (Upd.alloc (F:=fun _=>False)) fun b _ h=>h.elim False.elim id⟩
theorem U1 {x y:Int}(hx:0≤x∧x<256)(hy:0≤y∧y<256)(h:UInt8.ofNat x.toNat=UInt8.ofNat y.toNat):x=y:=by
 have:=congrArg UInt8.toNat h;simp at this;omega
theorem qZ : ∀{l m:List Int},Rng l→Rng m→(l.map fun n=>UInt8.ofNat n.toNat)=m.map (fun n=>UInt8.ofNat n.toNat)→l=m
 | [],[],_,_,_=>rfl
 | [],_ :: _,_,_,h=>by simp at h
 | _ :: _,[],_,_,h=>by simp at h
 | x :: l,y :: m,h1,h2,h=>by
  simp only[List.map_cons,List.cons.injEq] at h;rw[U1 (h1 x List.mem_cons_self) (h2 y List.mem_cons_self) h.1,qZ (fun z hz=>h1 z (List.mem_cons_of_mem _ hz)) (fun z hz=>h2 z (List.mem_cons_of_mem _ hz)) h.2]
theorem dX {l m:List Int}(h1:Rng l)(h2:Rng m):((strOfNums l).toList == (strOfNums m).toList)=decide (l=m):=by
 rw[ByteArray.toList_eq,ByteArray.toList_eq];by_cases h:l=m
 ·subst h; simp
 ·rw[decide_eq_false h,←Bool.not_eq_true,beq_iff_eq];intro e;exact h (qZ h1 h2 (by simpa[strOfNums] using e))
def RngL (ls:List (List Int)):Prop:=∀l,l∈ls→Rng l
open Go
set_option maxRecDepth 100000
structure Elt (α : Type) where
 E:TypeId
 s:Nat
 C:World→(Nat→Prop)→α→List Value→Prop
structure EltOk {α : Type} (e : Elt α) : Prop where
 pos:0<e.s
 len : ∀{w:World} {F:Nat→Prop} {x:α} {cs:List Value},e.C w F x cs→cs.length=e.s
 one : ∀{w:World} {F:Nat→Prop} {x:α} {cs:List Value},e.C w F x cs→∀u,u∈cs→u.oneCell'=true
 go : ∀{w w':World} {F F' G:Nat→Prop} {x:α} {cs:List Value},e.C w F x cs→Upd G w w'→(∀b,b<w.heap.size→G b∨F' b→F b)→e.C w' F' x cs
def SlD {α:Type}(e:Elt α)(w:World)(F:Nat→Prop)(v:Value)(xs:List α):Prop:=∃a c,v = .slice a xs.length c∧xs.length≤c∧(xs≠[]→∃b o,a=some ⟨b,o,none⟩∧b<w.heap.size∧¬F b∧
 ∀(j:Nat) (x:α),xs[j]? =some x→∃cs,e.C w F x cs∧∀r,r<e.s→w.cell? ⟨b,o+j*e.s+r,none⟩=cs[r]?)
theorem SlD.form {α:Type}{e:Elt α}{w:World}{F:Nat→Prop}{v:Value}{xs:List α}(h:SlD e w F v xs) : ∃a c,v = .slice a xs.length c∧xs.length≤c:=by
 obtain⟨a,c,h1,h2,_⟩:=h;exact⟨a,c,h1,h2⟩
theorem SlD.nil {α:Type}{e:Elt α}{w:World}{F:Nat→Prop}{a:Option Addr}{c:Nat}:SlD e w F (.slice a 0 c) []:=⟨a,c,rfl,Nat.zero_le _,fun h=>absurd rfl h⟩
theorem SlD.one {α:Type}{e:Elt α}{w:World}{F:Nat→Prop}{v:Value}{xs:List α}(h:SlD e w F v xs):v.oneCell'=true:=by
 obtain⟨a,c,rfl,_⟩:=h;rfl
theorem SlD.go {α:Type}{e:Elt α}(he:EltOk e){w w':World}{F F' G:Nat→Prop}{v:Value}{xs:List α}(h:SlD e w F v xs)(hu:Upd G w w')(hG : ∀b,b<w.heap.size→G b∨F' b→F b):SlD e w' F' v xs:=by
 obtain⟨a,c,hv,hc,hl⟩:=h;refine⟨a,c,hv,hc,fun h0=>?_⟩;obtain⟨b,o,ha,hb,hF,hx⟩:=hl h0;refine⟨b,o,ha,Nat.lt_of_lt_of_le hb hu.size,fun h=>hF (hG b hb (.inr h)),fun j x hj=>?_⟩;obtain⟨cs,h1,h2⟩:=hx j x hj;refine⟨cs,he.go h1 hu hG,fun r hr=>?_⟩;rw[World.cell?_of_block (a:=⟨b,o+j*e.s+r,none⟩) (hu.block b hb fun h=>hF (hG b hb (.inl h)))];exact h2 r hr
theorem SlD.at_ {α:Type}{e:Elt α}{w:World}{F:Nat→Prop}{v:Value}{xs:List α}(h:SlD e w F v xs){j:Nat}{x:α}(hj:xs[j]? =some x) :
 ∃b o c cs,v = .slice (some ⟨b,o,none⟩) xs.length c∧b<w.heap.size∧¬F b∧e.C w F x cs∧∀r,r<e.s→w.cell? ⟨b,o+j*e.s+r,none⟩=cs[r]? :=by
 obtain⟨a,c,hv,_,hl⟩:=h;obtain⟨b,o,rfl,hb,hF,hx⟩:=hl (fun e=>by rw[e] at hj; simp at hj);obtain⟨cs,h1,h2⟩:=hx j x hj;exact⟨b,o,c,cs,hv,hb,hF,h1,h2⟩
theorem cP {s:Nat} : ∀{css:List (List Value)},(∀cs,cs∈css→cs.length=s)→css.flatten.length=css.length*s
 | [],_=>by simp
 | a :: r,h=>by rw[List.flatten_cons,List.length_append,h a List.mem_cons_self,cP fun x hx=>h x (List.mem_cons_of_mem _ hx),List.length_cons,Nat.succ_mul]; omega
theorem dY {s:Nat} : ∀{css:List (List Value)} {j:Nat} {cs:List Value},(∀cs,cs∈css→cs.length=s)→css[j]? =some cs→∀r,r<s→css.flatten[j*s+r]? =cs[r]?
 | [],j,cs,_,hj=>by simp at hj
 | a :: l,0,cs,h,hj=>by
  intro r hr;simp at hj;subst hj;rw[List.flatten_cons,Nat.zero_mul,Nat.zero_add,List.getElem?_append_left (by rw[h a List.mem_cons_self]; exact hr)]
 | a :: l,j+1,cs,h,hj=>by
  intro r hr;have ha:=h a List.mem_cons_self;rw[List.flatten_cons,List.getElem?_append_right (by rw[ha,Nat.succ_mul]; omega),ha,show(j+1)*s+r-s=j*s+r from by rw[Nat.succ_mul]; omega];exact dY (fun x hx=>h x (List.mem_cons_of_mem _ hx)) (by simpa using hj) r hr
def RowD {α:Type}(e:Elt α)(w:World)(F:Nat→Prop)(v:Value)(xs:List α):Prop:=∃css:List (List Value),css.length=xs.length∧w.ownsRow 0 e.E e.s v xs.length css.flatten∧
 (∀(j:Nat) (cs:List Value) (x:α),css[j]? =some cs→xs[j]? =some x→e.C w (fun b=>F b∨v.ownBlock=some b) x cs)∧∀g,v.ownBlock=some g→¬F g
theorem dI {α:Type}{e:Elt α}(he:EltOk e){w:World}{F:Nat→Prop}{css:List (List Value)}{xs:List α}(hl:css.length=xs.length)(h : ∀(j:Nat) (cs:List Value) (x:α),css[j]? =some cs→xs[j]? =some x→e.C w F x cs) : ∀cs,cs∈css→cs.length=e.s:=by
 intro cs hc;obtain⟨j,hj⟩:=List.getElem?_of_mem hc;have hjl:j<xs.length:=by rw[←hl]; exact(List.getElem?_eq_some_iff.1 hj).1
 exact he.len (h j cs _ hj (List.getElem?_eq_getElem hjl))
theorem U2 {α:Type}{e:Elt α}(he:EltOk e){w:World}{F:Nat→Prop}{css:List (List Value)}{xs:List α}(hl:css.length=xs.length)(h : ∀(j:Nat) (cs:List Value) (x:α),css[j]? =some cs→xs[j]? =some x→e.C w F x cs) : ∀u,u∈css.flatten→u.oneCell'=true:=by
 intro u hu;obtain⟨cs,hc,hu⟩:=List.mem_flatten.1 hu;obtain⟨j,hj⟩:=List.getElem?_of_mem hc;have hjl:j<xs.length:=by rw[←hl]; exact(List.getElem?_eq_some_iff.1 hj).1
 exact he.one (h j cs _ hj (List.getElem?_eq_getElem hjl)) u hu
theorem RowD.go {α:Type}{e:Elt α}(he:EltOk e){w w':World}{F F' G:Nat→Prop}{v:Value}{xs:List α}(h:RowD e w F v xs)(hu:Upd G w w')(hG : ∀b,b<w.heap.size→G b∨F' b→F b):RowD e w' F' v xs:=by
 obtain⟨css,h1,h2,h3,h4⟩:=h;refine⟨css,h1,cO h2 hu fun g hg h=>h4 g hg (hG g (World.ownsRow.lt h2 g hg).2 (.inl h)),fun j cs x hc hx=>he.go (h3 j cs x hc hx) hu fun b hb h=>?_,fun g hg h=>h4 g hg (hG g (World.ownsRow.lt h2 g hg).2 (.inr h))⟩;rcases h with h | h | h
 ·exact .inl (hG b hb (.inl h))
 ·exact .inl (hG b hb (.inr h))
 ·exact .inr h
theorem RowD.nil {α:Type}{e:Elt α}{w:World}{F:Nat→Prop}:RowD e w F (.slice none 0 0) []:=⟨[],rfl,World.ownsRow_nil _ _ _ _,fun j cs x hc=>by simp at hc,fun g hg=>by cases hg⟩
theorem RowD.empty {α:Type}{e:Elt α}{w:World}{F:Nat→Prop}{g:Nat}(h:Blk w g [] e.E)(hF : ¬F g):RowD e w F (.slice (some ⟨g,0,none⟩) 0 0) []:=
 ⟨[],rfl,⟨by simp,.inr ⟨g,0,#[],rfl,Nat.zero_le _,h,Nat.le_refl _,Nat.zero_le _,by simp,by simp⟩⟩,fun j cs x hc=>by simp at hc,fun g' hg=>by
  have e:g=g':=Option.some.inj hg;rw[←e]; exact hF⟩
theorem RowD.form {α:Type}{e:Elt α}{w:World}{F:Nat→Prop}{v:Value}{xs:List α}(h:RowD e w F v xs) : ∃a c,v = .slice a xs.length c:=by
 obtain⟨css,h1,h2,_⟩:=h;exact bY h2
theorem RowD.lt {α:Type}{e:Elt α}{w:World}{F:Nat→Prop}{v:Value}{xs:List α}(h:RowD e w F v xs){g:Nat}(hg:v.ownBlock=some g):g<w.heap.size:=by
 obtain⟨css,h1,h2,_⟩:=h;exact(World.ownsRow.lt h2 g hg).2
theorem RowD.free {α:Type}{e:Elt α}{w:World}{F:Nat→Prop}{v:Value}{xs:List α}(h:RowD e w F v xs){g:Nat}(hg:v.ownBlock=some g) : ¬F g:=by
 obtain⟨css,h1,h2,h3,h4⟩:=h;exact h4 g hg
theorem RowD.ty {α:Type}{e:Elt α}{w:World}{F:Nat→Prop}{v:Value}{xs:List α}(h:RowD e w F v xs){g:Nat}(hg:v.ownBlock=some g) : ∃cs,Blk w g cs e.E:=by
 obtain⟨css,h1,h2,h3,h4⟩:=h;rcases h2.2 with ⟨rfl,_⟩ | ⟨g',cap,cur,rfl,_,hg',_⟩
 ·cases hg
 ·have:g'=g:=Option.some.inj hg;subst this;exact⟨cur.toList,by show _=_; rw[hg']⟩
theorem RowD.slD {α:Type}{e:Elt α}(he:EltOk e){w:World}{F:Nat→Prop}{v:Value}{xs:List α}(h:RowD e w F v xs):SlD e w F v xs:=by
 obtain⟨css,h1,h2,h3,h4⟩:=h;rcases h2.2 with ⟨rfl,h0⟩ | ⟨g,cap,cur,rfl,_,hg,hnc,_,hcs,htake⟩
 ·have:xs = []:=List.eq_nil_of_length_eq_zero (by omega);subst this;exact .nil
 ·refine⟨_,cap,rfl,hnc,fun _=>⟨g,0,rfl,(Array.getElem?_eq_some_iff.1 hg).1,h4 g rfl,fun j x hj=>?_⟩⟩;have hjl:j<css.length:=by rw[h1]; exact(List.getElem?_eq_some_iff.1 hj).1
  have hcj:=List.getElem?_eq_getElem hjl;have hC:=h3 j _ x hcj hj;refine⟨css[j],he.go (G:=fun _=>False) hC Upd.refl fun b _ h=>?_,fun r hr=>?_⟩
  ·rcases h with h | h
   ·exact h.elim
   ·exact .inl h
  ·have hB:Blk w g cur.toList e.E:=by show _=_; rw[hg]
   have hfl:=cP (dI he h1 h3);have hfa:=dY (dI he h1 h3) hcj r hr;rw[hB.cell,Nat.zero_add,←hfa,←htake,List.getElem?_take_of_lt];have:(j+1)*e.s≤xs.length*e.s:=Nat.mul_le_mul_right _ (by omega);rw[Nat.succ_mul] at this;omega
theorem SlD.src {α:Type}{e:Elt α}(he:EltOk e){P:Program}{t:TypeId}(hk:P.underlying t=some (.slice e.E)){w:World}{F:Nat→Prop}{y:Value}{ys:List α}(hy:SlD e w F y ys) :
 ∃css:List (List Value),css.length=ys.length∧Src P e.s t y ys.length css.flatten w∧∀(j:Nat) (cs:List Value) (x:α),css[j]? =some cs→ys[j]? =some x→e.C w F x cs:=by
 obtain⟨a,c,rfl,hc,hl⟩:=hy;by_cases h0:ys = []
 ·subst h0;cases a with
  | none=>exact⟨[],rfl,Src.ofNil w hk c,fun j cs x hj=>by simp at hj⟩
  | some a=>exact⟨[],rfl,Src.ofSlice w hk a 0 c [] (by simp) (by simp) (by simp),fun j cs x hj=>by simp at hj⟩
 ·obtain⟨b,o,rfl,hb,hF,hx⟩:=hl h0;obtain⟨css,hcl,hcs⟩:=lG (n:=ys.length) (p:=fun j (cs:List Value)=>∀x,ys[j]? =some x→e.C w F x cs∧∀r,r<e.s→w.cell? ⟨b,o+j*e.s+r,none⟩=cs[r]?) (fun j hj=>by
   obtain⟨cs,h1,h2⟩:=hx j _ (List.getElem?_eq_getElem hj);exact⟨cs,fun x hx=>by rw[List.getElem?_eq_getElem hj] at hx; injection hx with hx; subst hx; exact⟨h1,h2⟩⟩)
  have hC : ∀(j:Nat) (cs:List Value) (x:α),css[j]? =some cs→ys[j]? =some x→e.C w F x cs:=fun j cs x h1 h2=>(hcs j cs h1 x h2).1;have hlen:=dI he hcl hC;have hfl:=cP hlen;refine⟨css,hcl,Src.ofSlice w hk ⟨b,o,none⟩ ys.length c css.flatten (by rw[hfl,hcl]) (fun i u hi=>?_) (U2 he hcl hC),hC⟩;have hil:i<css.length*e.s:=by rw[←hfl]; exact(List.getElem?_eq_some_iff.1 hi).1
  have hsp:=he.pos;have hdm:i/e.s*e.s+i%e.s=i:=by rw[Nat.mul_comm]; exact Nat.div_add_mod i e.s
  have hr:i%e.s<e.s:=Nat.mod_lt _ hsp;have hj:i/e.s<css.length:=(Nat.div_lt_iff_lt_mul hsp).2 hil;have hcj:=List.getElem?_eq_getElem hj;have hyj:=List.getElem?_eq_getElem (l:=ys) (i:=i/e.s) (by rw[←hcl]; exact hj);have h2:=(hcs _ _ hcj _ hyj).2 _ hr;have h3:=dY hlen hcj _ hr;rw[hdm] at h3;rw[←hi,h3,←h2];congr 1;unfold Addr.add;split
  ·rename_i h0;rw[Addr.mk.injEq];exact⟨rfl,by omega,rfl⟩
  ·rw[Addr.mk.injEq];exact⟨rfl,by show o+i=_; omega,rfl⟩
theorem lI {α:Type}{e:Elt α}(he:EltOk e){P:Program}{t ty:TypeId}{by_:Nat}{z:Value}(hk:P.underlying t=some (.slice e.E))(ht:elt P t=some e.E)(hs:siz P e.E=some e.s)(hb:byt P e.E=some by_)(hz:zer P e.E=some z)(hzs:z.cells.size=e.s)
 {w:World} {F:Nat→Prop} {v y:Value} {xs ys:List α} (hv:RowD e w F v xs) (hy:SlD e w (fun b=>F b∨v.ownBlock=some b) y ys) (hF : ∀b,F b→b<w.heap.size) (hbytes:(xs.length+ys.length)*by_≤140737488355328) (h63:xs.length+ys.length≤maxLen)
 {K:Value×World→Prop} (hK : ∀v' w',RowD e w' F v' (xs ++ ys)→Upd (fun b=>v.ownBlock=some b) w w'→(∀g,v'.ownBlock=some g→v.ownBlock=some g∨(w.heap.size≤g∧g<w'.heap.size))→K (v',w')) :
 Okk (appS P #[t,t] ty v y w) K:=by
 obtain⟨css,h1,h2,h3,h4⟩:=hv;obtain⟨dss,g1,g2,g3⟩:=hy.src he hk;refine iQ ht hs hb hz hzs he.pos h2 g2 hbytes h63 ?_;intro v' w' ho hu hf;have hown : ∀b,b<w.heap.size→v'.ownBlock=some b→v.ownBlock=some b:=fun b hb hb'=>(hf b hb').resolve_right (by omega);refine hK v' w' ⟨css ++ dss,by simp[h1,g1],by rw[List.flatten_append,List.length_append]; exact ho,fun j cs x hc hx=>?_,fun g hg hFg=>?_⟩ hu hf
 ·rw[List.getElem?_append] at hc hx;rw[h1] at hc;split at hx
  ·rename_i hj;rw[if_pos hj] at hc;refine he.go (h3 j cs x hc hx) hu fun b hb h=>?_;rcases h with h | h | h
   ·exact .inr h
   ·exact .inl h
   ·exact .inr (hown b hb h)
  ·rename_i hj;rw[if_neg hj] at hc;refine he.go (g3 _ cs x hc hx) hu fun b hb h=>?_;rcases h with h | h | h
   ·exact .inr h
   ·exact .inl h
   ·exact .inr (hown b hb h)
 ·rcases hf g hg with h | h
  ·exact h4 g h hFg
  ·have:=hF g hFg; omega
theorem SlD.single {α:Type}{e:Elt α}{w:World}{F:Nat→Prop}{x:α}{cs:List Value}(hx:e.C w F x cs){b c:Nat}(hb:Blk w b cs e.E)(hF : ¬F b)(hc:1≤c):SlD e w F (.slice (some ⟨b,0,none⟩) 1 c) [x]:=by
 refine⟨_,c,rfl,hc,fun _=>⟨b,0,rfl,hb.lt,hF,fun j y hj=>?_⟩⟩;have hj0:j=0:=by have:=(List.getElem?_eq_some_iff.1 hj).1; simp at this; omega
 subst hj0;simp at hj;subst hj;exact⟨cs,hx,fun r _=>by rw[hb.cell]; simp⟩
theorem bN {P:Program}{t:TypeId}{w:World}{b o:Nat}{cs:List Value}(hk:knd P t=some true)(hs:siz P t=some cs.length)(h : ∀r,r<cs.length→w.cell? ⟨b,o+r,none⟩=cs[r]?):ldS P t (.pointer (some ⟨b,o,none⟩)) w=some (.agg cs.toArray,w):=by
 refine kR (P:=P) hk hs fun j hj=>?_;rw[←h j hj];congr 1;unfold Addr.add;by_cases hj0:j=0
 ·subst hj0; rfl
 ·simp[hj0]
open Go
set_option maxRecDepth 100000
def encU (n:Nat):List Int:=if n<128 then [(n:Int)] else ((n%128+128:Nat):Int) :: encU (n/128)
termination_by n
decreasing_by omega
theorem bL {n:Nat}(h:n<128):encU n = [(n:Int)]:=by rw [encU,if_pos h]
theorem dZ {n:Nat}(h : ¬n<128):encU n=((n%128+128:Nat):Int) :: encU (n/128):=by rw [encU,if_neg h]
theorem aS (n:Nat):0<(encU n).length:=by
 by_cases h:n<128
 ·rw[bL h]; simp
 ·rw[dZ h]; simp
theorem bC (n:Nat):Rng (encU n):=by
 induction n using Nat.strongRecOn with
 | _ n ih=>
  by_cases h:n<128
  ·rw[bL h];intro x hx;simp at hx;omega
  ·rw[dZ h];intro x hx;rcases List.mem_cons.1 hx with rfl | hx
   ·omega
   ·exact ih (n/128) (by omega) x hx
theorem rA : ∀{k n:Nat},n<128 ^ (k+1)→(encU n).length≤k+1:=by
 intro k;induction k with
 | zero=>intro n h; rw[bL (by simpa using h)]; simp
 | succ k ih=>
  intro n h;by_cases h1:n<128
  ·rw[bL h1]; simp
  ·rw[dZ h1];have:=ih (n:=n/128) (by rw[Nat.pow_succ] at h; exact Nat.div_lt_of_lt_mul (by omega));simp;omega
theorem aL {n:Nat}(h:n<2 ^ 64):(encU n).length≤10:=rA (k:=9) (by omega)
def numF (d:List Int)(at_:Nat):Nat→Nat→Nat→Option (Nat×Nat)
 | 0,_,_=>none
 | k+1,i,n=>
  match d[at_+i]? with
  | none=>none
  | some b=>if i=9∧1<b then none else if b<128 then (if b=0∧0<i then none else some (n+b.toNat%128*2 ^ (7*i),at_+i+1)) else numF d at_ k (i+1) (n+b.toNat%128*2 ^ (7*i))
def num (d:List Int)(at_:Nat):Option (Nat×Nat):=numF d at_ 10 0 0
theorem U3 {d:List Int}{at_:Nat} : ∀{k i n m next:Nat},numF d at_ k i n=some (m,next)→at_<next∧next≤d.length∧next≤at_+i+k:=by
 intro k;induction k with
 | zero=>intro i n m next h; cases h
 | succ k ih=>
  intro i n m next h
  rw[numF] at h;cases hb:d[at_+i]? with
  | none=>rw[hb] at h; cases h
  | some b=>
   rw[hb] at h;have hl:=(List.getElem?_eq_some_iff.1 hb).1;dsimp only at h;split at h
   ·cases h
   ·split at h
    ·split at h
     ·cases h
     ·cases h;omega
    ·have:=ih h;omega
theorem iR {d:List Int}{at_ m next:Nat}(h:num d at_=some (m,next)):at_<next∧next≤d.length:=by
 have:=U3 h;omega
theorem U4 {d:List Int}{at_:Nat} : ∀{k i n m next:Nat},i+k=10→n<2 ^ (7*i)→numF d at_ k i n=some (m,next)→m<2 ^ 64:=by
 intro k;induction k with
 | zero=>intro i n m next _ _ h; cases h
 | succ k ih=>
  intro i n m next hik hn h
  rw[numF] at h;cases hb:d[at_+i]? with
  | none=>rw[hb] at h; cases h
  | some b=>
   rw[hb] at h;dsimp only at h;split at h
   ·cases h
   ·rename_i h9;have hlt:n+b.toNat%128*2 ^ (7*i)<2 ^ (7*(i+1)):=by
     have h1:b.toNat%128*2 ^ (7*i)≤127*2 ^ (7*i):=Nat.mul_le_mul_right _ (by omega);rw[show 7*(i+1)=7*i+7 from by omega,Nat.pow_add];omega
    split at h
    ·split at h
     ·cases h
     ·cases h;by_cases e:i=9
      ·subst e;have h2:b.toNat%128≤1:=by omega
       have h3:b.toNat%128*2 ^ (7*9)≤1*2 ^ (7*9):=Nat.mul_le_mul_right _ h2;have h4:(2:Nat) ^ (7*9)+2 ^ (7*9)=2 ^ 64:=by decide
       omega
      ·exact Nat.lt_of_lt_of_le hlt (Nat.pow_le_pow_right (by omega) (by omega))
    ·exact ih (by omega) hlt h
theorem U5 {d:List Int}{at_ m next:Nat}(h:num d at_=some (m,next)):m<2 ^ 64:=U4 (by omega) (by decide) h
theorem U6 {d:List Int}{at_:Nat} : ∀{k i m n:Nat},i+k=10→n<2 ^ (64-7*i)→(0<i→0<n)→(∀j,j<(encU n).length→d[at_+i+j]? =(encU n)[j]?)→numF d at_ k i m=some (m+n*2 ^ (7*i),at_+i+(encU n).length):=by
 intro k;induction k with
 | zero=>
  intro i m n hik hn h0 _;have:i=10:=by omega
  subst this;simp at hn;have:=h0 (by omega);omega
 | succ k ih=>
  intro i m n hik hn h0 hd;have hd0:=hd 0 (aS n);rw[Nat.add_zero] at hd0;have hi9:i≤9:=by omega
  rw[numF,hd0];by_cases hs:n<128
  ·rw[bL hs];simp only[List.getElem?_cons_zero,List.length_singleton];rw[if_neg (by rintro⟨rfl,h⟩; simp at hn; omega),if_pos (by omega),if_neg (by rintro⟨h1,h2⟩; have:=h0 h2; omega)];rw[show((n:Int).toNat%128)=n from by omega]
  ·have h9 : ¬i=9:=by
    rintro rfl;simp at hn;omega
   rw[dZ hs] at hd ⊢;simp only[List.getElem?_cons_zero,List.length_cons];rw[if_neg (by rintro⟨h,_⟩; exact h9 h),if_neg (by omega)];rw[ih (i:=i+1) (n:=n/128) (by omega) ?_ (fun _=>by omega) fun j hj=>?_]
   ·have e:(((n%128+128:Nat):Int).toNat%128)=n%128:=by omega
    rw[e];congr 2
    ·have h2:2 ^ (7*(i+1))=2 ^ (7*i)*128:=by rw[show 7*(i+1)=7*i+7 from by omega,Nat.pow_add]
     rw[h2];have h3:n=n/128*128+n%128:=by omega
     have h4:n*2 ^ (7*i)=n/128*(2 ^ (7*i)*128)+n%128*2 ^ (7*i):=by
      conv=>lhs; rw[h3]
      rw[Nat.add_mul,Nat.mul_assoc,Nat.mul_comm 128]
     omega
    ·omega
   ·have h1:(2:Nat) ^ (64-7*i)=2 ^ (64-7*(i+1))*128:=by
     rw[show 64-7*i=(64-7*(i+1))+7 from by omega,Nat.pow_add]
    rw[h1] at hn;exact Nat.div_lt_of_lt_mul (by omega)
   ·have:=hd (j+1) (by simp; omega);rw[List.getElem?_cons_succ] at this;rw[←this];congr 1;omega
theorem eD {d:List Int}{at_ n:Nat}(hn:n<2 ^ 64)(hd : ∀j,j<(encU n).length→d[at_+j]? =(encU n)[j]?):num d at_=some (n,at_+(encU n).length):=by
 have:=U6 (d:=d) (at_:=at_) (k:=10) (i:=0) (m:=0) (n:=n) rfl (by simpa using hn) (fun h=>by omega) (by simpa using hd);simpa[num] using this
def encB (b:List Int):List Int:=encU b.length ++ b
def stream (l:List (List Int)):List Int:=l.flatMap encB
theorem cA:stream [] = []:=rfl
theorem cY {l m:List (List Int)}:stream (l ++ m)=stream l ++ stream m:=by simp [stream]
theorem eE {b:List Int}{l:List (List Int)}:stream (b :: l)=encB b ++ stream l:=by simp [stream]
def byt_ (d:List Int)(at_:Nat):Option (List Int×Nat):=
 match num d at_ with
 | none=>none
 | some (n,next)=>if d.length-next<n then none else some ((d.drop next).take n,next+n)
theorem U7 {d b:List Int}{at_ next:Nat}(h:byt_ d at_=some (b,next)):at_<next∧next≤d.length∧at_+b.length<next:=by
 unfold byt_ at h;cases hn:num d at_ with
 | none=>rw[hn] at h; cases h
 | some x=>
  obtain⟨n,nx⟩:=x;rw[hn] at h;dsimp only at h;have:=iR hn;split at h
  ·cases h
  ·cases h;simp;omega
theorem iS {d b:List Int}{at_:Nat}(hb:b.length<2 ^ 64)(hd : ∀j,j<(encB b).length→d[at_+j]? =(encB b)[j]?):byt_ d at_=some (b,at_+(encB b).length):=by
 have hlen:(encB b).length=(encU b.length).length+b.length:=by simp[encB]
 have h1:=eD (d:=d) (at_:=at_) hb fun j hj=>by
  rw[hd j (by omega),encB,List.getElem?_append_left hj]
 unfold byt_;rw[h1];dsimp only;have hp:=aS b.length;have hle:at_+(encB b).length≤d.length:=by
  have:=hd ((encB b).length-1) (by omega);rw[List.getElem?_eq_getElem (by omega:(encB b).length-1<(encB b).length)] at this;have:=(List.getElem?_eq_some_iff.1 this).1;omega
 rw[if_neg (by omega)];congr 2
 ·apply List.ext_getElem?;intro j;by_cases hj:j<b.length
  ·rw[List.getElem?_take_of_lt hj,List.getElem?_drop];have:=hd ((encU b.length).length+j) (by omega);rw[encB,List.getElem?_append_right (by omega),Nat.add_sub_cancel_left] at this;rw[←this];congr 1;omega
  ·rw[List.getElem?_eq_none (by rw[List.length_take]; omega),List.getElem?_eq_none (by omega)]
 ·omega
def splF (d:List Int):Nat→Nat→Option (List (List Int))
 | 0,at_=>if at_<d.length then none else some []
 | k+1,at_=>if at_<d.length then (match byt_ d at_ with | none=>none | some (b,next)=>(splF d k next).map (b :: ·)) else some []
def spl (d:List Int):Option (List (List Int)):=splF d d.length 0
theorem rB {d:List Int}{k at_:Nat}(h : ¬at_<d.length):splF d k at_=some []:=by
 cases k
 ·rw[splF,if_neg h]
 ·rw[splF,if_neg h]
theorem rC {d:List Int}{k at_:Nat}(h:at_<d.length)(hk:d.length≤at_+k) : ∃k',k=k'+1∧splF d k at_=match byt_ d at_ with | none=>none | some (b,next)=>(splF d k' next).map (b :: ·):=by
 obtain⟨k',rfl⟩ : ∃k',k=k'+1:=⟨k-1,by omega⟩;exact⟨k',rfl,by rw[splF,if_pos h]⟩
theorem rD {d:List Int} : ∀{l:List (List Int)} {k at_:Nat},d.length≤at_+k→d.length=at_+(stream l).length→(∀b,b∈l→b.length<2 ^ 64)→(∀j,j<(stream l).length→d[at_+j]? =(stream l)[j]?)→splF d k at_=some l
 | [],k,at_,_,h1,_,_=>rB (by rw[cA] at h1; simp at h1; omega)
 | b :: l,k,at_,hk,h1,h2,h3=>by
  have hbp:0<(encB b).length:=by have:=aS b.length; simp[encB]; omega
  rw[eE] at h1 h3;rw[List.length_append] at h1 h3;obtain⟨k',rfl,h⟩:=rC (d:=d) (k:=k) (at_:=at_) (by omega) hk;rw[h,iS (h2 b List.mem_cons_self) fun j hj=>by rw[h3 j (by omega),List.getElem?_append_left hj]];dsimp only;rw[rD (l:=l) (by omega) (by omega) (fun x hx=>h2 x (List.mem_cons_of_mem _ hx)) fun j hj=>?_]
  ·rfl
  ·have:=h3 ((encB b).length+j) (by omega);rw[List.getElem?_append_right (by omega),Nat.add_sub_cancel_left] at this;rw[←this];congr 1;omega
theorem rE {l:List (List Int)}(h : ∀b,b∈l→b.length<2 ^ 64):spl (stream l)=some l:=
 rD (by omega) (by omega) h fun j _=>by rw[Nat.zero_add]
def titleL:List Int:=[106,111,117,114,110,97,108]
def headL (n:Nat):List Int:=encB titleL ++ encU n
def zer0 (l:List Int):Bool:=l.all (· == 0)
def headD (l:List Int):Option Nat:=
 if zer0 l then some 0 else
 match byt_ l 0 with
 | none=>none
 | some (s,a)=>
  match num l a with
  | none=>none
  | some (n,b)=>if s=titleL∧n≤1099511627776∧zer0 (l.drop b) then some n else none
def pad (s:Nat)(l:List Int):List Int:=l ++ List.replicate (s-l.length) 0
theorem gG {s:Nat}{l:List Int}(h:l.length≤s):(pad s l).length=s:=by simp [pad]; omega
theorem rF {n:Nat}:zer0 (List.replicate n 0)=true:=by
 unfold zer0;rw[List.all_eq_true];intro x hx;rw[List.eq_of_mem_replicate hx];rfl
theorem U8 {s:Nat}:headD (List.replicate s 0)=some 0:=by
 unfold headD;rw[if_pos rF]
theorem cQ:encB titleL = [7,106,111,117,114,110,97,108]:=by
 rw[encB,bL (by decide)]; rfl
theorem lJ {n:Nat}:(headL n).length=8+(encU n).length:=by rw [headL,List.length_append,cQ]; rfl
theorem U9 {s n:Nat}(hn:n≤1099511627776)(hs:(headL n).length≤s):headD (pad s (headL n))=some n:=by
 have hl:=lJ (n:=n);have h1:byt_ (pad s (headL n)) 0=some (titleL,8):=by
  have:=iS (d:=pad s (headL n)) (b:=titleL) (at_:=0) (by decide) fun j hj=>by
   rw[cQ] at hj;have hj:j<8:=hj;rw[pad,Nat.zero_add,List.getElem?_append_left (by omega),headL,List.getElem?_append_left (by rw[cQ]; exact hj)]
  rw[this,cQ];rfl
 have h2:num (pad s (headL n)) 8=some (n,8+(encU n).length):=by
  refine eD (by omega) fun j hj=>?_;rw[pad,List.getElem?_append_left (by omega),headL,List.getElem?_append_right (by rw[cQ]; simp),cQ];congr 1;simp
 unfold headD;rw[if_neg,h1]
 ·dsimp only;rw[h2];dsimp only;rw[if_pos];refine⟨_root_.id rfl,hn,?_⟩;have:(pad s (headL n)).drop (8+(encU n).length)=List.replicate (s-(headL n).length) 0:=by
   rw[←hl,pad,List.drop_left]
  rw[this];exact rF
 ·intro h;unfold zer0 at h;rw[List.all_eq_true] at h;have:=h 7 (by rw[pad,headL,cQ]; simp);simp at this
end Go.Proofs.YtpgigkceoolgeaaGreatDoor.Fd
