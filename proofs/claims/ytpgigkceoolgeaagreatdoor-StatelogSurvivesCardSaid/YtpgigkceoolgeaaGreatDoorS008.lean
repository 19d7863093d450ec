import Derived.Test.YtpgigkceoolgeaaGreatDoorS007
import Derived.KernelRfl
import Derived.Maps.RangeRun
import Derived.MapKept
set_option linter.all false
namespace Go.Proofs.YtpgigkceoolgeaaGreatDoor.Fd
open Go
set_option maxRecDepth 100000
structure DS where
 size:Nat
 dur:List (List Int)
 cache:List (Nat×List Int)
 off:Bool
 cnt:Option Nat
def CV (b:Nat)(l:List Int):Value:=.slice (some ⟨b,0,none⟩) l.length l.length
def cacheRow (x:Nat×Nat×List Int):List Value:=[.int .i64 x.1,CV x.2.1 x.2.2]
structure Disk (w : World) (F : Nat → Prop) (p : Nat) (d : DS) (q : Nat) (durs : List (Nat × List Int)) (cv : Value) (cachs : List (Nat × Nat × List Int)) (armed : Bool) (left : Nat) : Prop where
 head:Blk w p [.int .i64 d.size,.slice (some ⟨q,0,none⟩) durs.length durs.length,cv,.bool d.off,.bool armed,.int .i64 left] 97
 row:Blk w q (durs.map fun x=>CV x.1 x.2) 55
 own:w.ownsRow 0 156 2 cv cachs.length (cachs.flatMap cacheRow)
 dur:d.dur=durs.map (·.2)
 cache:d.cache=cachs.map fun x=>(x.1,x.2.2)
 durc : ∀x∈durs,Blk w x.1 (by8 x.2) 5∧x.2.length=d.size∧F x.1∧x.1≠p∧x.1≠q∧cv.ownBlock≠some x.1
 cachc : ∀x∈cachs,Blk w x.2.1 (by8 x.2.2) 5∧x.2.2.length=d.size∧x.1<durs.length∧F x.2.1∧x.2.1≠p∧x.2.1≠q∧cv.ownBlock≠some x.2.1
 cvc : ∀g,cv.ownBlock=some g→F g∧g≠p∧g≠q
 fp:F p
 fq:F q
 pq:p≠q
 arm:d.cnt=if armed then some left else none
 small:d.size≤4096∧durs.length≤65536
 bd : ∀b,F b→b<w.heap.size
def IsDisk (w:World)(F:Nat→Prop)(p:Nat)(d:DS):Prop:=∃q durs cv cachs armed left,Disk w F p d q durs cv cachs armed left
theorem Disk.upd {w w':World}{F G:Nat→Prop}{p:Nat}{d:DS}{q:Nat}{durs:List (Nat×List Int)}{cv:Value}{cachs:List (Nat×Nat×List Int)}{armed:Bool}{left:Nat}
 (h:Disk w F p d q durs cv cachs armed left) (hu:Upd G w w') (hG : ∀b,F b→¬G b):Disk w' F p d q durs cv cachs armed left:=
 ⟨h.head.upd hu (hG _ h.fp),h.row.upd hu (hG _ h.fq),cO h.own hu fun g hg=>hG g (h.cvc g hg).1,h.dur,h.cache,
  fun x hx=>⟨(h.durc x hx).1.upd hu (hG _ (h.durc x hx).2.2.1),(h.durc x hx).2⟩,fun x hx=>⟨(h.cachc x hx).1.upd hu (hG _ (h.cachc x hx).2.2.2.1),(h.cachc x hx).2⟩,
  h.cvc,h.fp,h.fq,h.pq,h.arm,h.small,fun b hb=>Nat.lt_of_lt_of_le (h.bd b hb) hu.size⟩
theorem IsDisk.upd {w w':World}{F G:Nat→Prop}{p:Nat}{d:DS}(h:IsDisk w F p d)(hu:Upd G w w')(hG : ∀b,F b→¬G b):IsDisk w' F p d:=by
 obtain⟨q,durs,cv,cachs,armed,left,h⟩:=h;exact⟨q,durs,cv,cachs,armed,left,h.upd hu hG⟩
theorem IsDisk.mono {w:World}{F G:Nat→Prop}{p:Nat}{d:DS}(h:IsDisk w F p d)(hG : ∀b,F b→G b)(hb : ∀b,G b→b<w.heap.size):IsDisk w G p d:=by
 obtain⟨q,durs,cv,cachs,armed,left,h⟩:=h;exact⟨q,durs,cv,cachs,armed,left,h.head,h.row,h.own,h.dur,h.cache,fun x hx=>⟨(h.durc x hx).1,(h.durc x hx).2.1,hG _ (h.durc x hx).2.2.1,(h.durc x hx).2.2.2⟩,
  fun x hx=>⟨(h.cachc x hx).1,(h.cachc x hx).2.1,(h.cachc x hx).2.2.1,hG _ (h.cachc x hx).2.2.2.1,(h.cachc x hx).2.2.2.2⟩,fun g hg=>⟨hG _ (h.cvc g hg).1,(h.cvc g hg).2⟩,hG _ h.fp,hG _ h.fq,h.pq,h.arm,h.small,hb⟩
theorem IsDisk.bd {w:World}{F:Nat→Prop}{p:Nat}{d:DS}(h:IsDisk w F p d) : ∀b,F b→b<w.heap.size:=by
 obtain⟨q,durs,cv,cachs,armed,left,h⟩:=h;exact h.bd
theorem IsDisk.gr {w w':World}{F:Nat→Prop}{p:Nat}{d:DS}(h:IsDisk w' F p d):IsDisk w' (gr F w w') p d:=
 h.mono (fun b hb=>.inl hb) fun b hb=>hb.elim (h.bd b) fun x=>x.2
theorem qE {p:Nat}{x:Int}{n c:Nat}{a:Option Addr}{w:World}(hc:w.cell? ⟨p,1,none⟩=some (.slice a n c)) :
 Ok (den Tryz.prog 101 #[.pointer (some ⟨p,0,none⟩),.int .i64 x] w) fun v w'=>v = .bool (decide (0≤x∧x<n))∧w=w':=by
 refine aB (args:=[.pointer (some ⟨p,0,none⟩),.int .i64 x]) rs101 Tryz.func101 rfl mixed (by kernel_rfl) RF rfl ?_;by_cases h0:0≤x
 ·simp(disch:=omega)only[push_cast,seval,hc];simp[h0]
 ·simp(disch:=omega)only[push_cast,seval,hc]
def DS.step (d:DS):Bool×DS:=
 if d.off then (false,d) else
 match d.cnt with
 | none=>(true,d)
 | some 0=>(false,{d with off:=true})
 | some (k+1)=>(true,{d with cnt:=some k})
theorem qF {w:World}{F:Nat→Prop}{p:Nat}{d:DS}(h:IsDisk w F p d)(hk : ∀k,d.cnt=some k→k<9223372036854775808) :
 Ok (den Tryz.prog 61 #[.pointer (some ⟨p,0,none⟩)] w) fun v w'=>v = .bool d.step.1∧IsDisk w' F p d.step.2∧Upd F w w':=by
 obtain⟨q,durs,cv,cachs,armed,left,h⟩:=h;have hb:=h.head;obtain⟨size,dur,cache,off,cnt⟩:=d;have ha:=h.arm;simp only at ha hk hb;have fin : ∀(off' armed':Bool) (left':Nat) (w':World),Blk w' p [.int .i64 size,.slice (some ⟨q,0,none⟩) durs.length durs.length,cv,.bool off',.bool armed',.int .i64 left'] 97→
  Upd (fun b=>b=p) w w'→Disk w' F p ⟨size,dur,cache,off',if armed' then some left' else none⟩ q durs cv cachs armed' left':=by
  intro off' armed' left' w' hb' hu;exact⟨hb',h.row.upd hu h.pq.symm,cO h.own hu fun g hg=>(h.cvc g hg).2.1,h.dur,h.cache,
   fun x hx=>⟨(h.durc x hx).1.upd hu (h.durc x hx).2.2.2.1,(h.durc x hx).2⟩,fun x hx=>⟨(h.cachc x hx).1.upd hu (h.cachc x hx).2.2.2.2.1,(h.cachc x hx).2⟩,
   h.cvc,h.fp,h.fq,h.pq,rfl,h.small,fun b hb=>Nat.lt_of_lt_of_le (h.bd b hb) hu.size⟩
 refine aB (args:=[.pointer (some ⟨p,0,none⟩)]) rs61 Tryz.func61 rfl mixed (by kernel_rfl) QC rfl ?_;cases armed
 ·simp only[Bool.false_eq_true,if_false] at ha;subst ha;cases off
  ·simp(disch:=omega)only[push_cast,seval,hb.cell,hb.free];exact⟨rfl,⟨q,durs,cv,cachs,false,left,h⟩,Upd.refl⟩
  ·simp(disch:=omega)only[push_cast,seval,hb.cell,hb.free];exact⟨rfl,⟨q,durs,cv,cachs,false,left,h⟩,Upd.refl⟩
 ·simp only[if_true] at ha;subst ha;have hk':=hk left rfl;by_cases h0:left=0
  ·subst h0;simp(disch:=omega)only[push_cast,seval,hb.cell,hb.free];have hu:Upd (fun b=>b=p) w (w.setCell ⟨p,3,none⟩ (.bool true)):=Upd.set rfl;cases off
   ·exact⟨rfl,⟨q,durs,cv,cachs,true,0,fin true true 0 _ (hb.set 3 _) hu⟩,hu.mono fun b _ e=>e ▸ h.fp⟩
   ·exact⟨rfl,⟨q,durs,cv,cachs,true,0,fin true true 0 _ (hb.set 3 _) hu⟩,hu.mono fun b _ e=>e ▸ h.fp⟩
  ·obtain⟨k,rfl⟩:=Nat.exists_eq_succ_of_ne_zero h0;have h0' : ¬((k.succ:Nat):Int)=0:=by omega
   cases off
   ·simp(disch:=omega)only[push_cast,seval,hb.cell,hb.free];have hu:Upd (fun b=>b=p) w (w.setCell ⟨p,5,none⟩ (.int .i64 ((k.succ:Nat)-1))):=Upd.set rfl;refine⟨rfl,⟨q,durs,cv,cachs,true,k,fin false true k _ ?_ hu⟩,hu.mono fun b _ e=>e ▸ h.fp⟩;have:=hb.set 5 (.int .i64 ((k.succ:Nat)-1));simpa[show((k.succ:Nat):Int)-1=k from by omega] using this
   ·simp(disch:=omega)only[push_cast,seval,hb.cell,hb.free];exact⟨rfl,⟨q,durs,cv,cachs,true,k+1,h⟩,Upd.refl⟩
theorem lC {w:World}{p size b o c:Nat}{l:List Int}(hc:w.cell? ⟨p,0,none⟩=some (.int .i64 size))(hl:l.length=size)(h0:0<size)(h1:size≤4096)(hs:Lies w b o l) :
 Ok (den Tryz.prog 102 #[.pointer (some ⟨p,0,none⟩),.slice (some ⟨b,o,none⟩) size c] w) fun v w'=>v=CV w.heap.size l∧Blk w' w.heap.size (by8 l) 5∧Upd (fun _=>False) w w':=by
 refine aB (args:=[.pointer (some ⟨p,0,none⟩),.slice (some ⟨b,o,none⟩) size c]) rs102 Tryz.func102 rfl mixed (by kernel_rfl) RG rfl ?_;simp(disch:=omega)only[push_cast,seval,hc];have hlt:=hs.lt (by omega);have hnew:Blk (w.alloc (.cells (List.replicate size (Value.int .u8 0)).toArray 5 (0,0))) w.heap.size (List.replicate size (Value.int .u8 0)) 5:=Blk.new;have hal:Upd (fun _=>False) w (w.alloc (.cells (List.replicate size (Value.int .u8 0)).toArray 5 (0,0))):=Upd.alloc;rw[iM cG bJ hnew (cs:=by8 l) (by rw[aQ]; omega) (fun j hj=>(hs.upd hal hlt (fun h=>h)) j hj) (by simp[aQ,hl]) dD];simp(disch:=omega)only[push_cast,seval];refine⟨by rw[CV,hl],?_,hal.trans (Upd.setRow (F:=fun b=>b=w.heap.size) rfl) (fun b h1 h2=>by omega)⟩;have e:(List.replicate size (Value.int IntKind.u8 0)).take 0 ++ by8 l ++ (List.replicate size (Value.int IntKind.u8 0)).drop (by8 l).length=by8 l:=by
  rw[List.take_zero,List.nil_append,List.drop_eq_nil_of_le (by simp[aQ,hl]),List.append_nil]
 rw[e];exact hnew.setRow
theorem dW {w:World}{F:Nat→Prop}{p:Nat}{d:DS}(h:IsDisk w F p d):Ok (den Tryz.prog 40 #[.pointer (some ⟨p,0,none⟩)] w) fun v w'=>v = .int .i64 d.dur.length∧w=w':=by
 obtain⟨q,durs,cv,cachs,armed,left,h⟩:=h;refine aB (args:=[.pointer (some ⟨p,0,none⟩)]) rs40 Tryz.func40 rfl mixed (by kernel_rfl) PR rfl ?_;have hb:=h.head;simp(disch:=omega)only[push_cast,seval,hb.cell];rw[h.dur,List.length_map]
theorem bP {w:World}{F:Nat→Prop}{p:Nat}{d:DS}(h:IsDisk w F p d):Ok (den Tryz.prog 13 #[.pointer (some ⟨p,0,none⟩)] w) fun v w'=>v = .int .i64 d.size∧w=w':=by
 obtain⟨q,durs,cv,cachs,armed,left,h⟩:=h;refine aB (args:=[.pointer (some ⟨p,0,none⟩)]) rs13 Tryz.func13 rfl mixed (by kernel_rfl) O1 rfl ?_;have hb:=h.head;simp(disch:=omega)only[push_cast,seval,hb.cell]
theorem lD {w:World}{F:Nat→Prop}{p:Nat}{d:DS}(h:IsDisk w F p d):Ok (den Tryz.prog 41 #[.pointer (some ⟨p,0,none⟩)] w) fun v w'=>v = .bool d.off∧w=w':=by
 obtain⟨q,durs,cv,cachs,armed,left,h⟩:=h;refine aB (args:=[.pointer (some ⟨p,0,none⟩)]) rs41 Tryz.func41 rfl mixed (by kernel_rfl) PS rfl ?_;have hb:=h.head;simp(disch:=omega)only[push_cast,seval,hb.cell]
def lastOf (c:List (Nat×List Int))(s:Nat):Option (List Int):=(c.reverse.find? fun x=>x.1 == s).map (·.2)
def DS.content (d:DS)(s:Nat):List Int:=(lastOf d.cache s).getD (d.dur.getD s [])
def errV (n:Int):Value:=.int .i64 n
def DS.read (d:DS)(x:Int):Option (List Int)×Int:=
 if 0≤x∧x<d.dur.length then (if d.off then (none,8) else (some (d.content x.toNat),0)) else (none,1)
def IsRes (w:World)(v:Value)(l:Option (List Int))(lo:Nat):Prop:=
 match l with
 | none=>v = .slice none 0 0
 | some l=>∃b,v=CV b l∧lo≤b∧Blk w b (by8 l) 5
theorem lE {w:World}{F:Nat→Prop}{p:Nat}{d:DS}(h:IsDisk w F p d)(hz:0<d.size)(hc:d.cache.length<1000000000)(x:Int) :
 Ok (den Tryz.prog 54 #[.pointer (some ⟨p,0,none⟩),.int .i64 x] w) fun v w'=>∃u,v = .tuple #[u,.int .i64 (d.read x).2]∧IsRes w' u (d.read x).1 w.heap.size∧Upd (fun _=>False) w w':=by
 obtain⟨q,durs,cv,cachs,armed,left,h⟩:=h;obtain⟨a,cc,hcv⟩:=bY h.own;refine aB (args:=[.pointer (some ⟨p,0,none⟩),.int .i64 x]) rs54 Tryz.func54 rfl mixed (by kernel_rfl) P5 rfl ?_;have hb:=h.head;rw[hcv] at hb;have hdl:d.dur.length=durs.length:=by rw[h.dur,List.length_map]
 have hcl:d.cache.length=cachs.length:=by rw[h.cache,List.length_map]
 simp(disch:=omega)only[push_cast,seval,hb.cell];refine Ok.use (qE (hb.cell 1)) ?_;rintro v w' ⟨rfl,rfl⟩;by_cases hx:0≤x∧x<durs.length
 ·rw[show decide (0≤x∧x<(durs.length:Int))=true from by simp[hx]];cases hoff:d.off
  ·rw[hoff] at hb;simp(disch:=omega)only[push_cast,seval,hb.cell];have hread:d.read x=(some (d.content x.toNat),0):=by simp[DS.read,hx,hoff,hdl]
   rw[hread];refine aG (I:=fun k st w'=>Bx (w=w'∧k≤cachs.length∧st = [.int .i64 ((k:Int)-1)]∧∀y∈cachs.drop k,(y.1:Int)≠x) ⟨⟩) ?_ cachs.length ⟨rfl,Nat.le_refl _,rfl,by simp⟩;rintro k st w' ⟨rfl,hk,rfl,hrest⟩;by_cases hk0:k=0
   ·subst hk0;obtain⟨y,hy⟩ : ∃y,durs[x.toNat]? =some y:=⟨durs[x.toNat],by simp⟩;have hym:=List.mem_of_getElem? hy;have hq:w.cell? ⟨q,x.toNat,none⟩=some (.slice (some ⟨y.1,0,none⟩) d.size y.2.length):=by rw[h.row.cell,List.getElem?_map,hy,←(h.durc y hym).2.1]; rfl
    simp(disch:=omega)only[push_cast,seval,hb.cell,hq];refine Ok.use (lC (hb.cell 0) (h.durc y hym).2.1 hz h.small.1 (Lies.of_blk (h.durc y hym).1)) ?_;rintro v w' ⟨rfl,h1,h2⟩;simp(disch:=omega)only[push_cast,seval];have hcon:d.content x.toNat=y.2:=by
     unfold DS.content lastOf;rw[h.cache,h.dur,List.find?_eq_none.2 ?_]
     ·simp[List.getD_eq_getElem?_getD,hy]
     ·intro z hz hzx;rw[List.mem_reverse,List.mem_map] at hz;obtain⟨u,hu,rfl⟩:=hz;have:=hrest u (by simpa using hu);simp at hzx;omega
    exact⟨_,rfl,⟨_,by rw[hcon],Nat.le_refl _,by rw[hcon]; exact h1⟩,h2⟩
   ·obtain⟨j,rfl⟩:=Nat.exists_eq_succ_of_ne_zero hk0;rw[show((j.succ:Nat):Int)-1=(j:Int) from by omega];obtain⟨y,hy⟩ : ∃y,cachs[j]? =some y:=⟨cachs[j],by simp⟩;have hym:=List.mem_of_getElem? hy;obtain⟨g,cap,hv,_,hcell⟩:=pI (f:=cacheRow) (fun _=>rfl) h.own hy;have hc0:=hcell 0 (by omega);have hc1:=hcell 1 (by omega);simp only[cacheRow,List.getElem?_cons_zero,List.getElem?_cons_succ,CV,(h.cachc y hym).2.1,Nat.add_zero] at hc0 hc1;rw[hcv] at hv;injection hv with e1 e2 e3;subst e1;by_cases hyx:(y.1:Int)=x
    ·simp(disch:=omega)only[push_cast,seval,hb.cell,hc0,hc1];refine Ok.use (lC (hb.cell 0) (h.cachc y hym).2.1 hz h.small.1 (Lies.of_blk (h.cachc y hym).1)) ?_;rintro v w' ⟨rfl,h1,h2⟩;simp(disch:=omega)only[push_cast,seval];have hcon:d.content x.toNat=y.2.2:=by
      have hsplit:cachs=cachs.take j ++ y :: cachs.drop (j+1):=by
       rw[←List.getElem?_eq_some_iff.1 hy |>.2,←List.drop_eq_getElem_cons (by omega),List.take_append_drop]
      unfold DS.content lastOf;rw[h.cache,hsplit,List.map_append,List.map_cons,List.reverse_append,List.reverse_cons,List.append_assoc,List.find?_append,List.find?_eq_none.2 ?_]
      ·have:(y.1 == x.toNat)=true:=by simp; omega
       simp[this]
      ·intro z hz hzx;rw[List.mem_reverse,List.mem_map] at hz;obtain⟨u,hu,rfl⟩:=hz;have:=hrest u hu;simp at hzx;omega
     exact⟨_,rfl,⟨_,by rw[hcon],Nat.le_refl _,by rw[hcon]; exact h1⟩,h2⟩
    ·simp(disch:=omega)only[push_cast,seval,hb.cell,hc0,hc1];refine⟨j,by omega,rfl,by omega,rfl,?_⟩;intro z hz;rw[List.drop_eq_getElem_cons (by omega)] at hz;cases hz with
     | head=>rw[List.getElem?_eq_some_iff.1 hy |>.2]; exact hyx
     | tail _ hm=>exact hrest z hm
  ·rw[hoff] at hb;simp(disch:=omega)only[push_cast,seval,hb.cell];refine⟨.slice none 0 0,?_,?_,Upd.refl⟩ <;> simp[DS.read,hx,hoff,hdl,IsRes]
 ·rw[show decide (0≤x∧x<(durs.length:Int))=false from by simp[hx]];simp(disch:=omega)only[push_cast,seval,hb.cell];refine⟨.slice none 0 0,?_,?_,Upd.refl⟩ <;> simp[DS.read,hx,hdl,IsRes]
open Go
set_option maxRecDepth 100000
theorem UB (x:Int)(a:Option Addr)(n c:Nat)(w:World):bldS Tryz.prog 156 #[(0,.int .i64 x),(1,.slice a n c)] w=some (.agg #[.int .i64 x,.slice a n c],w):=by kernel_rfl
theorem UC (x:Int)(a:Option Addr)(n c:Nat)(w:World):bslS Tryz.prog 95 1 #[(0,.agg #[.int .i64 x,.slice a n c])] w =
 some (.slice (some ⟨w.heap.size,0,none⟩) 1 1,w.alloc (.cells [.int .i64 x,.slice a n c].toArray 156 (0,0))):=by kernel_rfl
attribute [push_cast] UB UC
def DS.write (d:DS)(x:Int)(l:List Int):DS×Int:=
 if 0≤x∧x<d.dur.length∧l.length=d.size then
  (if d.step.1 then ({d.step.2 with cache:=d.step.2.cache ++ [(x.toNat,l)]},0) else (d.step.2,8))
 else (d,1)
theorem qG {w:World}{F:Nat→Prop}{p:Nat}{d:DS}(h:IsDisk w F p d)(hz:0<d.size)(hc:d.cache.length<1000000000)(hk : ∀k,d.cnt=some k→k<9223372036854775808)(x:Int){v:Value}{l:List Int}(hv:SlB w F v l) :
 Ok (den Tryz.prog 163 #[.pointer (some ⟨p,0,none⟩),.int .i64 x,v] w) fun u w'=>u = .int .i64 (d.write x l).2∧IsDisk w' (gr F w w') p (d.write x l).1∧Upd F w w':=by
 have h':=h;obtain⟨q,durs,cv,cachs,armed,left,h⟩:=h;obtain⟨a,cc,rfl,hl⟩:=hv;refine aB (args:=[.pointer (some ⟨p,0,none⟩),.int .i64 x,.slice a l.length cc]) rs163 Tryz.func163 rfl mixed (by kernel_rfl) S7 rfl ?_;have hb:=h.head;have hdl:d.dur.length=durs.length:=by rw[h.dur,List.length_map]
 simp(disch:=omega)only[push_cast,seval];refine Ok.use (qE (hb.cell 1)) ?_;rintro v w' ⟨rfl,rfl⟩;by_cases hx:0≤x∧x<durs.length
 ·rw[show decide (0≤x∧x<(durs.length:Int))=true from by simp[hx]];by_cases hlen:l.length=d.size
  ·have hlen':(l.length:Int)=(d.size:Int):=by omega
   have hlb : ∃b o,a=some ⟨b,o,none⟩∧Lies w b o l∧¬F b:=hl (by intro e; rw[e] at hlen; simp at hlen; omega);obtain⟨b,o,rfl,hlies,hFb⟩:=hlb;have hblt:=hlies.lt (by omega);simp(disch:=omega)only[push_cast,seval,hb.cell];refine Ok.use (qF h' hk) ?_;rintro v w1 ⟨rfl,hd1,hu1⟩;have hsz : ∀d':DS,d'.step.2.size=d'.size∧d'.step.2.dur=d'.dur∧d'.step.2.cache=d'.cache:=by
    intro d';unfold DS.step;split
    ·exact⟨rfl,rfl,rfl⟩
    ·split <;> exact⟨rfl,rfl,rfl⟩
   have hwr:d.write x l=if d.step.1 then ({d.step.2 with cache:=d.step.2.cache ++ [(x.toNat,l)]},0) else (d.step.2,8):=by
    rw[DS.write,if_pos ⟨hx.1,by rw[hdl]; exact hx.2,hlen⟩]
   rw[hwr];obtain⟨e1,e2,e3⟩:=hsz d;generalize d.step.2=d1 at *;cases d.step.1
   ·simp(disch:=omega)only[push_cast,seval];exact⟨hd1.gr,hu1⟩
   ·obtain⟨q1,durs1,cv1,cachs1,armed1,left1,h1⟩:=hd1;have hb1:=h1.head;have hl1:Lies w1 b o l:=hlies.upd hu1 hblt hFb;have hdl1:d1.dur.length=durs1.length:=by rw[h1.dur,List.length_map]
    have hcl1:cachs1.length<1000000000:=by
     have:d1.cache.length=cachs1.length:=by rw[h1.cache,List.length_map]
     rw[e3] at this;omega
    simp(disch:=omega)only[push_cast,seval,hb1.cell];have hcl:=lC (w:=w1.drew) (p:=p) (size:=d1.size) (c:=cc) (l:=l) (b:=b) (o:=o) (hb1.drew.cell 0) (by omega) (by omega) (by have:=h1.small; omega) hl1;rw[e1,←hlen] at hcl;refine Ok.use hcl ?_;rintro v w2 ⟨rfl,hnew,hu2⟩;have hu12:Upd (fun _=>False) w1 w2:=Upd.drew.trans hu2 (fun _ _ h=>h);have hd2:=h1.upd hu12 (fun _ _ h=>h);have hb2:=hd2.head;have hn2:Blk w2 w1.heap.size (by8 l) 5:=hnew;have hs12:w1.heap.size<w2.heap.size:=hn2.lt;obtain⟨a1,c1,hcv1⟩:=bY hd2.own;have hown2:=hd2.own;have hcvc:=hd2.cvc;rw[hcv1] at hb2 hown2 hcvc;have hp2:=hb2.lt;simp(disch:=omega)only[push_cast,seval,hb2.cell,hb2.free,CV,h1.head.drew.cell,hcv1];have hb3:=hb2.alloc (.cells [Value.int .i64 x,.slice (some ⟨w1.heap.size,0,none⟩) l.length l.length].toArray 156 (0,0));have hnw:=Blk.new (w:=w2) (cs:=[Value.int .i64 x,.slice (some ⟨w1.heap.size,0,none⟩) l.length l.length]) (E:=156);refine E4 (s:=2) (by_:=32) (n:=cachs1.length) (m:=1) (news:=[Value.int .i64 x,.slice (some ⟨w1.heap.size,0,none⟩) l.length l.length]) pN pO pP pQ rfl (by omega) (hown2.alloc _) rfl ?_ ?_ (by omega) (by unfold maxLen; omega) ?_
    ·intro j hj;rw[Nat.zero_add,hnw.cell]
    ·intro u hu;simp at hu;rcases hu with rfl | rfl <;> rfl
    intro v' w4 hown4 hg4 hfr;obtain⟨a4,c4,rfl⟩:=bY hown4;have hu34:=Upd.grown (F:=fun b=>(Value.slice a1 cachs1.length c1).ownBlock=some b) hg4 (fun k hk=>hk);have hb4:=hb3.upd hu34 (fun e=>(hcvc p e).2.1 rfl);simp(disch:=omega)only[push_cast,seval,hb3.cell,hb4.cell,hb4.free];have hu24:Upd (fun b=>(Value.slice a1 cachs1.length c1).ownBlock=some b) w2 w4:=Upd.alloc.trans hu34 (fun _ _ h=>h);have hu45:Upd (fun b=>b=p) w4 (w4.setCell ⟨p,2,none⟩ (.slice a4 (cachs1.length+1) c4)):=Upd.set rfl;have hb5:=hb4.set 2 (.slice a4 (cachs1.length+1) c4);have hu25:Upd (fun b=>b=p∨(Value.slice a1 cachs1.length c1).ownBlock=some b) w2 (w4.setCell ⟨p,2,none⟩ (.slice a4 (cachs1.length+1) c4)):=
     (hu24.mono (fun _ _ h=>.inr h)).trans hu45 (fun _ _ h=>.inl h)
    have hs15:w1.heap.size<(w4.setCell ⟨p,2,none⟩ (.slice a4 (cachs1.length+1) c4)).heap.size:=Nat.lt_of_lt_of_le hs12 hu25.size;have hs34:w2.heap.size<w4.heap.size:=Nat.lt_of_lt_of_le (by rw[aI]; omega) hu34.size;have hs45:(w4.setCell ⟨p,2,none⟩ (.slice a4 (cachs1.length+1) c4)).heap.size=w4.heap.size:=bA;have hw1:w.heap.size≤w1.heap.size:=hu1.size;have hblk : ∀g,(Value.slice a4 (cachs1.length+1) c4).ownBlock=some g→(F g∧g≠p∧g≠q1∧(Value.slice a1 cachs1.length c1).ownBlock=some g)∨(w2.heap.size≤g∧g<w4.heap.size):=by
     intro g hg;rcases hfr with h | ⟨g',h,hge⟩
     ·rw[h] at hg;exact .inl ⟨(hcvc g hg).1,(hcvc g hg).2.1,(hcvc g hg).2.2,hg⟩
     ·rw[h] at hg;injection hg with hg;subst hg;rw[aI] at hge;exact .inr ⟨by omega,(hown4.lt _ h).2⟩
    have hpF:=h1.fp;have hqF:=h1.fq;have hpl:=h1.bd p hpF;have hql:=h1.bd q1 hqF;have hold : ∀b,F b→b<w2.heap.size:=fun b hb=>Nat.lt_of_lt_of_le (h1.bd b hb) (Nat.le_of_lt hs12);have hown5:=cO hown4 hu45 (fun g hg e=>by
     subst e;rcases hblk _ hg with h | h
     ·exact h.2.1 rfl
     ·omega)
    have hkeep : ∀b,F b→b≠p→(Value.slice a1 cachs1.length c1).ownBlock≠some b→∀{cs E},Blk w2 b cs E→Blk (w4.setCell ⟨p,2,none⟩ (.slice a4 (cachs1.length+1) c4)) b cs E:=
     fun b _ h1 h2 {cs E} hb=>hb.upd hu25 (fun h=>h.elim h1 h2)
    have hdc:=hd2.durc;have hcc:=hd2.cachc;rw[hcv1] at hdc hcc;have hne : ∀b,F b→(Value.slice a1 cachs1.length c1).ownBlock≠some b→(Value.slice a4 (cachs1.length+1) c4).ownBlock≠some b:=by
     intro b hb hn hg;rcases hblk _ hg with h | h
     ·exact hn h.2.2.2
     ·have:=hold b hb; omega
    refine⟨⟨q1,durs1,.slice a4 (cachs1.length+1) c4,cachs1 ++ [(x.toNat,w1.heap.size,l)],armed1,left1,?_,?_,?_,h1.dur,?_,?_,?_,?_,.inl hpF,.inl hqF,h1.pq,h1.arm,h1.small,?_⟩,?_⟩
    ·simpa using hb5
    ·exact hkeep q1 hqF h1.pq.symm (fun e=>(hcvc _ e).2.2 rfl) hd2.row
    ·have e5:(cachs1 ++ [(x.toNat,w1.heap.size,l)]).flatMap cacheRow=cachs1.flatMap cacheRow ++ [.int .i64 x,.slice (some ⟨w1.heap.size,0,none⟩) l.length l.length]:=by
      simp[cacheRow,CV,Int.toNat_of_nonneg hx.1]
     rw[e5,List.length_append];exact hown5
    ·rw[List.map_append];show d1.cache ++ _=_;rw[h1.cache];rfl
    ·intro y hy;obtain⟨y1,y2,y3,y4,y5,y6⟩:=hdc y hy;exact⟨hkeep _ y3 y4 y6 y1,y2,.inl y3,y4,y5,hne _ y3 y6⟩
    ·intro y hy;rcases List.mem_append.1 hy with hy | hy
     ·obtain⟨y1,y2,y2',y3,y4,y5,y6⟩:=hcc y hy;exact⟨hkeep _ y3 y4 y6 y1,y2,y2',.inl y3,y4,y5,hne _ y3 y6⟩
     ·simp only[List.mem_singleton] at hy;subst hy;have hdd:durs1.length=durs.length:=by rw[←hdl1,e2,hdl]
      show Blk _ w1.heap.size _ _∧l.length=d1.size∧x.toNat<durs1.length∧gr F w _ w1.heap.size∧w1.heap.size≠p∧w1.heap.size≠q1∧Value.ownBlock _≠some w1.heap.size;refine⟨hn2.upd hu25 ?_,by omega,by omega,.inr ⟨hw1,hs15⟩,by omega,by omega,?_⟩
      ·rintro(h | h)
       ·omega
       ·have:=h1.bd _ (hcvc _ h).1; omega
      ·intro hg;rcases hblk _ hg with h | h
       ·have:=h1.bd _ h.1; omega
       ·omega
    ·intro g hg;rcases hblk _ hg with h | h
     ·exact⟨.inl h.1,h.2.1,h.2.2.1⟩
     ·exact⟨.inr ⟨by omega,by rw[hs45]; exact h.2⟩,by omega,by omega⟩
    ·intro b hb;rcases hb with h | h
     ·have:=hold b h; rw[hs45]; omega
     ·exact h.2
    ·refine hu1.trans ((hu12.mono (fun _ _ h=>h.elim)).trans (F:=F) hu25 ?_) (fun _ _ h=>h);intro b _ h;rcases h with rfl | h
     ·exact hpF
     ·exact(hcvc b h).1
  ·have hlen' : ¬(l.length:Int)=(d.size:Int):=by omega
   simp(disch:=omega)only[push_cast,seval,hb.cell];have e:d.write x l=(d,1):=by rw[DS.write,if_neg]; exact fun hh=>hlen hh.2.2
   rw[e];exact⟨rfl,h'.gr,Upd.refl⟩
 ·rw[show decide (0≤x∧x<(durs.length:Int))=false from by simp[hx]];simp(disch:=omega)only[push_cast,seval,hb.cell];have e:d.write x l=(d,1):=by rw[DS.write,if_neg]; rw[hdl]; exact fun hh=>hx ⟨hh.1,hh.2.1⟩
  rw[e];exact⟨rfl,h'.gr,Upd.refl⟩
open Go Go.MapKept Go.ChangeMaps
def entF (i:Nat):List (Int×Value)→List MapEntry
 | []=>[]
 | (k,v) :: r=>⟨.int .i64 k,v,i⟩ :: entF (i+1) r
def MapI (w:World)(r:Nat)(m:List (Int×Value)):Prop:=w.heap[r]? =some (.map (entF 0 m).toArray m.length)
def putM (k:Int)(v:Value):List (Int×Value)→List (Int×Value)
 | []=>[(k,v)]
 | (k',v') :: r=>if k=k' then (k',v) :: r else (k',v') :: putM k v r
def fidx (k:Int):List (Int×Value)→Option (Nat×Value)
 | []=>none
 | (k',v') :: r=>if k=k' then some (0,v') else (fidx k r).map fun x=>(x.1+1,x.2)
theorem UD {m:List (Int×Value)} : ∀{i:Nat},(entF i m).length=m.length:=by
 induction m with
 | nil=>intro i; rfl
 | cons x r ih=>intro i; obtain⟨k,v⟩:=x; simp[entF,ih]
theorem UE {q:IntKind}{k:Int} : ∀{m:List (Int×Value)} {i j:Nat},Instr.findNow (.int q) (.int .i64 k) (entF i m) j=some ((fidx k m).map fun x=>(j+x.1,x.2)):=by
 intro m;induction m with
 | nil=>intro i j; rfl
 | cons x r ih=>
  intro i j;obtain⟨k',v'⟩:=x;simp only[entF,Instr.findNow,Instr.sameNow,if_true,fidx];by_cases h:k=k'
  ·simp[h]
  ·have:(k == k')=false:=by simp[h]
   rw[this];simp only[ih,h,if_false,Option.map_map];congr 2;funext x;simp;omega
theorem UF {k:Int}{v:Value} : ∀{m:List (Int×Value)} {i:Nat},fidx k m=none→entF i (putM k v m)=entF i m ++ [⟨.int .i64 k,v,i+m.length⟩]∧(putM k v m).length=m.length+1:=by
 intro m;induction m with
 | nil=>intro i _; simp[putM,entF]
 | cons x r ih=>
  intro i h;obtain⟨k',v'⟩:=x;simp only[fidx] at h;by_cases hk:k=k'
  ·simp[hk] at h
  ·rw[if_neg hk,Option.map_eq_none_iff] at h;obtain⟨h1,h2⟩:=ih (i:=i+1) h;simp only[putM,hk,if_false,entF,h1,List.length_cons,h2];refine⟨?_,trivial⟩;rw[List.cons_append,show i+1+r.length=i+(r.length+1) from by omega]
theorem UG {k:Int}{v u:Value} : ∀{m:List (Int×Value)} {i j:Nat},fidx k m=some (j,u)→
 entF i (putM k v m)=(entF i m).modify j (fun e=>{e with key:=.int .i64 k,val:=v})∧(putM k v m).length=m.length∧((entF i m)[j]?).map (·.key)=some (.int .i64 k):=by
 intro m;induction m with
 | nil=>intro i j h; cases h
 | cons x r ih=>
  intro i j h;obtain⟨k',v'⟩:=x;simp only[fidx] at h;by_cases hk:k=k'
  ·subst hk;simp at h;obtain⟨rfl,rfl⟩:=h;simp[putM,entF]
  ·rw[if_neg hk,Option.map_eq_some_iff] at h;obtain⟨⟨j',u'⟩,h1,h2⟩:=h;simp only[Prod.mk.injEq] at h2;obtain⟨rfl,rfl⟩:=h2;obtain⟨h3,h4,h5⟩:=ih (i:=i+1) h1;refine⟨?_,?_,?_⟩
   ·simp[putM,hk,entF,h3,List.modify]
   ·simp[putM,hk,h4]
   ·simpa[entF] using h5
def mapT (P:Program)(t:TypeId):Option TypeId:=
 match P.underlying t with
 | some (.map k e)=>match P.underlying k with
  | some (.int .i64)=>some e
  | _=>none
 | _=>none
section
variable {P : Program} {D : Den} {w : World} {ty : TypeId} {e : Operand → Value} {t : TypeId}
def mkmS (P:Program)(t:TypeId)(w:World):Option (Value×World):=lift ((Instr.makeMap t none).run P w)
theorem UH:opX P D (.makeMap t none) ty e w=mkmS P t w:=by
 simp only[opX,opS,execOp,mkmS,lift,Option.map_none];generalize Instr.makeMap t none=s;simp;cases s.run P w <;> simp
theorem UI:mkmS P t w=some (.map (some w.heap.size),w.alloc (.map #[] 0)):=by
 simp[mkmS,lift,Instr.makeMap]
def mupS (P:Program)(t:TypeId)(m k v:Value)(w:World):Option (Value×World):=
 match (Instr.mapUpdate t m k v).run P w with
 | .ok _ w'=>some (undef,w')
 | _=>none
theorem UJ {m k v:Operand}:opX P D (.mapUpdate t m k v) ty e w=mupS P t (e m) (e k) (e v) w:=by
 simp only[opX,opS,execOp,mupS];generalize Instr.mapUpdate t (e m) (e k) (e v)=s;simp;cases s.run P w <;> simp
theorem UK {r:Nat}{m:List (Int×Value)}{q:TypeId}(ht:mapT P t=some q)(hm:MapI w r m){k:Int}{v:Value} :
 mupS P t (.map (some r)) (.int .i64 k) v w=some (undef,setBlock w r (.map (entF 0 (putM k v m)).toArray (putM k v m).length)):=by
 unfold mapT at ht;split at ht
 ·rename_i kt et hu;split at ht
  ·rename_i hk;unfold MapI at hm;have hck:(Instr.checkKey false 10000 kt (.int .i64 k)).run P w = .ok () w:=run_checkKey (n:=9999) hk (by simp[IsKey]) false;have hfn:=run_findKey (w:=w) hk (UE (q:=.i64) (k:=k) (m:=m) (i:=0) (j:=0));cases hf:fidx k m with
   | none=>
    obtain⟨h1,h2⟩:=UF (v:=v) (i:=0) hf;rw[hf] at hfn;simp only[Option.map_none] at hfn;have hs:=run_setObj_map (P:=P) (.map ((entF 0 m).toArray.push {key:=.int .i64 k,val:=v,born:=m.length}) (m.length+1)) hm;simp only[mupS,Instr.mapUpdate,Sem.run_bind,underlying,run_program,Result.andThen_ok,hu,Sem.run_pure,MapKept.run_getObj_map hm,hck,hfn,hs];rw[h1,h2];simp[setBlock]
   | some x=>
    obtain⟨j,u⟩:=x;obtain⟨h1,h2,h3⟩:=UG (v:=v) (i:=0) hf;rw[hf] at hfn;simp only[Option.map_some,Nat.zero_add] at hfn;have hs:=run_setObj_map (P:=P) (.map ((entF 0 m).toArray.modify j fun e=>{e with key:=.int .i64 k,val:=v}) m.length) hm;have hkey:(((entF 0 m).toArray[j]?).map (·.key)).getD (.int .i64 k) = .int .i64 k:=by
     rw[List.getElem?_toArray,h3]; rfl
    have hst:(Instr.keyThatStays (.int .i64 k) (.int .i64 k)).run P w = .ok (.int .i64 k) w:=by
     simp[Instr.keyThatStays,Instr.sameBits]
    simp only[mupS,Instr.mapUpdate,Sem.run_bind,underlying,run_program,Result.andThen_ok,hu,Sem.run_pure,MapKept.run_getObj_map hm,hck,hfn,hkey,hst,hs];rw[h1,h2];simp[setBlock]
  ·cases ht
 ·cases ht
theorem lF : ∀{m:List (Int×Value)} {i j:Nat} {k:Int} {v:Value},m[j]? =some (k,v)→(entF i m)[j]? =some ⟨.int .i64 k,v,i+j⟩:=by
 intro m;induction m with
 | nil=>intro i j k v h; simp at h
 | cons x r ih=>
  intro i j k v h;obtain⟨k',v'⟩:=x;cases j with
  | zero=>simp at h; obtain⟨rfl,rfl⟩:=h; rfl
  | succ j=>
   have:=ih (i:=i+1) (j:=j) (by simpa using h);simp only[entF,List.getElem?_cons_succ,this];rw[show i+1+j=i+(j+1) from by omega]
theorem qH {m:List (Int×Value)}{x:MapEntry}{i:Nat}(h:x∈entF i m) : ∃j k v,m[j]? =some (k,v)∧x=⟨.int .i64 k,v,i+j⟩:=by
 obtain⟨j,hj,rfl⟩:=List.mem_iff_getElem.1 h;have hlt:j<m.length:=by rw[UD] at hj; exact hj
 have e:m[j]? =some (m[j].1,m[j].2):=by rw[List.getElem?_eq_getElem hlt]
 have:=lF (i:=i) e;rw[List.getElem?_eq_getElem hj] at this;exact⟨j,_,_,e,Option.some.inj this⟩
theorem UL : ∀{m:List (Int×Value)} {i:Nat},(entF i m).map (·.born)=List.range' i m.length:=by
 intro m;induction m with
 | nil=>intro i; rfl
 | cons x r ih=>intro i; obtain⟨k,v⟩:=x; simp[entF,ih,List.range'_succ]
def IterI (w:World)(it r:Nat)(m:List (Int×Value))(seen:Array Nat):Prop:=w.heap[it]? =some (.mapIter (some r) m.length seen m.length)
def rngS (P:Program)(t:TypeId)(x:Value)(w:World):Option (Value×World):=lift ((Instr.range t x).run P w)
theorem UM {x:Operand}:opX P D (.range t x) ty e w=rngS P t (e x) w:=by
 simp only[opX,opS,execOp,rngS,lift];generalize Instr.range t (e x)=s;simp;cases s.run P w <;> simp
theorem UN {r:Nat}{m:List (Int×Value)}{q:TypeId}(ht:mapT P t=some q)(hm:MapI w r m) :
 rngS P t (.map (some r)) w=some (.pointer (some ⟨w.heap.size,0,none⟩),w.alloc (.mapIter (some r) m.length #[] m.length)):=by
 unfold mapT at ht;split at ht
 ·rename_i kt et hu;simp only[rngS,lift,Instr.range,Sem.run_bind,underlying,run_program,Result.andThen_ok,hu,Sem.run_pure,MapKept.run_getObj_map hm,run_newObj];rfl
 ·cases ht
def nxtS (P:Program)(ty:TypeId)(x:Value)(w:World):Option (Value×World):=lift ((Instr.next x false ty).run P w)
theorem UO {x:Operand}:opX P D (.next x false) ty e w=nxtS P ty (e x) w:=by
 simp only[opX,opS,execOp,nxtS,lift];generalize Instr.next (e x) false ty=s
 simp;cases s.run P w <;> simp
theorem UP {it r:Nat}{m:List (Int×Value)}{seen:Array Nat}(hi:IterI w it r m seen)(hm:MapI w r m){K:Value×World→Prop}
 (h0:(∀j,j<m.length→j∈seen)→K (.tuple #[.bool false],w))
 (h1 : ∀j k v w1,m[j]? =some (k,v)→j∉seen→(w1=w∨w1=w.drew)→K (.tuple #[.bool true,.int .i64 k,v],setBlock w1 it (.mapIter (some r) m.length (seen.push j) m.length))) :
 Okk (nxtS P ty (.pointer (some ⟨it,0,none⟩)) w) K:=by
 have hold : ∀x∈(entF 0 m).toArray.toList,x.born<m.length:=by
  intro x hx;obtain⟨j,k,v,h1,rfl⟩:=qH (by simpa using hx);have:=(List.getElem?_eq_some_iff.1 h1).1;simp;omega
 rcases run_next_at (P:=P) w ty it r m.length m.length seen _ m.length hi hm hold (Nat.le_refl _) with ⟨hz,hr⟩ | ⟨x,hx,w1,hw,hr⟩
 ·refine⟨(.tuple #[.bool false],w),by unfold nxtS lift; rw[hr],h0 fun j hj=>?_⟩;have e:m[j]? =some (m[j].1,m[j].2):=by simp[hj]
  have hmem:=List.mem_of_getElem? (lF (i:=0) e);have:leftOf (entF 0 m).toArray seen = #[]:=Array.eq_empty_of_size_eq_zero hz;unfold leftOf at this;rw[Array.filter_eq_empty_iff] at this;have:=this _ (by simpa using hmem);simpa using this
 ·have hx':x∈(entF 0 m)∧x.born∉seen:=by
   unfold leftOf at hx;simpa using hx
  obtain⟨j,k,v,e1,rfl⟩:=qH hx'.1;refine⟨_,by unfold nxtS lift; rw[hr],?_⟩;have:=h1 j k v w1 e1 (by simpa using hx'.2) hw;simpa using this
def entS (P:Program)(x:Value)(w:World):Option (Value×World):=lift ((Instr.entry x).run P w)
theorem UQ {x:Operand}:opX P D (.entry x) ty e w=entS P (e x) w:=by
 simp only[opX,opS,execOp,entS,lift];generalize Instr.entry (e x)=s;simp;cases s.run P w <;> simp
theorem UR {it r j:Nat}{k:Int}{v:Value}{m:List (Int×Value)}{seen:Array Nat}(hi:IterI w it r m (seen.push j))(hm:MapI w r m)(hj:m[j]? =some (k,v)) :
 entS P (.pointer (some ⟨it,0,none⟩)) w=some (.tuple #[.int .i64 k,v],w):=by
 have hmem:=List.mem_of_getElem? (lF (i:=0) hj);have:=run_entry_at (P:=P) w it r m.length seen _ m.length ⟨.int .i64 k,v,0+j⟩ (by simpa[IterI] using hi) hm (by simpa using hmem) (by simp[UL,List.nodup_range']);unfold entS lift;rw[this]
theorem MapI.lt {r:Nat}{m:List (Int×Value)}(h:MapI w r m):r<w.heap.size:=by
 unfold MapI at h; rw[Array.getElem?_eq_some_iff] at h; exact h.1
theorem MapI.upd {w':World}{r:Nat}{m:List (Int×Value)}{F:Nat→Prop}(h:MapI w r m)(hu:Upd F w w')(hF : ¬F r):MapI w' r m:=by
 have hlt:r<w.heap.size:=by unfold MapI at h; rw[Array.getElem?_eq_some_iff] at h; exact h.1
 unfold MapI at h ⊢;rw[hu.block r hlt hF,h]
theorem IterI.upd {w':World}{it r:Nat}{m:List (Int×Value)}{seen:Array Nat}{F:Nat→Prop}(h:IterI w it r m seen)(hu:Upd F w w')(hF : ¬F it):IterI w' it r m seen:=by
 have hlt:it<w.heap.size:=by unfold IterI at h; rw[Array.getElem?_eq_some_iff] at h; exact h.1
 unfold IterI at h ⊢;rw[hu.block it hlt hF,h]
theorem Upd.setBlock {F:Nat→Prop}{b:Nat}{o:Obj}(h:F b):Upd F w (setBlock w b o):=
 ⟨rfl,rfl,rfl,by simp[ChangeMaps.setBlock],fun k _ hF=>by
  simp only[ChangeMaps.setBlock];rw[Array.getElem?_setIfInBounds_ne (fun e=>hF (by rw[←e]; exact h))],Nat.le_refl _⟩
theorem qI {b:Nat}{o:Obj}(h:b<w.heap.size):(ChangeMaps.setBlock w b o).heap[b]? =some o:=by
 simp[ChangeMaps.setBlock,h]
end
attribute [push_cast] UH UI UJ UM UO UQ
open Go Go.ChangeMaps
set_option maxRecDepth 100000
theorem qJ:mapT Tryz.prog 161=some 55:=by kernel_rfl
def settled (ch:Nat→Bool)(c:List (Nat×List Int))(dur:List (List Int)):Nat→List (List Int)
 | 0=>dur
 | i+1=>match c[i]? with
  | some x=>if ch i then (settled ch c dur i).set x.1 x.2 else settled ch c dur i
  | none=>settled ch c dur i
theorem dG {ch:Nat→Bool}{c:List (Nat×List Int)}{dur:List (List Int)} : ∀{i:Nat},(settled ch c dur i).length=dur.length:=by
 intro i;induction i with
 | zero=>rfl
 | succ i ih=>
  simp only[settled];split
  ·split
   ·simp[ih]
   ·exact ih
  ·exact ih
def DS.settle (d:DS)(ch:Nat→Bool):DS:={d with dur:=settled ch d.cache d.dur d.cache.length,cache:=[]}
abbrev Wr:=Nat×Nat×List Int
def toM (x:Wr):Int×Value:=((x.1:Int),CV x.2.1 x.2.2)
def putG (s:Nat)(b:Nat×List Int):List Wr→List Wr
 | []=>[(s,b)]
 | x :: r=>if s=x.1 then (x.1,b) :: r else x :: putG s b r
theorem US {s:Nat}{b:Nat×List Int} : ∀{g:List Wr},putM (s:Int) (CV b.1 b.2) (g.map toM)=(putG s b g).map toM:=by
 intro g;induction g with
 | nil=>rfl
 | cons x r ih=>
  simp only[List.map_cons,toM,putM,putG];by_cases h:s=x.1
  ·simp[h,toM]
  ·have : ¬(s:Int)=(x.1:Int):=by omega
   simp[h,this,toM,ih]
def getG (s:Nat):List Wr→Option (Nat×List Int)
 | []=>none
 | x :: r=>if s=x.1 then some x.2 else getG s r
theorem UT {s s':Nat}{b:Nat×List Int} : ∀{g:List Wr},getG s' (putG s b g)=if s'=s then some b else getG s' g:=by
 intro g;induction g with
 | nil=>simp[putG,getG]
 | cons x r ih=>
  simp only[putG];by_cases h:s=x.1
  ·rw[if_pos h];simp only[getG];by_cases h2:s'=x.1 <;> simp[h,h2]
  ·rw[if_neg h];simp only[getG,ih];by_cases h2:s'=x.1
   ·have : ¬s'=s:=by omega
    simp[h2,this];omega
   ·simp[h2]
theorem qK {s:Nat}{b:Nat×List Int} : ∀{g:List Wr} {y:Wr},y∈putG s b g→y=(s,b)∨y∈g:=by
 intro g;induction g with
 | nil=>intro y h; simp[putG] at h; exact .inl h
 | cons x r ih=>
  intro y h;simp only[putG] at h;by_cases hs:s=x.1
  ·rw[if_pos hs] at h;cases h with
   | head=>exact .inl (by rw[hs])
   | tail _ hm=>exact .inr (List.mem_cons_of_mem _ hm)
  ·rw[if_neg hs] at h;cases h with
   | head=>exact .inr List.mem_cons_self
   | tail _ hm=>exact(ih hm).imp id (List.mem_cons_of_mem _)
theorem UU {s:Nat}{b:Nat×List Int} : ∀{g:List Wr},(g.map (·.1)).Nodup→((putG s b g).map (·.1)).Nodup:=by
 intro g;induction g with
 | nil=>intro _; simp[putG]
 | cons x r ih=>
  intro h;simp only[List.map_cons,List.nodup_cons] at h;simp only[putG];by_cases hs:s=x.1
  ·rw[if_pos hs];simp only[List.map_cons,List.nodup_cons];exact h
  ·rw[if_neg hs];simp only[List.map_cons,List.nodup_cons];refine⟨?_,ih h.2⟩;intro hm;obtain⟨y,hy,e⟩:=List.mem_map.1 hm;rcases qK hy with rfl | hy
   ·exact hs e
   ·exact h.1 (List.mem_map.2 ⟨y,hy,e⟩)
theorem UV {s:Nat} : ∀{g:List Wr} {j:Nat} {b:Nat×List Int},(g.map (·.1)).Nodup→g[j]? =some (s,b)→getG s g=some b:=by
 intro g;induction g with
 | nil=>intro j b _ h; simp at h
 | cons x r ih=>
  intro j b hn h;simp only[List.map_cons,List.nodup_cons] at hn;cases j with
  | zero=>simp at h; subst h; simp[getG]
  | succ j=>
   have h':r[j]? =some (s,b):=by simpa using h
   have:s≠x.1:=fun e=>hn.1 (List.mem_map.2 ⟨(s,b),List.mem_of_getElem? h',e⟩);simp[getG,this,ih hn.2 h']
theorem UW {s:Nat} : ∀{g:List Wr},(∀(j:Nat) (b:Nat×List Int),g[j]?≠some (s,b))→getG s g=none:=by
 intro g;induction g with
 | nil=>intro _; rfl
 | cons x r ih=>
  intro h;have h0:s≠x.1:=fun e=>h 0 x.2 (by simp[e]);simp only[getG,if_neg h0];exact ih fun j b hj=>h (j+1) b (by simpa using hj)
theorem qL {w:World}{F:Nat→Prop}{p:Nat}{d:DS}(h:IsDisk w F p d)(hc:d.cache.length<1000000000){g:FuncId}{cap:List Value}(hg:hasB Tryz.prog g=true){ch:Nat→Bool}
 (hch : ∀(i:Nat) (w':World),i<d.cache.length→Upd (fun _=>False) w w'→Ok (den Tryz.prog g (Value.int .i64 i :: cap).toArray w') fun v w''=>v = .bool (ch i)∧w'=w'') :
 Ok (den Tryz.prog 57 #[.pointer (some ⟨p,0,none⟩),.func (.func g) #[] cap.toArray] w) fun _ w'=>IsDisk w' (gr F w w') p (d.settle ch)∧Upd F w w':=by
 obtain⟨q,durs,cv,cachs,armed,left,h⟩:=h;obtain⟨a,cc,hcv⟩:=bY h.own;refine aB (args:=[.pointer (some ⟨p,0,none⟩),.func (.func g) #[] cap.toArray]) rs57 Tryz.func57 rfl mixed (by kernel_rfl) P8 rfl ?_;have hb:=h.head;rw[hcv] at hb;have hdl:d.dur.length=durs.length:=by rw[h.dur,List.length_map]
 have hcl:d.cache.length=cachs.length:=by rw[h.cache,List.length_map]
 have hpl:=hb.lt;have hu0:Upd (fun _=>False) w (w.alloc (.map #[] 0)):=Upd.alloc;have hb1:=hb.upd hu0 (fun h=>h);simp(disch:=omega)only[push_cast,seval,hb1.cell];refine aG (I:=fun k st w'=>Bx (∃i mg,k+i=cachs.length∧st = [.int .i64 (i:Int)]∧Upd (fun _=>False) w w'∧MapI w' w.heap.size (mg.map toM)∧(mg.map (·.1)).Nodup∧(∀y∈mg,y∈cachs)∧
  ∀s,s<durs.length→(settled ch d.cache d.dur i)[s]? =some (((getG s mg).map (·.2)).getD (d.dur.getD s []))) ⟨⟩) ?_ cachs.length ⟨0,[],rfl,rfl,hu0,?_,by simp,by simp,?_⟩
 ·rintro k st w' ⟨i,mg,hki,rfl,hu,hm,hnd,hmem,hset⟩;by_cases hk0:k=0
  ·obtain rfl:i=cachs.length:=by omega
   simp(disch:=omega)only[push_cast,seval,hb1.cell];rw[UN qJ hm];simp(disch:=omega)only[push_cast,seval];have hbw:=hb.upd hu (fun h=>h);have hrw:=h.row.upd hu (fun h=>h);have hsz:=hu.size;have hmb:=hm.lt;have hql:=h.row.lt;have hmq:w.heap.size≠q:=by omega
   refine aG (I:=fun k st w2=>Bx (∃seen rem dursT,rem.length=k∧st = []∧IterI w2 w'.heap.size w.heap.size (mg.map toM) seen∧MapI w2 w.heap.size (mg.map toM)∧Blk w2 q (dursT.map fun x=>CV x.1 x.2) 55∧Upd (fun b=>b=q) w w2∧
    (∀j,j<mg.length→j∈seen∨j∈rem)∧dursT.length=durs.length∧
    ∀s x,dursT[s]? =some x→(∃j,j∈seen∧mg[j]? =some (s,x))∨((∀j b,j∈seen→mg[j]?≠some (s,b))∧durs[s]? =some x)) ⟨⟩) ?_ mg.length
    ⟨#[],List.range mg.length,durs,by simp,rfl,?_,hm.upd (Upd.alloc (F:=fun _=>False)) (fun h=>h),hrw.alloc _,(hu.alloc').mono (fun _ _ h=>h.elim),by simp,rfl,?_⟩
   ·rintro k2 st w2 ⟨seen,rem,dursT,hrem,rfl,hit,hm2,hq2,hu2,hcov,hlen,hprop⟩;have hb2:=hb.upd hu2 h.pq;simp(disch:=omega)only[push_cast,seval];refine UP hit hm2 ?_ ?_
    ·intro hall;simp(disch:=omega)only[push_cast,seval,hb2.cell,hb2.free];have hu4:Upd (fun b=>b=p∨b=q) w (w2.setCell ⟨p,2,none⟩ (.slice none 0 0)):=(hu2.mono (fun _ _ h=>.inr h)).setIn (.inl rfl);have hmgl:(mg.map toM).length=mg.length:=List.length_map _;rw[hmgl] at hall;have hsrc : ∀(s:Nat) (x:Nat×List Int),dursT[s]? =some x→(∃y∈cachs,y.2=x)∨x∈durs:=by
      intro s x hs;rcases hprop s x hs with ⟨j,h1,h2⟩ | ⟨h1,h2⟩
      ·exact .inl ⟨(s,x),hmem _ (List.mem_of_getElem? h2),rfl⟩
      ·exact .inr (List.mem_of_getElem? h2)
     have hdc : ∀x∈dursT,Blk (w2.setCell ⟨p,2,none⟩ (.slice none 0 0)) x.1 (by8 x.2) 5∧x.2.length=d.size∧F x.1∧x.1≠p∧x.1≠q:=by
      intro x hx;obtain⟨s,hs,hsx⟩:=List.mem_iff_getElem.1 hx;rcases hsrc s x (by rw[List.getElem?_eq_getElem hs,hsx]) with ⟨y,hy,rfl⟩ | hxd
      ·obtain⟨h1,h2,_,h4,h5,h6,_⟩:=h.cachc y hy;exact⟨h1.upd hu4 (by rintro(h | h); exact h5 h; exact h6 h),h2,h4,h5,h6⟩
      ·obtain⟨h1,h2,h4,h5,h6,_⟩:=h.durc x hxd;exact⟨h1.upd hu4 (by rintro(h | h); exact h5 h; exact h6 h),h2,h4,h5,h6⟩
     refine⟨⟨q,dursT,.slice none 0 0,[],armed,left,?_,hq2.other _ h.pq,World.ownsRow_nil _ _ _ _,?_,rfl,?_,by simp,?_,.inl h.fp,.inl h.fq,h.pq,h.arm,⟨h.small.1,by rw[hlen]; exact h.small.2⟩,?_⟩,?_⟩
     ·have:=hb2.set 2 (.slice none 0 0);rw[hlen];exact this
     ·show settled ch d.cache d.dur d.cache.length=dursT.map (·.2);apply List.ext_getElem?;intro s;by_cases hs:s<durs.length
      ·rw[hcl,hset s hs,List.getElem?_map];obtain⟨x,hx⟩ : ∃x,dursT[s]? =some x:=⟨dursT[s],by simp⟩;rw[hx];rcases hprop s x hx with ⟨j,h1,h2⟩ | ⟨h1,h2⟩
       ·rw[UV hnd h2]; rfl
       ·rw[UW (fun j b hj=>h1 j b (hall j (List.getElem?_eq_some_iff.1 hj).1) hj),h.dur];simp[List.getD_eq_getElem?_getD,h2]
      ·rw[List.getElem?_eq_none (by rw[dG]; omega),List.getElem?_eq_none (by rw[List.length_map]; omega)]
     ·intro x hx;obtain⟨h1,h2,h3,h4,h5⟩:=hdc x hx;exact⟨h1,h2,.inl h3,h4,h5,by simp[Value.ownBlock]⟩
     ·intro g hg;simp[Value.ownBlock] at hg
     ·intro b hb;rcases hb with h' | h'
      ·exact Nat.lt_of_lt_of_le (h.bd b h') hu4.size
      ·exact h'.2
     ·exact hu4.mono fun b _ h'=>h'.elim (fun e=>e ▸ h.fp) (fun e=>e ▸ h.fq)
    ·intro j k v w1 hj hns hw1;rw[List.getElem?_map,Option.map_eq_some_iff] at hj;obtain⟨y,hy,hyk⟩:=hj;simp only[toM,Prod.mk.injEq] at hyk;obtain⟨rfl,rfl⟩:=hyk;have hym:=hmem y (List.mem_of_getElem? hy);have hys:=(h.cachc y hym).2.2.1;have hu21:Upd (fun _=>False) w2 w1:=by rcases hw1 with rfl | rfl <;> first | exact Upd.refl | exact Upd.drew
     have hitl:w'.heap.size<w2.heap.size:=by unfold IterI at hit; rw[Array.getElem?_eq_some_iff] at hit; exact hit.1
     have hu23:Upd (fun b=>b=w'.heap.size) w2 (setBlock w1 w'.heap.size (.mapIter (some w.heap.size) (mg.map toM).length (seen.push j) (mg.map toM).length)):=(hu21.mono (fun _ _ h=>h.elim)).trans (Upd.setBlock (F:=fun b=>b=w'.heap.size) rfl) (fun _ _ h=>h);have hit3:IterI (setBlock w1 w'.heap.size (.mapIter (some w.heap.size) (mg.map toM).length (seen.push j) (mg.map toM).length)) w'.heap.size w.heap.size (mg.map toM) (seen.push j):=qI (Nat.lt_of_lt_of_le hitl hu21.size);have hm3:=hm2.upd hu23 (by omega);have hq3:=hq2.upd hu23 (by omega);have hb3:=hb2.upd hu23 (by omega);generalize setBlock w1 w'.heap.size (.mapIter (some w.heap.size) (mg.map toM).length (seen.push j) (mg.map toM).length)=w3 at *;have hj':(mg.map toM)[j]? =some ((y.1:Int),.slice (some ⟨y.2.1,0,none⟩) y.2.2.length y.2.2.length):=by rw[List.getElem?_map,hy]; rfl
     simp(disch:=omega)only[push_cast,seval];rw[UR hit3 hm3 hj'];have hcq:w3.cell? ⟨q,y.1,none⟩=some ((dursT.map fun x=>CV x.1 x.2)[y.1]'(by simp; omega)):=by rw[hq3.cell,List.getElem?_eq_getElem]
     simp(disch:=omega)only[push_cast,seval,hb3.cell,hcq,hq3.free];have hu34:Upd (fun b=>b=q) w3 (w3.setCell ⟨q,y.1,none⟩ (.slice (some ⟨y.2.1,0,none⟩) y.2.2.length y.2.2.length)):=Upd.set rfl;have hjr:j∈rem:=(hcov j (List.getElem?_eq_some_iff.1 hy).1).resolve_left hns;refine⟨k2-1,?_,seen.push j,rem.erase j,dursT.set y.1 y.2,?_,rfl,hit3.upd hu34 (by omega),hm3.upd hu34 hmq,?_,?_,?_,by simpa using hlen,?_⟩
     ·have:=List.length_pos_of_mem hjr; omega
     ·rw[List.length_erase_of_mem hjr,hrem]
     ·have:=hq3.set y.1 (.slice (some ⟨y.2.1,0,none⟩) y.2.2.length y.2.2.length);rw[List.map_set];exact this
     ·exact(hu2.trans (hu23.mono (G:=fun b=>b=q∨b=w'.heap.size) fun _ _ h=>.inr h) (fun b h1 h2=>h2.elim id fun e=>by omega)).trans hu34 (fun _ _ h=>h)
     ·intro i hi;by_cases e:i=j
      ·exact .inl (by simp[e])
      ·rcases hcov i hi with h | h
       ·exact .inl (by simp[h])
       ·exact .inr ((List.mem_erase_of_ne e).2 h)
     ·intro s x hs;rw[List.getElem?_set] at hs;by_cases e:y.1=s
      ·rw[if_pos e] at hs;split at hs
       ·simp only[Option.some.injEq] at hs;subst hs;exact .inl ⟨j,by simp,by rw[hy,←e]⟩
       ·cases hs
      ·rw[if_neg e] at hs;rcases hprop s x hs with ⟨j',h1,h2⟩ | ⟨h1,h2⟩
       ·exact .inl ⟨j',by simp[h1],h2⟩
       ·refine .inr ⟨?_,h2⟩;intro j' b hj' hb;rcases Array.mem_push.1 hj' with h3 | h3
        ·exact h1 j' b h3 hb
        ·subst h3;rw[hy] at hb;simp only[Option.some.injEq] at hb;exact e (by rw[hb])
   ·show(w'.heap.push _)[w'.heap.size]? =_;rw[Array.getElem?_push,if_pos rfl]
   ·intro s x hs;exact .inr ⟨by simp,hs⟩
  ·have hi:i<cachs.length:=by omega
   obtain⟨y,hy⟩ : ∃y,cachs[i]? =some y:=⟨cachs[i],by simp⟩;have hym:=List.mem_of_getElem? hy;obtain⟨gb,cap',hv,hob,hcell⟩:=pI (f:=cacheRow) (fun _=>rfl) (cO h.own hu (fun _ _ h=>h)) hy;have hc0:=hcell 0 (by omega);have hc1:=hcell 1 (by omega);simp only[cacheRow,List.getElem?_cons_zero,List.getElem?_cons_succ,CV,Nat.add_zero] at hc0 hc1;rw[hcv] at hv;injection hv with e1 e2 e3;subst e1;have hgl:=(h.cvc gb (by rw[hcv]; rfl)).1;have hgl':gb<w'.heap.size:=Nat.lt_of_lt_of_le (h.bd gb hgl) hu.size;have hsz:=hu.size;simp(disch:=omega)only[push_cast,seval,hc0,hc1,hg];refine Ok.use (hch i _ (by omega) ((hu.alloc'.setNew (by exact hsz)).setNew (by exact hsz))) ?_;rintro v w2 ⟨rfl,rfl⟩;have hmw:MapI (((w'.alloc (.cells [.int .i64 0,.slice none 0 0].toArray 156 (0,0))).setCell ⟨w'.heap.size,0,none⟩ (.int .i64 y.1)).setCell ⟨w'.heap.size,1,none⟩ (.slice (some ⟨y.2.1,0,none⟩) y.2.2.length y.2.2.length)) w.heap.size (mg.map toM):=
    hm.upd (((Upd.refl (F:=fun _=>False)).alloc'.setNew (Nat.le_refl _)).setNew (Nat.le_refl _)) (fun h=>h)
   have hdc:d.cache[i]? =some (y.1,y.2.2):=by rw[h.cache,List.getElem?_map,hy]; rfl
   have hys:=(h.cachc y hym).2.2.1;cases hci:ch i
   ·simp(disch:=omega)only[push_cast,seval];refine⟨k-1,by omega,i+1,mg,by omega,by simp,(hu.alloc'.setNew (by exact hsz)).setNew (by exact hsz),hmw,hnd,hmem,?_⟩;intro s hs;simp only[settled,hdc,hci,Bool.false_eq_true,if_false];exact hset s hs
   ·simp(disch:=omega)only[push_cast,seval];rw[UK qJ hmw];simp(disch:=omega)only[push_cast,seval];refine⟨k-1,by omega,i+1,putG y.1 y.2 mg,by omega,by simp,((hu.alloc'.setNew (by exact hsz)).setNew (by exact hsz)).trans (Upd.setBlock (F:=fun b=>b=w.heap.size) rfl) (fun b h1 h2=>by omega),?_,UU hnd,?_,?_⟩
    ·have e:=US (s:=y.1) (b:=y.2) (g:=mg);rw[CV] at e;rw[e];exact qI (by have:=hm.lt; simp only[bA,aI]; omega)
    ·intro z hz;rcases qK hz with rfl | hz
     ·exact hym
     ·exact hmem z hz
    ·intro s hs;simp only[settled,hdc,hci,if_true,List.getElem?_set,dG,UT];by_cases hsy:s=y.1
     ·simp[hsy]; omega
     ·have : ¬y.1=s:=fun e=>hsy e.symm;simp only[this,hsy,if_false];exact hset s hs
 ·show(w.heap.push _)[w.heap.size]? =_;rw[Array.getElem?_push,if_pos rfl];rfl
 ·intro s hs;have:s<d.dur.length:=by omega
  simp[settled,getG,List.getD_eq_getElem?_getD,this]
end Go.Proofs.YtpgigkceoolgeaaGreatDoor.Fd
