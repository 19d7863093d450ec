import Derived.Test.YtpgigkceoolgeaaGreatDoorS026
import Derived.Laws.Slices
import Derived.Lib.BufferWrite
set_option linter.all false
namespace Go.Proofs.YtpgigkceoolgeaaGreatDoor.Fd
open Go Go.Lib
set_option maxRecDepth 100000
theorem aAf {l:List Int}:strOfNums l=⟨(l.map fun n=>UInt8.ofNat n.toNat).toArray⟩:=by
 unfold strOfNums;simp
theorem aAg {l:List Int}(h:Rng l):strL (strOfNums l)=l:=by
 rw[aAf,strL];simp only[List.map_map];rw[List.map_congr_left (g:=id),List.map_id];intro x hx;have:=h x hx;simp;omega
section
variable {P : Program} {D : Den} {w : World} {ty : TypeId} {e : Operand → Value} {t : TypeId}
theorem aAh {x:Operand}:opX P D (.slice t x none none none) ty e w=slcS P t (e x) none none w:=by
 simp only[opX,opS,execOp,slcS,lift];simp;generalize Instr.sliceAt t (e x) none none none=s;cases s.run P w <;> simp
theorem nB {n:Nat}{el:TypeId}(h:arrOf P t=some (n,el)):P.underlying t=some (.array (P.arrayLen t) (P.elem t))∧P.elem t=el∧P.arrayLen t=n:=by
 have hu:P.underlying t=some (.array n el):=by
  unfold arrOf at h;split at h
  ·rename_i h2; cases h; exact h2
  ·cases h
 have he:P.elem t=el:=by simp[Program.elem,hu]
 have hn:P.arrayLen t=n:=by simp[Program.arrayLen,hu]
 exact⟨by rw[he,hn]; exact hu,he,hn⟩
theorem aAi {b o n s:Nat}{el:TypeId}(h:arrOf P t=some (n,el))(hs:siz P el=some s):slcS P t (.pointer (some ⟨b,o,none⟩)) none none w=some (.slice (some ⟨b,o,none⟩) n n,w):=by
 obtain⟨hu,he,hn⟩:=nB h;unfold slcS lift;rw[run_sliceAt_array_all w t _ hu,he,dE hs,hn];have ha:(⟨b,o,none⟩:Addr).add 0=⟨b,o,none⟩:=rfl;simp[slicedAt,ha]
theorem aAj {b o n s:Nat}{el:TypeId}{k:IntKind}{j:Int}(h:arrOf P t=some (n,el))(hs:siz P el=some s)(h0:0≤j)(h1:j≤n):slcS P t (.pointer (some ⟨b,o,none⟩)) none (some (.int k j)) w=some (.slice (some ⟨b,o,none⟩) j.toNat n,w):=by
 obtain⟨hu,he,hn⟩:=nB h;unfold slcS lift;rw[run_sliceAt_array_h w t _ hu _ _ h0 (by rw[hn]; exact h1),he,dE hs,hn];have ha:(⟨b,o,none⟩:Addr).add 0=⟨b,o,none⟩:=rfl;simp[slicedAt,ha]
theorem aAk {b o n s:Nat}{el:TypeId}{k:IntKind}{j:Int}(h:arrOf P t=some (n,el))(hs:siz P el=some s)(h0:0≤j)(h1:j<n):slcS P t (.pointer (some ⟨b,o,none⟩)) (some (.int k j)) none w=some (.slice (some ⟨b,o+j.toNat*s,none⟩) (n-j.toNat) (n-j.toNat),w):=by
 obtain⟨hu,he,hn⟩:=nB h;unfold slcS lift;rw[run_sliceAt_array_l w t _ hu _ _ h0 (by rw[hn]; omega),he,dE hs,hn];have h2 : ¬n=j.toNat:=by omega
 have ha:(⟨b,o,none⟩:Addr).add (j.toNat*s)=⟨b,o+j.toNat*s,none⟩:=by
  unfold Addr.add;split
  ·rename_i h0; rw[h0]; rfl
  ·rfl
 simp[slicedAt,ha,h2]
theorem aAl {t2 el E:TypeId}(ht:elt P t=some el)(hs:siz P el=some 1){g o dl dc:Nat}{s:ByteArray}{cur:List Value}(hg:Blk w g cur E)(hle:s.size≤dl)(hfit:o+s.size≤cur.length) :
 cpyS P #[t,t2] ty (.slice (some ⟨g,o,none⟩) dl dc) (.string s) w=some (.int .i64 s.size,w.setRow g (cur.take o ++ by8 (strL s) ++ cur.drop (o+s.size)).toArray):=by
 unfold elt at ht;split at ht
 ·rename_i el' hu;simp only[Option.some.injEq] at ht;subst ht;have:=run_copy_row_string (P:=P) (ty:=ty) w t t2 el' g o dl dc s cur.toArray E hu hs hg hle (by simpa using hfit);unfold cpyS lift;rw[this,show Lib.byteCells s.data.toList=by8 (strL s) by simp[Lib.byteCells,by8,strL]];rfl
 ·cases ht
end
attribute [push_cast] aAh
def headP (b:List Int)(g:Nat):List Int:=beL 8 g ++ beL 4 b.length ++ sumP (beL 8 g ++ beL 4 b.length ++ b)
theorem nC {b:List Int}{g:Nat}:(headP b g).length=44:=by simp [headP,bG,gW]
theorem aAm {b:List Int}{g:Nat}:Rng (headP b g):=(jT.append jT).append uT
theorem nD {w:World}{b:Nat}{l:List Int}{E:TypeId}(h:Blk w b (by8 l) E){c:Nat}{F:Nat→Prop}(hF : ¬F b):SlB w F (.slice (some ⟨b,0,none⟩) l.length c) l:=
 ⟨_,c,rfl,fun _=>⟨b,0,rfl,fun j _=>by have:=h.cell j; simpa using this,hF⟩⟩
theorem uY {n k:Nat} : ∀{j:Nat},j<k→(beL k n)[j]? =some (((n/256 ^ (k-1-j))%256:Nat):Int):=by
 induction k with
 | zero=>intro j h; omega
 | succ k ih=>
  intro j h;cases j with
  | zero=>rfl
  | succ j=>
   rw[beL,List.getElem?_cons_succ,ih (by omega),show k+1-1-(j+1)=k-1-j by omega]
theorem aAn {k:IntKind}{n:Int}{w:World}:cnvS Tryz.prog 2 5 (.int k n) w=some (.int .u8 (IntKind.u8.wrap n),w):=bK (by kernel_rfl) (by kernel_rfl)
theorem aAo {k:IntKind}{n:Int}{w:World}:cnvS Tryz.prog 3 5 (.int k n) w=some (.int .u8 (IntKind.u8.wrap n),w):=bK (by kernel_rfl) (by kernel_rfl)
attribute [push_cast] aAn aAo
theorem uZ {n k:Nat}(hk:k<8):IntKind.u8.wrap ((n:Int).fdiv (2 ^ (min (8*k) IntKind.i64.bits)))=(((n/256 ^ k)%256:Nat):Int):=by
 rw[show min (8*k) IntKind.i64.bits=8*k from Nat.min_eq_left (by show _≤64; omega),Int.fdiv_eq_ediv_of_nonneg _ (Int.le_of_lt (Int.pow_pos (by decide)))];have e:(2:Int) ^ (8*k)=((256 ^ k:Nat):Int):=by rw[Int.pow_mul]; rfl
 rw[e,←Int.natCast_ediv,dH]
def hRow (m:List Int)(t:Nat):List Value:=by8 (m.take t ++ List.replicate (44-t) 0)
theorem aAp {m:List Int}:hRow m 0=List.replicate 44 (.int .u8 0):=by simp [hRow,by8]
theorem vA {m:List Int}{t:Nat}(h:t<44)(hm:t≤m.length):(hRow m t)[t]? =some (.int .u8 0):=by
 rw[hRow,by8,List.getElem?_map,List.getElem?_append_right (by rw[List.length_take]; omega),List.length_take,Nat.min_eq_left hm,Nat.sub_self,List.getElem?_replicate,if_pos (by omega)];rfl
theorem vB {m:List Int}{t:Nat}{x:Int}(h:t<44)(hx:m[t]? =some x):(hRow m t).set t (.int .u8 x)=hRow m (t+1):=by
 obtain⟨hm,hx⟩:=List.getElem?_eq_some_iff.1 hx;have ht:(m.take t).length=t:=by rw[List.length_take]; omega
 rw[hRow,cH,List.set_append_right _ _ (by rw[aQ,ht]; exact Nat.le_refl _),aQ,ht,Nat.sub_self];rw[show 44-t=(44-(t+1))+1 by omega,List.replicate_succ,hRow,List.take_succ_eq_append_getElem hm,hx,cH,cH,List.append_assoc];rfl
set_option maxHeartbeats 4000000 in
theorem aAq {w:World}(hK:KT w){F:Nat→Prop}{y:Value}{b:List Int}(hy:SlC w F y b)(hl:b.length≤800000000){g:Nat}(hg:g<2 ^ 63) :
 Ok (den Tryz.prog 137 #[y,.int .i64 (g:Int)] w) fun v w'=>v = .agg (by8 (headP b g)).toArray∧Upd (fun _=>False) w w':=by
 obtain⟨ya,yc,rfl,hyc⟩:=id hy.2;refine bZ (args:=[.slice ya b.length yc,.int .i64 (g:Int)]) 4 187 Tryz.func137 rfl mixed (by kernel_rfl) SG rfl ?_;simp(config:={maxSteps:=3000000}) (disch:=omega) only[push_cast,Nat.reduceBEq,Nat.reduceEqDiff,Nat.reduceAdd,Nat.reduceMul,Nat.reduceSub,Nat.reduceLT,Int.reduceToNat,Int.reduceLT,Int.reduceLE,Int.reduceEq,Int.reduceAdd,Int.reduceSub,Int.reduceNeg,Int.reduceMul];obtain⟨M,hM⟩ : ∃M,M=beL 8 g ++ beL 4 b.length:=⟨_,rfl⟩;have hMl:M.length=12:=by rw[hM,List.length_append,bG,bG]
 have hb0:Blk ((w.alloc (.cells (List.replicate 44 (Value.int .u8 0)).toArray 187 (0,0))).alloc (.cells (List.replicate 44 (Value.int .u8 0)).toArray 187 (0,0))) (w.heap.size+1) (hRow M 0) 187:=by
  rw[aAp];have:=Blk.new (w:=w.alloc (.cells (List.replicate 44 (Value.int .u8 0)).toArray 187 (0,0))) (cs:=List.replicate 44 (Value.int .u8 0)) (E:=187);rw[aI] at this;exact this
 have hr0:Blk ((w.alloc (.cells (List.replicate 44 (Value.int .u8 0)).toArray 187 (0,0))).alloc (.cells (List.replicate 44 (Value.int .u8 0)).toArray 187 (0,0))) w.heap.size (List.replicate 44 (.int .u8 0)) 187:=Blk.new.alloc _;have hu0:Upd (fun _=>False) w ((w.alloc (.cells (List.replicate 44 (Value.int .u8 0)).toArray 187 (0,0))).alloc (.cells (List.replicate 44 (Value.int .u8 0)).toArray 187 (0,0))):=Upd.alloc.alloc';generalize ((w.alloc (.cells (List.replicate 44 (Value.int .u8 0)).toArray 187 (0,0))).alloc (.cells (List.replicate 44 (Value.int .u8 0)).toArray 187 (0,0)))=w1 at *;refine aG (I:=fun k st w'=>Bx (∃t,k+t=8∧st = [.int .i64 ((t:Nat):Int)]∧Blk w' (w.heap.size+1) (hRow M t) 187∧Upd (fun x=>x=w.heap.size+1) w1 w') ⟨⟩) ?_ 8
  ⟨0,by omega,rfl,hb0,Upd.refl⟩
 clear hb0;rintro k st w2 ⟨t,hk,rfl,hb2,hu2⟩;have hu02:Upd (fun _=>False) w w2:=hu0.trans hu2 fun x hx e=>by omega
 by_cases hk0:k=0
 ·obtain rfl:t=8:=by omega
  simp(config:={maxSteps:=3000000}) (disch:=omega) only[push_cast,Nat.reduceBEq,Nat.reduceEqDiff,Nat.reduceAdd,Nat.reduceMul,Nat.reduceSub,Nat.reduceLT,Int.reduceToNat,Int.reduceLT,Int.reduceLE,Int.reduceEq,Int.reduceAdd,Int.reduceSub,Int.reduceNeg,Int.reduceMul];refine aG (I:=fun k st w'=>Bx (∃t,k+t=4∧st = [.int .i64 ((t:Nat):Int)]∧Blk w' (w.heap.size+1) (hRow M (8+t)) 187∧Upd (fun x=>x=w.heap.size+1) w1 w') ⟨⟩) ?_ 4
   ⟨0,by omega,rfl,hb2,hu2⟩
  clear hb2 hu2 hu02;rintro k st w3 ⟨t,hk,rfl,hb3,hu3⟩;have hu03:Upd (fun _=>False) w w3:=hu0.trans hu3 fun x hx e=>by omega
  by_cases hk0:k=0
  ·obtain rfl:t=4:=by omega
   have hL : ∀w':World,slcS Tryz.prog 187 (.pointer (some ⟨w.heap.size+1,0,none⟩)) (some (.int .i64 12)) none w'=some (.slice (some ⟨w.heap.size+1,12,none⟩) 32 32,w'):=fun w'=>aAk (w:=w') (b:=w.heap.size+1) (o:=0) (k:=.i64) (j:=12) iN bJ (by omega) (by omega);have hH : ∀w':World,slcS Tryz.prog 187 (.pointer (some ⟨w.heap.size+1,0,none⟩)) none (some (.int .i64 12)) w'=some (.slice (some ⟨w.heap.size+1,0,none⟩) 12 44,w'):=fun w'=>aAj (w:=w') (b:=w.heap.size+1) (o:=0) (k:=.i64) (j:=12) iN bJ (by omega) (by omega);have hM12:hRow M (8+4)=by8 (M ++ List.replicate 32 0):=by rw[hRow,List.take_of_length_le (by omega)]
   rw[hM12] at hb3;have hblt:=hb3.lt;simp(config:={maxSteps:=3000000}) (disch:=omega) only[push_cast,Nat.reduceBEq,Nat.reduceEqDiff,Nat.reduceAdd,Nat.reduceMul,Nat.reduceSub,Nat.reduceLT,Int.reduceToNat,Int.reduceLT,Int.reduceLE,Int.reduceEq,Int.reduceAdd,Int.reduceSub,Int.reduceNeg,Int.reduceMul,hL,hH];have h4:=(Fr.empty (w:=w3)).quiet (Upd.drew (F:=fun _=>False));have hu34:Upd (fun _=>False) w3 (w3.alloc (.cells #[] 5 (0,0))).drew:=(Upd.alloc (F:=fun _=>False)).drew';generalize (w3.alloc (.cells #[] 5 (0,0))).drew=w4 at *;have hb4:=hb3.upd hu34 fun h=>h;have hsrc:SlB w4 (fun _=>False) (.slice (some ⟨w.heap.size+1,0,none⟩) 12 44) M:=by
    have h1:=nD hb4 (c:=44) (F:=fun _=>False) fun h=>h;have h2:=gH h1 (n:=12) (by rw[List.length_append]; omega) (by rw[List.length_append,List.length_replicate]; omega);rw[List.take_left' hMl] at h2;exact h2.1
   refine h4.app hsrc (by rw[List.length_nil]; omega) ?_;intro v5 w5 h5 hu5;rw[List.nil_append] at h5;obtain⟨va5,vc5,rfl,hc5⟩:=h5.own.form;have hb5:=hb3.upd h5.upd fun h=>h;simp(config:={maxSteps:=3000000}) (disch:=omega) only[push_cast,Nat.reduceBEq,Nat.reduceEqDiff,Nat.reduceAdd,Nat.reduceMul,Nat.reduceSub,Nat.reduceLT,Int.reduceToNat,Int.reduceLT,Int.reduceLE,Int.reduceEq,Int.reduceAdd,Int.reduceSub,Int.reduceNeg,Int.reduceMul,hL,hH];have hu05:Upd (fun _=>False) w w5:=hu03.trans h5.upd fun _ _ h=>h;refine h5.app (hy.1.upd hu05 fun _ h=>h.elim) (by omega) ?_;intro v6 w6 h6 hu6;obtain⟨va6,vc6,rfl,hc6⟩:=h6.own.form;have hu06:Upd (fun _=>False) w w6:=hu03.trans h6.upd fun _ _ h=>h;have hb6:=hb3.upd h6.upd fun h=>h;obtain⟨MB,hMB⟩ : ∃MB,MB=M ++ b:=⟨_,rfl⟩;rw[←hMB] at h6 ⊢;have hMBl:MB.length≤900000000:=by rw[hMB,List.length_append]; omega
   simp(config:={maxSteps:=3000000}) (disch:=omega) only[push_cast,Nat.reduceBEq,Nat.reduceEqDiff,Nat.reduceAdd,Nat.reduceMul,Nat.reduceSub,Nat.reduceLT,Int.reduceToNat,Int.reduceLT,Int.reduceLE,Int.reduceEq,Int.reduceAdd,Int.reduceSub,Int.reduceNeg,Int.reduceMul,hL,hH];refine Ok.use (aAe (hK.upd hu06 fun h=>h) h6.slc hMBl) ?_;rintro v w7 ⟨rfl,hu7⟩;have hb7:=hb6.upd hu7 fun h=>h;have hcpy:=aAl (P:=Tryz.prog) (t:=55) (t2:=9) (ty:=3) (s:=strOfNums (sumP MB)) (dl:=32) (dc:=32) cG bJ hb7 (o:=12) (by rw[bW,gW]; omega) (by rw[bW,gW,aQ,List.length_append,List.length_replicate]; omega);have erow:(by8 (M ++ List.replicate 32 0)).take 12 ++ by8 (strL (strOfNums (sumP MB))) ++ (by8 (M ++ List.replicate 32 0)).drop (12+(strOfNums (sumP MB)).size)=by8 (headP b g):=by
    rw[aAg uT,bW,gW,cH,List.take_left' (by rw[aQ,hMl]),List.drop_of_length_le (by rw[List.length_append,aQ,aQ,List.length_replicate]; omega),List.append_nil,←cH,hMB,hM];rfl
   rw[erow] at hcpy;have hss:((strOfNums (sumP MB)).size:Int)=32:=by rw[bW,gW]; rfl
   rw[hss] at hcpy;generalize strOfNums (sumP MB)=str at *;have hgo:=hb7.setRow (cs':=by8 (headP b g));have hup:=(hu7.mono (G:=fun x=>x=w.heap.size+1) fun _ _ h=>h.elim).trans (Upd.setRow (w:=w7) (g:=w.heap.size+1) (cs:=(by8 (headP b g)).toArray) (F:=fun x=>x=w.heap.size+1) rfl) fun x _ h=>h;generalize w7.setRow (w.heap.size+1) (by8 (headP b g)).toArray=w8 at *;have hr8:=((hr0.upd hu3 fun e=>by omega).upd (h6.upd.mono (G:=fun x=>x=w.heap.size+1) fun _ _ h=>h.elim) fun e=>by omega).upd hup fun e=>by omega
   have h44:(by8 (headP b g)).length=44:=by rw[aQ,nC]
   have hld1:=aJ (t:=187) hgo k9 (by rw[h44]; exact gA);have hst:=aP (t:=187) (cs':=by8 (headP b g)) hr8 (by rw[h44]; exact gA) (by rw[h44,List.length_replicate]) dD;have hld2:=aJ (t:=187) (hr8.setRow (cs':=by8 (headP b g))) k9 (by rw[h44]; exact gA);have hfin:Upd (fun _=>False) w (w8.setRow w.heap.size (by8 (headP b g)).toArray):=((hu03.trans h6.upd fun _ _ h=>h).trans hup fun x hx e=>by omega).trans (Upd.setRow (F:=fun x=>x=w.heap.size) rfl) fun x hx e=>by omega
   simp(config:={maxSteps:=3000000}) (disch:=omega) only[push_cast,Nat.reduceBEq,Nat.reduceEqDiff,Nat.reduceAdd,Nat.reduceMul,Nat.reduceSub,Nat.reduceLT,Int.reduceToNat,Int.reduceLT,Int.reduceLE,Int.reduceEq,Int.reduceAdd,Int.reduceSub,Int.reduceNeg,Int.reduceMul,hL,hH,hcpy,hld1,hst,hld2];exact hfin
  have hle:(t:Int)<4:=by omega
  have hx:M[8+t]? =some (((b.length/256 ^ (3-t))%256:Nat):Int):=by rw[hM,List.getElem?_append_right (by rw[bG]; omega),bG,show 8+t-8=t by omega,uY (by omega),show 4-1-t=3-t by omega]
  have hat:=vA (m:=M) (t:=8+t) (by omega) (by omega);have hset:=vB (t:=8+t) (by omega) hx;have esh:=uZ (n:=b.length) (k:=3-t) (by omega);obtain⟨Q,hQ⟩ : ∃Q,Q=8*(3-t):=⟨_,rfl⟩;obtain⟨q,hq⟩ : ∃q,q=3-t:=⟨_,rfl⟩;rw[←hQ,←hq] at esh;rw[←hq] at hset;generalize b.length/256 ^ q%256=x at *;have et:((24:Int)-8*(t:Int)).toNat=Q:=by omega
  obtain⟨j,hj⟩ : ∃j,j=8+t:=⟨_,rfl⟩;have ej:(8:Int)+(t:Int)=(j:Int):=by omega
  rw[←hj] at hb3 hat hset;have hj44:(j:Int)<44:=by omega
  simp(config:={maxSteps:=3000000}) (disch:=omega) only[push_cast,Nat.reduceBEq,Nat.reduceEqDiff,Nat.reduceAdd,Nat.reduceMul,Nat.reduceSub,Nat.reduceLT,Int.reduceToNat,Int.reduceLT,Int.reduceLE,Int.reduceEq,Int.reduceAdd,Int.reduceSub,Int.reduceNeg,Int.reduceMul,hle,hb3.cell,hb3.free,hat,et,esh,ej];exact⟨k-1,by omega,t+1,by omega,by simp,by rw[show 8+(t+1)=j+1 by omega,←hset]; exact hb3.set j _,hu3.setIn rfl⟩
 have hle:(t:Int)<8:=by omega
 have hx:M[t]? =some (((g/256 ^ (7-t))%256:Nat):Int):=by rw[hM,List.getElem?_append_left (by rw[bG]; omega),uY (by omega),show 8-1-t=7-t by omega]
 have hat:=vA (m:=M) (t:=t) (by omega) (by omega);have hset:=vB (t:=t) (by omega) hx;have esh:=uZ (n:=g) (k:=7-t) (by omega);obtain⟨Q,hQ⟩ : ∃Q,Q=8*(7-t):=⟨_,rfl⟩;obtain⟨q,hq⟩ : ∃q,q=7-t:=⟨_,rfl⟩;rw[←hQ,←hq] at esh;rw[←hq] at hset;generalize g/256 ^ q%256=x at *;have et:((56:Int)-8*(t:Int)).toNat=Q:=by omega
 simp(config:={maxSteps:=3000000}) (disch:=omega) only[push_cast,Nat.reduceBEq,Nat.reduceEqDiff,Nat.reduceAdd,Nat.reduceMul,Nat.reduceSub,Nat.reduceLT,Int.reduceToNat,Int.reduceLT,Int.reduceLE,Int.reduceEq,Int.reduceAdd,Int.reduceSub,Int.reduceNeg,Int.reduceMul,hle,hb2.cell,hb2.free,hat,et,esh];exact⟨k-1,by omega,t+1,by omega,by simp,by rw[←hset]; exact hb2.set t _,hu2.setIn rfl⟩
open Go
set_option maxRecDepth 100000
theorem vC {s:Nat}{l:List Int}(h:Rng l):Rng (pad s l):=h.append Rng.zeros
def hdrP (size:Nat)(b:List Int)(g:Nat):List Int:=pad size (headP b g)
theorem dC {size:Nat}{b:List Int}{g:Nat}(h:44≤size):(hdrP size b g).length=size:=gG (by rw [nC]; exact h)
theorem vD {size:Nat}{b:List Int}{g:Nat}:Rng (hdrP size b g):=vC aAm
structure CS where
 first:Nat
 n:Nat
 slot:Nat
 newest:List Int
 gen:Nat
 down:Bool
def CO (w:World)(F:Nat→Prop)(p cb:Nat)(c:CS):Prop:=∃nv,Blk w cb [.pointer (some ⟨p,0,none⟩),.int .i64 c.first,.int .i64 c.n,.int .i64 c.slot,nv,.int .i64 c.gen,.bool c.down] 100∧SlC w F nv c.newest∧Rng c.newest
structure CW (w : World) (D J : Nat → Prop) (p cb : Nat) (s : DS × CS) : Prop where
 disk:IsDisk w D p s.1
 obj:CO w (FF D J) p cb s.2
 jj:J cb
 sep : ∀b,J b→¬D b∧b<w.heap.size
 kt:KT w
 k0 : ¬D 1∧¬J 1
theorem CW.cb0 {w:World}{D J:Nat→Prop}{p cb:Nat}{s:DS×CS}(h:CW w D J p cb s):cb≠1:=fun e=>h.k0.2 (by rw [←e]; exact h.jj)
theorem CW.quiet {w w':World}{D J:Nat→Prop}{p cb:Nat}{s:DS×CS}(h:CW w D J p cb s)(hu:Upd (fun _=>False) w w'):CW w' D J p cb s:=by
 obtain⟨sv,h1,h2,h3⟩:=h.obj;exact⟨h.disk.upd hu (fun _ _ h=>h),⟨sv,h1.upd hu (fun h=>h),h2.upd hu (fun _ h=>h.elim),h3⟩,h.jj,fun b hb=>⟨(h.sep b hb).1,Nat.lt_of_lt_of_le (h.sep b hb).2 hu.size⟩,h.kt.upd hu (fun h=>h),h.k0⟩
theorem CW.disked {w w':World}{D D' J:Nat→Prop}{p cb:Nat}{s:DS×CS}{d':DS}(h:CW w D J p cb s)(hd:IsDisk w' D' p d')(ht:JT w w' D D' cb)(hu:Upd D w w'):CW w' D' J p cb (d',s.2):=by
 obtain⟨sv,h1,h2,h3⟩:=h.obj;have hD : ∀b,b<w.heap.size→D' b→D b:=fun b hb hb2=>(ht.new b hb2).elim (fun h=>h) fun h=>by omega
 refine⟨hd,⟨sv,h1.upd hu (h.sep cb h.jj).1,ht.slc h.jj h2,h3⟩,h.jj,fun b hb=>⟨fun hb2=>?_,Nat.lt_of_lt_of_le (h.sep b hb).2 hu.size⟩,h.kt.upd hu h.k0.1,fun h0=>h.k0.1 (hD 1 h.kt.1 h0),h.k0.2⟩;exact(h.sep b hb).1 (hD b (h.sep b hb).2 hb2)
theorem CW.set {w w':World}{D J:Nat→Prop}{p cb:Nat}{s:DS×CS}{c':CS}(h:CW w D J p cb s)(hu:Upd (fun b=>b=cb) w w')(ho:CO w' (FF D J) p cb c'):CW w' D J p cb (s.1,c')∧JT w w' D D cb:=by
 refine⟨⟨h.disk.upd hu fun b hb e=>(h.sep cb h.jj).1 (by rw[←e]; exact hb),ho,h.jj,fun b hb=>⟨(h.sep b hb).1,Nat.lt_of_lt_of_le (h.sep b hb).2 hu.size⟩,h.kt.upd hu (fun e=>h.cb0 e.symm),h.k0⟩,⟨fun b hb=>.inl hb,fun b hb=>hb,hu.mono fun b _ e=>.inr e⟩⟩
theorem CW.at_ {w:World}{D J:Nat→Prop}{p cb:Nat}{s:DS×CS}(h:CW w D J p cb s) : ∃sa sc,Blk w cb [.pointer (some ⟨p,0,none⟩),.int .i64 s.2.first,.int .i64 s.2.n,.int .i64 s.2.slot,.slice sa s.2.newest.length sc,.int .i64 s.2.gen,.bool s.2.down] 100∧SlC w (FF D J) (.slice sa s.2.newest.length sc) s.2.newest∧Rng s.2.newest:=by
 obtain⟨sv,h1,h2,h3⟩:=h.obj;obtain⟨sa,sc,rfl,hc⟩:=id h2.2;exact⟨sa,sc,h1,h2,h3⟩
theorem nE {w:World}{D J:Nat→Prop}{p cb:Nat}{s:DS×CS}(h:CW w D J p cb s){x:Nat}(hx:x≤1)(h1:s.2.first≤100000)(h2:s.2.n≤100000) :
 Ok (den Tryz.prog 93 #[.pointer (some ⟨cb,0,none⟩),.int .i64 (x:Int)] w) fun v w'=>v = .int .i64 ((s.2.first+x*s.2.n:Nat):Int)∧Upd (fun _=>False) w w':=by
 obtain⟨sa,sc,hb,_⟩:=h.at_;refine aB (args:=[.pointer (some ⟨cb,0,none⟩),.int .i64 (x:Int)]) rs93 Tryz.func93 rfl mixed (by kernel_rfl) Q7 rfl ?_;have hx2:x=0∨x=1:=by omega
 rcases hx2 with rfl | rfl
 ·simp(maxSteps:=3000000)(disch:=omega)only[push_cast,seval,hb.cell];exact Upd.drew
 ·simp(maxSteps:=3000000)(disch:=omega)only[push_cast,seval,hb.cell];exact Upd.drew
theorem nG {w:World}{D J:Nat→Prop}{p cb:Nat}{s:DS×CS}(h:CW w D J p cb s)(h1:1≤s.2.n)(h2:s.2.n≤100000)(h3:s.1.size≤4096) :
 Ok (den Tryz.prog 94 #[.pointer (some ⟨cb,0,none⟩)] w) fun v w'=>v = .int .i64 (((s.2.n-1)*s.1.size:Nat):Int)∧Upd (fun _=>False) w w':=by
 obtain⟨sa,sc,hb,_⟩:=h.at_;obtain⟨m,hm⟩ : ∃m,m=s.2.n-1:=⟨_,rfl⟩;have em:(s.2.n:Int)-1=(m:Int):=by omega
 rw[←hm];have hb1:m*s.1.size≤100000*4096:=Nat.mul_le_mul (by omega) h3;obtain⟨q,hq⟩ : ∃q,q=m*s.1.size:=⟨_,rfl⟩;have eq:(m:Int)*(s.1.size:Int)=(q:Int):=by rw[hq,Int.natCast_mul]
 rw[←hq] at hb1 ⊢;refine aB (args:=[.pointer (some ⟨cb,0,none⟩)]) rs94 Tryz.func94 rfl mixed (by kernel_rfl) Q8 rfl ?_;have hbd:=hb.drew;have hud:Upd (fun _=>False) w w.drew:=Upd.drew;have hd:=(h.quiet hud).disk;simp(maxSteps:=3000000)(disch:=omega)only[push_cast,seval,hb.cell,em];generalize w.drew=w1 at *;refine Ok.use (bP hd) ?_;rintro u w2 ⟨rfl,rfl⟩;generalize s.1.size=z at *;simp(maxSteps:=3000000)(disch:=omega)only[push_cast,seval,hb.cell,hbd.cell,em,eq];exact hud
set_option maxHeartbeats 2000000 in
theorem nH {w:World}{D J:Nat→Prop}{p cb:Nat}{s:DS×CS}(h:CW w D J p cb s){F:Nat→Prop}{y:Value}{b:List Int}(hy:SlC w F y b)(hl:b.length≤800000000){g:Nat}(hg:g<2 ^ 63)(h3:44≤s.1.size)(h4:s.1.size≤4096) :
 Ok (den Tryz.prog 96 #[.pointer (some ⟨cb,0,none⟩),y,.int .i64 (g:Int)] w) fun v w'=>∃nb,v=CV nb (hdrP s.1.size b g)∧Blk w' nb (by8 (hdrP s.1.size b g)) 5∧w.heap.size≤nb∧Upd (fun _=>False) w w':=by
 obtain⟨sa,sc,hb,_⟩:=h.at_;obtain⟨ya,yc,rfl,hyc⟩:=id hy.2;refine aB (args:=[.pointer (some ⟨cb,0,none⟩),.slice ya b.length yc,.int .i64 (g:Int)]) rs96 Tryz.func96 rfl mixed (by kernel_rfl) RA rfl ?_;simp(config:={maxSteps:=3000000}) (disch:=omega) only[push_cast,Nat.reduceBEq,Nat.reduceEqDiff,Nat.reduceAdd,Nat.reduceMul,Nat.reduceSub,Nat.reduceLT,Int.reduceToNat,Int.reduceLT,Int.reduceLE,Int.reduceEq,Int.reduceAdd,Int.reduceSub,Int.reduceNeg,Int.reduceMul,hb.cell];refine Ok.use (bP h.disk) ?_;rintro u w1 ⟨rfl,rfl⟩;obtain⟨z,hz⟩ : ∃z,z=s.1.size:=⟨_,rfl⟩;rw[←hz] at h3 h4 ⊢;have hnew:Blk (w.alloc (.cells (List.replicate z (Value.int .u8 0)).toArray 5 (0,0))) w.heap.size (List.replicate z (Value.int .u8 0)) 5:=Blk.new;have hal:Upd (fun _=>False) w (w.alloc (.cells (List.replicate z (Value.int .u8 0)).toArray 5 (0,0))):=Upd.alloc;simp(config:={maxSteps:=3000000}) (disch:=omega) only[push_cast,Nat.reduceBEq,Nat.reduceEqDiff,Nat.reduceAdd,Nat.reduceMul,Nat.reduceSub,Nat.reduceLT,Int.reduceToNat,Int.reduceLT,Int.reduceLE,Int.reduceEq,Int.reduceAdd,Int.reduceSub,Int.reduceNeg,Int.reduceMul,hb.cell];have hw1:=h.quiet hal;have hy1:=hy.upd hal fun _ h=>h.elim;generalize (w.alloc (.cells (List.replicate z (Value.int .u8 0)).toArray 5 (0,0)))=w1 at *;refine Ok.use (aAq hw1.kt hy1 hl hg) ?_;rintro v w2 ⟨rfl,hu2⟩;have hnew2:=hnew.upd hu2 fun h=>h;have hz0:Blk (w2.alloc (.cells (List.replicate 44 (Value.int .u8 0)).toArray 187 (0,0))) w2.heap.size (List.replicate 44 (.int .u8 0)) 187:=Blk.new;have h44:(by8 (headP b g)).length=44:=by rw[aQ,nC]
 have hst:=aP (t:=187) (cs':=by8 (headP b g)) hz0 (by rw[h44]; exact gA) (by rw[h44,List.length_replicate]) dD;have hset:=hz0.setRow (cs':=by8 (headP b g));have hu3:Upd (fun _=>False) w2 ((w2.alloc (.cells (List.replicate 44 (Value.int .u8 0)).toArray 187 (0,0))).setRow w2.heap.size (by8 (headP b g)).toArray):=Upd.alloc.trans (Upd.setRow (F:=fun x=>x=w2.heap.size) rfl) fun x hx e=>by omega
 have hnew3:=hnew2.upd hu3 fun h=>h;simp(config:={maxSteps:=3000000}) (disch:=omega) only[push_cast,Nat.reduceBEq,Nat.reduceEqDiff,Nat.reduceAdd,Nat.reduceMul,Nat.reduceSub,Nat.reduceLT,Int.reduceToNat,Int.reduceLT,Int.reduceLE,Int.reduceEq,Int.reduceAdd,Int.reduceSub,Int.reduceNeg,Int.reduceMul,hst];have hA : ∀w':World,slcS Tryz.prog 187 (.pointer (some ⟨w2.heap.size,0,none⟩)) none none w'=some (.slice (some ⟨w2.heap.size,0,none⟩) 44 44,w'):=fun w'=>aAi (w:=w') (b:=w2.heap.size) (o:=0) iN bJ;generalize ((w2.alloc (.cells (List.replicate 44 (Value.int .u8 0)).toArray 187 (0,0))).setRow w2.heap.size (by8 (headP b g)).toArray)=w3 at *;have hcp:=iM (P:=Tryz.prog) (t2:=55) (ty:=3) cG bJ hnew3 (o:=0) (dl:=z) (dc:=z) (b:=w2.heap.size) (so:=0) (sl:=44) (sc:=44) (cs:=by8 (headP b g)) (by rw[h44]; omega) (fun j hj=>by have:=hset.cell j; simpa using this) (by rw[h44,List.length_replicate]; omega) dD;have e:(List.replicate z (Value.int IntKind.u8 0)).take 0 ++ by8 (headP b g) ++ (List.replicate z (Value.int IntKind.u8 0)).drop (0+(by8 (headP b g)).length)=by8 (hdrP z b g):=by
  rw[List.take_zero,List.nil_append,List.drop_replicate,aQ,Nat.zero_add,hdrP,pad,cH];simp[by8]
 rw[e] at hcp;have hfin:=hnew3.setRow (cs':=by8 (hdrP z b g));have hu4:Upd (fun _=>False) w (w3.setRow w.heap.size (by8 (hdrP z b g)).toArray):=(((hal.trans hu2 fun _ _ h=>h).trans hu3 fun _ _ h=>h).trans (Upd.setRow (F:=fun x=>x=w.heap.size) rfl) fun x hx e=>by omega);have hlen:(hdrP z b g).length=z:=dC h3;simp(config:={maxSteps:=3000000}) (disch:=omega) only[push_cast,Nat.reduceBEq,Nat.reduceEqDiff,Nat.reduceAdd,Nat.reduceMul,Nat.reduceSub,Nat.reduceLT,Int.reduceToNat,Int.reduceLT,Int.reduceLE,Int.reduceEq,Int.reduceAdd,Int.reduceSub,Int.reduceNeg,Int.reduceMul,hA,hcp];exact⟨w.heap.size,by rw[CV,hlen],hfin,Nat.le_refl _,hu4⟩
open Go
set_option maxRecDepth 100000
abbrev DOp:=Option (Nat×List Int)
def DS.op (d:DS):DOp→DS×Int
 | none=>d.sync
 | some x=>d.write x.1 x.2
def runOps (d:DS):List DOp→DS×Int
 | []=>(d,0)
 | o :: r=>if (d.op o).2=0 then runOps (d.op o).1 r else d.op o
theorem fB {d:DS}{o:DOp}{r:List DOp}(h:(d.op o).2=0):runOps d (o :: r)=runOps (d.op o).1 r:=by rw [runOps,if_pos h]
theorem fC {d:DS}{o:DOp}{r:List DOp}(h:(d.op o).2≠0):runOps d (o :: r)=d.op o:=by rw [runOps,if_neg h]
theorem vE {a b:List DOp} : ∀{d:DS},runOps d (a ++ b)=if (runOps d a).2=0 then runOps (runOps d a).1 b else runOps d a:=by
 induction a with
 | nil=>intro d; rfl
 | cons o r ih=>
  intro d;rw[List.cons_append];by_cases h:(d.op o).2=0
  ·rw[fB h,fB h,ih]
  ·rw[fC h,fC h,if_neg h]
theorem Sz.op {n s i:Nat}{d:DS}(h:Sz n s i d)(o:DOp):Sz n s (i+1) (d.op o).1:=by
 cases o with
 | none=>exact h.sync.mono (by omega)
 | some x=>exact h.write _ _
theorem Sz.ops {n s:Nat} : ∀{l:List DOp} {i:Nat} {d:DS},Sz n s i d→Sz n s (i+l.length) (runOps d l).1
 | [],i,d,h=>h
 | o :: r,i,d,h=>by
  unfold runOps;split
  ·exact(Sz.ops (l:=r) (h.op o)).mono (by simp; omega)
  ·exact(h.op o).mono (by simp)
def chunk (sz:Nat)(b:List Int)(i:Nat):List Int:=pad sz ((b.drop (sz*i)).take sz)
def nch (sz len:Nat):Nat:=(len+sz-1)/sz
def chL (sz:Nat)(b:List Int)(at_:Nat):List DOp:=(List.range (nch sz b.length)).map fun i=>some (at_+i,chunk sz b i)
def putOps (sz at_:Nat)(b:List Int):List DOp:=chL sz b at_ ++ [none]
theorem nI {sz i:Nat}{b:List Int}:(chunk sz b i).length=sz:=gG (by rw [List.length_take]; omega)
theorem dQ {sz at_:Nat}{b:List Int}:(chL sz b at_).length=nch sz b.length:=by simp [chL]
theorem vF {sz at_ t:Nat}{b:List Int}(h:t<nch sz b.length):(chL sz b at_).drop t=some (at_+t,chunk sz b t) :: (chL sz b at_).drop (t+1):=by
 rw[List.drop_eq_getElem_cons (by rw[dQ]; exact h)];simp[chL]
theorem gX {sz len t:Nat}(hz:0<sz):t<nch sz len↔sz*t<len:=by
 unfold nch;rw[Nat.lt_div_iff_mul_lt hz,Nat.mul_comm];omega
set_option maxHeartbeats 2000000 in
theorem nJ {w:World}{D J:Nat→Prop}{p cb:Nat}{s:DS×CS}(h:CW w D J p cb s){n sz i:Nat}(hs:Sz n sz i s.1)(hi:i≤900000)(hz:0<sz)(hz2:sz≤4096){x:Nat}(hx:x≤200000)
 {y:Value} {b:List Int} (hy:SlC w (FF D J) y b) (hb:b.length≤409600000) (hb2:nch sz b.length≤100000) :
 Ok (den Tryz.prog 158 #[.pointer (some ⟨cb,0,none⟩),.int .i64 (x:Int),y] w) fun u w'=>u=errV (runOps s.1 (putOps sz x b)).2∧∃D',CW w' D' J p cb ((runOps s.1 (putOps sz x b)).1,s.2)∧JT w w' D D' cb:=by
 obtain⟨ya,yc,rfl,hyc⟩:=id hy.2;refine aB (args:=[.pointer (some ⟨cb,0,none⟩),.int .i64 (x:Int),.slice ya b.length yc]) rs158 Tryz.func158 rfl mixed (by kernel_rfl) S2 rfl ?_;simp(maxSteps:=3000000)(disch:=omega)only[push_cast,seval];refine aG (I:=fun k st w'=>Bx (∃t v d D',k+t=nch sz b.length∧st = [.int .i64 ((x+t:Nat):Int),v]∧SlC w' (FF D' J) v (b.drop (sz*t))∧CW w' D' J p cb (d,s.2)∧JT w w' D D' cb∧Sz n sz (i+t) d∧runOps s.1 (putOps sz x b)=runOps d ((chL sz b x).drop t ++ [none])) ⟨⟩) ?_ (nch sz b.length)
  ⟨0,.slice ya b.length yc,s.1,D,by omega,by simp,by simpa using hy,h,JT.refl,hs,by rw[List.drop_zero]; rfl⟩
 rintro k st w1 ⟨t,v,d,D1,hk,rfl,h1,hw1,ht1,hs1,hrun⟩;obtain⟨va,vc,rfl,hvc⟩:=id h1.2;obtain⟨sa,sc,hb1,_⟩:=hw1.at_;have hld:(b.drop (sz*t)).length=b.length-sz*t:=List.length_drop;have hsz:=hs1.size;have hd1:IsDisk w1 D1 p d:=hw1.disk;by_cases hk0:k=0
 ·obtain rfl:t=nch sz b.length:=by omega
  have hge : ¬sz*nch sz b.length<b.length:=fun hh=>absurd ((gX hz).2 hh) (by omega);have hlt : ¬(0:Int)<(b.drop (sz*nch sz b.length)).length:=by omega
  generalize b.drop (sz*nch sz b.length)=B at *;simp(maxSteps:=3000000)(disch:=omega)only[push_cast,seval,hlt,hb1.cell];refine Ok.use (qM hd1 (by have:=hs1.few; omega) hs1.cnt) ?_;rintro u w2 ⟨rfl,hd2,hu2⟩;have ht2:JT w1 w2 D1 (gr D1 w1 w2) cb:=⟨fun b hb=>hb,fun b hb=>.inl hb,hu2.mono fun b _ hb=>.inl hb⟩;have hw2:=hw1.disked hd2 ht2 hu2;have e:runOps d ((chL sz b x).drop (nch sz b.length) ++ [none])=d.sync:=by
   rw[List.drop_of_length_le (by rw[dQ]; exact Nat.le_refl _),List.nil_append];by_cases hh:(d.op none).2=0
   ·rw[fB hh];show(d.sync.1,(0:Int))=d.sync;exact Prod.ext rfl hh.symm
   ·rw[fC hh]; rfl
  rw[hrun,e];simp(maxSteps:=3000000)(disch:=omega)only[push_cast,seval];exact⟨rfl,_,hw2,ht1.trans ht2⟩
 have htn:t<nch sz b.length:=by omega
 have hlt0:=(gX hz).1 htn;have hlt:(0:Int)<(b.drop (sz*t)).length:=by omega
 rw[vF htn,List.cons_append] at hrun;have hck:chunk sz b t=pad sz ((b.drop (sz*t)).take sz):=rfl;have hd2:b.drop (sz*(t+1))=(b.drop (sz*t)).drop sz:=by rw[List.drop_drop,Nat.mul_succ]
 have hxt:x+t≤300000:=by omega
 obtain⟨X,hX⟩ : ∃X,X=x+t:=⟨_,rfl⟩;rw[←hX] at hrun hxt ⊢;generalize b.drop (sz*t)=B at *;have hB0:B[0]? =some (B[0]'(by omega)):=List.getElem?_eq_getElem _;obtain⟨g,o,c,e0,hx0⟩:=h1.at_ hB0;clear hB0 hx0;injection e0 with q1 q2 q3;subst q1 q3;clear q2;obtain⟨m,hm⟩ : ∃m,m=min B.length sz:=⟨_,rfl⟩;have htk:B.take sz=B.take m:=by
  rcases Nat.le_total B.length sz with hh | hh
  ·rw[show m=B.length by omega,List.take_of_length_le hh,List.take_of_length_le (Nat.le_refl _)]
  ·rw[show m=sz by omega]
 have hdp:B.drop sz=B.drop m:=by
  rcases Nat.le_total B.length sz with hh | hh
  ·rw[show m=B.length by omega,List.drop_of_length_le hh,List.drop_of_length_le (Nat.le_refl _)]
  ·rw[show m=sz by omega]
 rw[htk] at hck;rw[hdp] at hd2;have hml:(B.take m).length=m:=by rw[List.length_take]; omega
 have hdr:=nA h1.1 (l:=m) (by omega) hvc;have hB1:=h1.1;obtain⟨_,_,e0,hli⟩:=h1.1;injection e0 with q1 q2 q3;obtain⟨gg,oo,e1,hlies,hgF⟩:=hli (by intro e; rw[e] at hlt; simp at hlt);rw[←q1] at e1;simp only[Option.some.injEq,Addr.mk.injEq,and_true] at e1;obtain⟨rfl,rfl⟩:=e1;clear q1 q2 q3 hli;have hglt:=hlies.lt (by omega);have hnew:Blk (w1.alloc (.cells (List.replicate sz (Value.int .u8 0)).toArray 5 (0,0))) w1.heap.size (List.replicate sz (Value.int .u8 0)) 5:=Blk.new;have hal:Upd (fun _=>False) w1 (w1.alloc (.cells (List.replicate sz (Value.int .u8 0)).toArray 5 (0,0))):=Upd.alloc;have hcp:=iM (P:=Tryz.prog) (t2:=55) (ty:=3) cG bJ hnew (o:=0) (dl:=sz) (dc:=sz) (b:=g) (so:=o) (sl:=B.length) (sc:=vc) (cs:=by8 (B.take m)) (by rw[aQ,hml,hm]) (fun j hj=>by
  rw[aQ,hml] at hj;rw[(hlies.upd hal hglt (fun h=>h)) j (by rw[aQ]; omega),by8,by8,List.getElem?_map,List.getElem?_map,List.getElem?_take_of_lt hj]) (by rw[aQ,hml,List.length_replicate]; omega) dD
 have e:(List.replicate sz (Value.int IntKind.u8 0)).take 0 ++ by8 (B.take m) ++ (List.replicate sz (Value.int IntKind.u8 0)).drop (0+(by8 (B.take m)).length)=by8 (chunk sz b t):=by
  rw[hck,List.take_zero,List.nil_append,List.drop_replicate,aQ,Nat.zero_add,pad,cH];simp[by8]
 have hset:Blk ((w1.alloc (.cells (List.replicate sz (Value.int .u8 0)).toArray 5 (0,0))).setRow w1.heap.size (by8 (chunk sz b t)).toArray) w1.heap.size (by8 (chunk sz b t)) 5:=hnew.setRow;have huw:Upd (fun _=>False) w1 ((w1.alloc (.cells (List.replicate sz (Value.int .u8 0)).toArray 5 (0,0))).setRow w1.heap.size (by8 (chunk sz b t)).toArray):=hal.trans (Upd.setRow (F:=fun b=>b=w1.heap.size) rfl) (fun b h1 h2=>by omega);have hcl:=nI (sz:=sz) (i:=t) (b:=b);rw[e,aQ,hml] at hcp;generalize chunk sz b t=ck at *;clear hck htk e;have hmB:(m:Int)≤(B.length:Int):=by omega
 have hsl : ∀w':World,slcS Tryz.prog 55 (.slice (some ⟨g,o,none⟩) B.length vc) (some (.int .i64 (m:Int))) none w'=some (.slice (some ⟨g,if vc=m then o else o+m,none⟩) (B.length-m) (vc-m),w'):=fun w'=>by
  have:=qC (P:=Tryz.prog) (t:=55) (w:=w') (b:=g) (o:=o) (n:=B.length) (c:=vc) (k:=.i64) (l:=(m:Int)) (by omega) hmB;rw[cG] at this;simp only[orK,bJ,Int.toNat_natCast,Nat.mul_one] at this;exact this
 simp(maxSteps:=3000000)(disch:=omega)only[push_cast,seval,hlt,hb1.cell];refine Ok.use (bP hd1) ?_;rintro u w2 ⟨rfl,rfl⟩;rw[hsz];generalize (w1.alloc (.cells (List.replicate sz (Value.int .u8 0)).toArray 5 (0,0))).setRow w1.heap.size (by8 ck).toArray=w2 at *;have hw2:=hw1.quiet huw;obtain⟨sa2,sc2,hb2,_⟩:=hw2.at_;simp(maxSteps:=3000000)(disch:=omega)only[push_cast,seval,hcp,hsl,hb2.cell];have hD : ¬D1 w1.heap.size:=fun hd=>by have:=hd1.bd _ hd; omega
 have hsk:SlB w2 D1 (.slice (some ⟨w1.heap.size,0,none⟩) sz sz) ck:=by
  have:=cX hset (c:=sz) hD;rw[hcl] at this;exact this
 refine Ok.use (qG hw2.disk (by rw[show(d,s.2).1=d from rfl,hsz]; exact hz) (by have:=hs1.few; show d.cache.length<_; omega) hs1.cnt (X:Int) hsk) ?_;rintro u w3 ⟨rfl,hd3,hu3⟩;have ht3:JT w2 w3 D1 (gr D1 w2 w3) cb:=⟨fun b hb=>hb,fun b hb=>.inl hb,hu3.mono fun b _ hb=>.inl hb⟩;have hw3:=hw2.disked hd3 ht3 hu3;have hs3:=hs1.write (X:Int) ck;have hcode:=rP (d:=d) (x:=(X:Int)) (l:=ck);obtain⟨sa3,sc3,hb3,_⟩:=hw3.at_;have ht:=(ht1.trans (JT.quiet huw)).trans ht3;have hsl3:=(JT.quiet huw).slc hw1.jj hdr;have hsl4:=ht3.slc hw1.jj hsl3;have hop:d.op (some (X,ck))=d.write (X:Int) ck:=rfl;have hR:(d,s.2).1.write (X:Int) ck=d.write (X:Int) ck:=rfl;rw[hR] at hw3 ⊢;clear hR;by_cases hc0:(d.write (X:Int) ck).2=0
 ·rw[fB (by rw[hop]; exact hc0),hop] at hrun;generalize d.write (X:Int) ck=r at *;obtain⟨d',code⟩:=r;dsimp only at hc0 hw3 hb3 hs3 hrun ⊢;subst hc0;simp(maxSteps:=3000000)(disch:=omega)only[push_cast,seval,hb3.cell];refine⟨k-1,by omega,t+1,_,d',_,by omega,by rw[show(x:Int)+((t+1:Nat):Int)=(X:Int)+1 by omega],?_,hw3,ht,?_,hrun⟩
  ·rw[hd2]; exact hsl4
  ·rw[←Nat.add_assoc]; exact hs3
 ·rw[fC (by rw[hop]; exact hc0),hop] at hrun;rw[hrun];generalize d.write (X:Int) ck=r at *;obtain⟨d',code⟩:=r;dsimp only at hc0 hw3 hb3 hs3 ⊢;simp(maxSteps:=3000000)(disch:=omega)only[push_cast,seval,hb3.cell];exact⟨rfl,_,hw3,ht⟩
end Go.Proofs.YtpgigkceoolgeaaGreatDoor.Fd
