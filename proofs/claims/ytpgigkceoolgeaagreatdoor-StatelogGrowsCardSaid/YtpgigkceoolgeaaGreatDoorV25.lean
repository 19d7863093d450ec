import Derived.Test.YtpgigkceoolgeaaGreatDoorV24
set_option linter.all false
namespace Go.Proofs.YtpgigkceoolgeaaGreatDoor.Fd
open Go
set_option maxRecDepth 100000
inductive Rec where
 | ext (l:List Cmd)
 | reb (b:Bas)
 | liv (n:Nat)
def encRc:Rec→List Int
 | .ext l=>encU 1 ++ encL l
 | .reb b=>encU 2 ++ encBs b
 | .liv n=>encU 3 ++ encU n
def applyR (n:Con):Rec→Con
 | .ext l=>joinN n l
 | .reb b=>rebN n b
 | .liv k=>{n with life:=max n.life k}
def RecW:Rec→Prop
 | .ext l=>(∀x,x∈l→CmdS x)∧SrtC l∧l.length≤500000
 | .reb b=>BasW b∧(∀x,x∈b.taken→CmdS x)∧SrtC b.taken∧b.taken.length≤500000∧b.steps.length≤1000000∧(confB b).length≤1000000000
 | .liv k=>k≤4611686018427387904
theorem jF {r:Rec}(h:RecW r):Rng (encRc r):=by
 cases r with
 | ext l=>exact(aZ _).append ((aZ _).append (bZ fun x hx=>bO (bI (h.1 x hx).1)))
 | reb b=>exact(aZ _).append (rY h.1)
 | liv k=>exact(aZ _).append (aZ _)
def FN (F:Nat→Prop)(w:World)(b:Nat):Prop:=(F b∧Old w b)∨w.heap.size≤b
theorem FN.in_ {F:Nat→Prop}{w w':World}{n:Con}{cs:List Value}(h:eN.C w F n cs)(hu:Upd NoB w w'):eN.C w' (FN F w) n cs:=aJ.go h hu fun b hb h=>h.elim (fun h=>h.elim) fun h=>h.elim (fun h=>h.1) fun h=>by omega
theorem FN.go {F G:Nat→Prop}{w w1 w2:World}{n:Con}{cs:List Value}(h:eN.C w1 (FN F w) n cs)(hu:Upd G w1 w2)(hG : ∀b,G b→w.heap.size≤b):eN.C w2 (FN F w) n cs:=aJ.go h hu fun b _ h=>h.elim (fun h=>.inr (hG b h)) id
theorem XA {w:World}{B E s n:Nat}{v:Value}{xs:List Value}(h:w.ownsRow B E s v n xs){g:Nat}(hg:v.ownBlock=some g) : ∃cs,Blk w g cs E:=by
 obtain⟨h1,⟨h2,_⟩ | ⟨g',cap,cur,hv,hB,hh,r⟩⟩:=h
 ·rw[h2] at hg; cases hg
 ·rw[hv] at hg;simp[Value.ownBlock] at hg;subst hg;exact⟨cur.toList,by unfold Blk; simpa using hh⟩
theorem RdN.blk {N:Nat}{w w':World}{p:Nat}{d:List Int}{at_:Nat}{v:Value}(h:RdN N w p d at_ v){k:Nat}{cs:List Value}{E:TypeId}(hu:Upd (fun b=>b=k) w w')(hk:p≠k)(hb:Blk w k cs E)(hE:E≠5):RdN N w' p d at_ v:=by
 obtain⟨⟨i,r⟩,h2,h3⟩:=h;refine⟨⟨i,r.go hu hk fun g hg e=>?_⟩,h2,h3⟩;obtain⟨cs',hb'⟩:=XA r.own hg;unfold Blk at hb hb';rw[e,hb] at hb';injection hb' with hb';injection hb' with _ hb';exact hE hb'
set_option maxHeartbeats 8000000 in
theorem XB {w:World}{F G:Nat→Prop}{n:Con}{cs:List Value}{y:Value}{r:Rec}(hc:eN.C w F n cs)(hy:SlB w G y (encRc r))(hr:RecW r)(hl:(encRc r).length≤1000000)(h1 : ∀x,x∈n.st→CmdS x)(hl2:n.st.length≤500000)(hs1:n.bas.steps.length≤1000000)(hm1:(confB n.bas).length≤1000000000) :
 Ok (den Tryz.prog 43 #[.agg cs.toArray,y] w) fun u w'=>∃cs',u = .tuple #[.agg cs'.toArray,.bool true]∧eN.C w' (fun b=>F b∧Old w b) (applyR n r) cs'∧Upd NoB w w':=by
 have hrg:=jF hr;obtain⟨xa,xc,sa,sc,ta,tc,rfl,k1,k2,k3⟩:=aQ hc;obtain⟨ya,yc,rfl⟩:=hy.form;refine iF (args:=[.agg #[.slice xa n.st.length xc,.slice sa n.bas.steps.length sc,.slice ta n.bas.taken.length tc,.int .i64 n.life],.slice ya (encRc r).length yc]) 4 90 5 Tryz.func43 rfl mixed (by kernel_rfl) NG rfl ?_;rw[aD];generalize hKs:KS _ _ _ _ _=Ks;simp(disch:=omega)only[push_cast,seval,cQ];have c2:=(Blk.new (w:=w) (cs:=[.slice xa n.st.length xc,.slice sa n.bas.steps.length sc,.slice ta n.bas.taken.length tc,.int .i64 n.life]) (E:=90)).alloc (.cells #[Value.slice none 0 0,Value.slice none 0 0,Value.slice none 0 0,Value.int .i64 0] 90 (0,0));have z2:=Blk.new (w:=w.alloc (.cells #[.slice xa n.st.length xc,.slice sa n.bas.steps.length sc,.slice ta n.bas.taken.length tc,.int .i64 n.life] 90 (0,0))) (cs:=[.slice none 0 0,.slice none 0 0,.slice none 0 0,.int .i64 0]) (E:=90);have u2:Upd NoB w ((w.alloc (.cells #[.slice xa n.st.length xc,.slice sa n.bas.steps.length sc,.slice ta n.bas.taken.length tc,.int .i64 n.life] 90 (0,0))).alloc (.cells #[Value.slice none 0 0,Value.slice none 0 0,Value.slice none 0 0,Value.int .i64 0] 90 (0,0))):=Upd.alloc.alloc';rw[aF] at z2;have g2:=FN.in_ hc u2;have hy2:=hy.go (F':=NoB) u2 fun _ _ h=>(h.elim id id).elim;generalize (w.alloc (.cells #[.slice xa n.st.length xc,.slice sa n.bas.steps.length sc,.slice ta n.bas.taken.length tc,.int .i64 n.life] 90 (0,0))).alloc (.cells #[Value.slice none 0 0,Value.slice none 0 0,Value.slice none 0 0,Value.int .i64 0] 90 (0,0))=w2 at *;have s2:w.heap.size+1<w2.heap.size:=z2.lt;subst hKs;rw[aC];rw[aD];generalize hKs:KS _ _ _ _ _=Ks;simp(disch:=omega)only[push_cast,seval];refine Ok.use (iU hy2 hrg hl) ?_;rintro u w3 ⟨p,v,rfl,r3,hp,u3⟩;have c3:=c2.upd u3 fun h=>h;have z3:=z2.upd u3 fun h=>h;have v3:=u2.trans u3 fun _ _ h=>h;have g3:=FN.go g2 u3 fun _ h=>h.elim;simp(disch:=omega)only[push_cast,seval];subst hKs;rw[aC];have hpw:w.heap.size+1<p:=by omega
 cases r with
 | ext l=>
  have hh:Has (encRc (.ext l)) 0 (encU 1 ++ encL l):=Has.all;have ha:=hh.left;have hb:=hh.right;rw[aD];generalize hKs:KS _ _ _ _ _=Ks;simp(disch:=omega)only[push_cast,seval];refine Ok.use (iS r3 (n:=1) (by decide) ha) ?_;rintro u w4 ⟨rfl,r4,u4⟩;have c4:=c3.upd u4 (by omega);have z4:=z3.upd u4 (by omega);have v4:=v3.trans u4 fun b hb h=>by omega
  have g4:=FN.go g3 u4 fun b h=>by omega
  have cc4:=c4.cell;simp(disch:=omega)only[push_cast,seval,cc4];have hend : ∀(ρ:Env) (w5:World) (cs5:List Value),ρ 2 = .pointer (some ⟨w.heap.size,0,none⟩)→ρ 4 = .pointer (some ⟨w.heap.size+1,0,none⟩)→ρ 6 = .pointer (some ⟨p,0,none⟩)→
   Blk w5 w.heap.size cs5 90→Blk w5 (w.heap.size+1) [.slice none 0 0,.slice none 0 0,.slice none 0 0,.int .i64 0] 90→RdN w3.heap.size w5 p (encRc (.ext l)) (encRc (.ext l)).length v→eN.C w5 (F3 F w) (applyR n (.ext l)) cs5→Upd NoB w w5→
   Ks (.normal,ρ,w5):=by
   intro ρ w5 cs5 e2 e4 e6 k5 z5 r5 g5 v5;have hw5:w.heap.size+1<w5.heap.size:=z5.lt;obtain⟨xa',xc',sa',sc',ta',tc',rfl,j1,j2,j3⟩:=aQ g5;have cc5 : ∀{w':World},Upd NoB w5 w'→∀j,w'.cell? ⟨w.heap.size,j,none⟩ = [Value.slice xa' (applyR n (.ext l)).st.length xc',Value.slice sa' (applyR n (.ext l)).bas.steps.length sc',Value.slice ta' (applyR n (.ext l)).bas.taken.length tc',Value.int .i64 (applyR n (.ext l)).life][j]? :=fun u j=>(k5.upd u fun h=>h).cell j;have hdr:Upd NoB w5 w5.drew:=Upd.drew;subst hKs;simp(maxSteps:=3000000)(disch:=omega)only[push_cast,seval,↓aG,↓aH,e2,e4,e6,cc5 hdr];refine Ok.use (d9 (r5.go hdr fun _ _ h=>h)) ?_;rintro u w6 ⟨rfl,u6'⟩;have u6:Upd NoB w5 w6:=hdr.trans u6' fun _ _ h=>h;have z6:=z5.upd u6 fun h=>h;have z8:=z6.setRow (cs':=[Value.slice xa' (applyR n (.ext l)).st.length xc',Value.slice sa' (applyR n (.ext l)).bas.steps.length sc',Value.slice ta' (applyR n (.ext l)).bas.taken.length tc',Value.int .i64 (applyR n (.ext l)).life]);have g6:=aJ.go (F':=F3 F w) g5 u6 fun b _ h=>h.elim (fun h=>h.elim) id;have v6:=v5.trans u6 fun _ _ h=>h;simp(maxSteps:=3000000)(disch:=omega)only[push_cast,seval,↓aG,↓aH,e2,e4,e6,cc5 hdr,cc5 u6,aO (P:=Tryz.prog) (t:=90) (cs':=[Value.slice xa' (applyR n (.ext l)).st.length xc',Value.slice sa' (applyR n (.ext l)).bas.steps.length sc',Value.slice ta' (applyR n (.ext l)).bas.taken.length tc',Value.int .i64 (applyR n (.ext l)).life]) z6 (by kernel_rfl) rfl (fun u hu=>by simp at hu; rcases hu with rfl | rfl | rfl | rfl <;> rfl),aI (P:=Tryz.prog) (t:=90) z8 (by kernel_rfl) (by kernel_rfl)];have u8:Upd (fun b=>b=w.heap.size+1) w6 (w6.setRow (w.heap.size+1) #[Value.slice xa' (applyR n (.ext l)).st.length xc',Value.slice sa' (applyR n (.ext l)).bas.steps.length sc',Value.slice ta' (applyR n (.ext l)).bas.taken.length tc',Value.int .i64 (applyR n (.ext l)).life]):=Upd.setRow rfl;exact⟨_,rfl,aJ.go g6 u8 fun b hb h=>h.elim (fun h=>.inr (.inr (.inl h))) .inl,v6.trans u8 fun b hb h=>by omega⟩
  have hdr:Upd NoB w4 w4.drew:=Upd.drew;have ccd:=fun j=>(c4.upd hdr fun h=>h).cell j;refine Ok.use (lJ (r4.go hdr fun _ _ h=>h) (fun x hx=>(hr.1 x hx).1) hr.2.1 hb) ?_;rintro u w5 ⟨q5,r5,u5'⟩;have u5:Upd (fun b=>b=p) w4 w5:=Upd.drew.trans u5' fun _ _ h=>h;have c5:=c4.upd u5 (by omega);have z5:=z4.upd u5 (by omega);have v5:=v4.trans u5 fun b hb h=>by omega
  have g5:=FN.go g4 u5 fun b h=>by omega
  have cc5:=c5.cell;have g5':eN.C w5 (F3 F w) n _:=aJ.go g5 (Upd.refl (F:=NoB)) fun b _ h=>h.elim (fun h=>h.elim) fun h=>by
   rcases h with h | h | h | h
   ·exact .inl h
   all_goals exact .inr (by omega)
  have hs5:p<w5.heap.size:=Nat.lt_of_lt_of_le r3.fp (Nat.le_trans u4.size u5.size);simp(maxSteps:=3000000)(disch:=omega)only[push_cast,seval,↓aG,↓aH,cc5,ccd];refine Ok.use (mD g5' (q5.slD aA) h1 hr.1 (by have:=hr.2.2; omega)) ?_;rintro u w6 ⟨cs6,rfl,g6,u6⟩;have k6c:=aJ.len g6;have es:eN.s=4:=rfl;rw[es] at k6c;have c6:=c5.upd u6 fun h=>h;have z6:=z5.upd u6 fun h=>h;have cc6:=c6.cell;have v6:=v5.trans u6 fun _ _ h=>h;have r6:=r5.go u6 fun _ _ h=>h;have g6':eN.C w6 (F3 F w) (joinN n l) cs6:=aJ.go g6 (Upd.refl (F:=NoB)) fun b _ h=>h.elim (fun h=>h.elim) fun h=>by
   rcases h with h | h | h | h
   ·exact⟨.inl h,Nat.lt_of_lt_of_le h.2 v5.size⟩
   ·exact⟨.inr (.inl h),by show b<w5.heap.size; omega⟩
   ·exact⟨.inr (.inr (.inl h)),by show b<w5.heap.size; omega⟩
   ·exact⟨.inr (.inr (.inr h)),by show b<w5.heap.size; omega⟩
  have u7:Upd (fun b=>b=w.heap.size) w6 (w6.setRow w.heap.size cs6.toArray):=Upd.setRow rfl;simp(maxSteps:=3000000)(disch:=omega)only[push_cast,seval,↓aG,↓aH,cc5,ccd,cc6,aO (P:=Tryz.prog) (t:=90) (cs':=cs6) c6 (by rw[k6c]; kernel_rfl) (by rw[k6c]; rfl) (aJ.one g6')];exact hend _ _ _ rfl rfl rfl (c6.setRow (cs':=cs6)) (z6.upd u7 (by omega)) (by
   have:=r6.blk u7 (by omega) c6 (by decide);rwa [Nat.zero_add,←List.length_append] at this) (aJ.go g6' u7 fun b _ h=>h.elim (fun h=>.inr (.inl h)) id) (v6.trans u7 fun b hb h=>by omega)
 | reb b=>
  have hh:Has (encRc (.reb b)) 0 (encU 2 ++ encBs b):=Has.all;have ha:=hh.left;have hb:=hh.right;rw[aD];generalize hKs:KS _ _ _ _ _=Ks;simp(disch:=omega)only[push_cast,seval];refine Ok.use (iS r3 (n:=2) (by decide) ha) ?_;rintro u w4 ⟨rfl,r4,u4⟩;have c4:=c3.upd u4 (by omega);have z4:=z3.upd u4 (by omega);have v4:=v3.trans u4 fun b hb h=>by omega
  have g4:=FN.go g3 u4 fun b h=>by omega
  have cc4:=c4.cell;simp(disch:=omega)only[push_cast,seval,cc4];have hend : ∀(ρ:Env) (w5:World) (cs5:List Value),ρ 2 = .pointer (some ⟨w.heap.size,0,none⟩)→ρ 4 = .pointer (some ⟨w.heap.size+1,0,none⟩)→ρ 6 = .pointer (some ⟨p,0,none⟩)→
   Blk w5 w.heap.size cs5 90→Blk w5 (w.heap.size+1) [.slice none 0 0,.slice none 0 0,.slice none 0 0,.int .i64 0] 90→RdN w3.heap.size w5 p (encRc (.reb b)) (encRc (.reb b)).length v→eN.C w5 (F3 F w) (applyR n (.reb b)) cs5→Upd NoB w w5→
   Ks (.normal,ρ,w5):=by
   intro ρ w5 cs5 e2 e4 e6 k5 z5 r5 g5 v5;have hw5:w.heap.size+1<w5.heap.size:=z5.lt;obtain⟨xa',xc',sa',sc',ta',tc',rfl,j1,j2,j3⟩:=aQ g5;have cc5 : ∀{w':World},Upd NoB w5 w'→∀j,w'.cell? ⟨w.heap.size,j,none⟩ = [Value.slice xa' (applyR n (.reb b)).st.length xc',Value.slice sa' (applyR n (.reb b)).bas.steps.length sc',Value.slice ta' (applyR n (.reb b)).bas.taken.length tc',Value.int .i64 (applyR n (.reb b)).life][j]? :=fun u j=>(k5.upd u fun h=>h).cell j;have hdr:Upd NoB w5 w5.drew:=Upd.drew;subst hKs;simp(maxSteps:=3000000)(disch:=omega)only[push_cast,seval,↓aG,↓aH,e2,e4,e6,cc5 hdr];refine Ok.use (d9 (r5.go hdr fun _ _ h=>h)) ?_;rintro u w6 ⟨rfl,u6'⟩;have u6:Upd NoB w5 w6:=hdr.trans u6' fun _ _ h=>h;have z6:=z5.upd u6 fun h=>h;have z8:=z6.setRow (cs':=[Value.slice xa' (applyR n (.reb b)).st.length xc',Value.slice sa' (applyR n (.reb b)).bas.steps.length sc',Value.slice ta' (applyR n (.reb b)).bas.taken.length tc',Value.int .i64 (applyR n (.reb b)).life]);have g6:=aJ.go (F':=F3 F w) g5 u6 fun b _ h=>h.elim (fun h=>h.elim) id;have v6:=v5.trans u6 fun _ _ h=>h;simp(maxSteps:=3000000)(disch:=omega)only[push_cast,seval,↓aG,↓aH,e2,e4,e6,cc5 hdr,cc5 u6,aO (P:=Tryz.prog) (t:=90) (cs':=[Value.slice xa' (applyR n (.reb b)).st.length xc',Value.slice sa' (applyR n (.reb b)).bas.steps.length sc',Value.slice ta' (applyR n (.reb b)).bas.taken.length tc',Value.int .i64 (applyR n (.reb b)).life]) z6 (by kernel_rfl) rfl (fun u hu=>by simp at hu; rcases hu with rfl | rfl | rfl | rfl <;> rfl),aI (P:=Tryz.prog) (t:=90) z8 (by kernel_rfl) (by kernel_rfl)];have u8:Upd (fun b=>b=w.heap.size+1) w6 (w6.setRow (w.heap.size+1) #[Value.slice xa' (applyR n (.reb b)).st.length xc',Value.slice sa' (applyR n (.reb b)).bas.steps.length sc',Value.slice ta' (applyR n (.reb b)).bas.taken.length tc',Value.int .i64 (applyR n (.reb b)).life]):=Upd.setRow rfl;exact⟨_,rfl,aJ.go g6 u8 fun b hb h=>h.elim (fun h=>.inr (.inr (.inl h))) .inl,v6.trans u8 fun b hb h=>by omega⟩
  have hdr:Upd NoB w4 w4.drew:=Upd.drew;have ccd:=fun j=>(c4.upd hdr fun h=>h).cell j;refine Ok.use (rX (r4.go hdr fun _ _ h=>h) hr.1 hr.2.2.1 hb) ?_;rintro u w5 ⟨bs,rfl,q5,r5,u5'⟩;have u5:Upd (fun b=>b=p) w4 w5:=Upd.drew.trans u5' fun _ _ h=>h;have c5:=c4.upd u5 (by omega);have z5:=z4.upd u5 (by omega);have v5:=v4.trans u5 fun b hb h=>by omega
  have g5:=FN.go g4 u5 fun b h=>by omega
  have cc5:=c5.cell;have g5':eN.C w5 (F3 F w) n _:=aJ.go g5 (Upd.refl (F:=NoB)) fun b _ h=>h.elim (fun h=>h.elim) fun h=>by
   rcases h with h | h | h | h
   ·exact .inl h
   all_goals exact .inr (by omega)
  have hs5:p<w5.heap.size:=Nat.lt_of_lt_of_le r3.fp (Nat.le_trans u4.size u5.size);simp(maxSteps:=3000000)(disch:=omega)only[push_cast,seval,↓aG,↓aH,cc5,ccd];refine Ok.use (tE g5' (aP.go (F':=F3 F w) q5 (Upd.refl (F:=NoB)) fun b _ h=>h.elim (fun h=>h.elim) fun h=>by
   have:=r3.fp;have:=u4.size;show b<w4.heap.size;rcases h with h | h | h | h
   ·exact Nat.lt_of_lt_of_le h.2 v4.size
   all_goals omega) h1 hr.2.1 (by have:=hr.2.2.2.1; omega) hs1 hr.2.2.2.2.1 hm1 hr.2.2.2.2.2) ?_
  rintro u w6 ⟨cs6,rfl,g6,u6⟩;have k6c:=aJ.len g6;have es:eN.s=4:=rfl;rw[es] at k6c;have c6:=c5.upd u6 fun h=>h;have z6:=z5.upd u6 fun h=>h;have cc6:=c6.cell;have v6:=v5.trans u6 fun _ _ h=>h;have r6:=r5.go u6 fun _ _ h=>h;have g6':eN.C w6 (F3 F w) (rebN n b) cs6:=aJ.go g6 (Upd.refl (F:=NoB)) fun b _ h=>h.elim (fun h=>h.elim) fun h=>by
   rcases h with h | h | h | h
   ·exact⟨.inl h,Nat.lt_of_lt_of_le h.2 v5.size⟩
   ·exact⟨.inr (.inl h),by show b<w5.heap.size; omega⟩
   ·exact⟨.inr (.inr (.inl h)),by show b<w5.heap.size; omega⟩
   ·exact⟨.inr (.inr (.inr h)),by show b<w5.heap.size; omega⟩
  have u7:Upd (fun b=>b=w.heap.size) w6 (w6.setRow w.heap.size cs6.toArray):=Upd.setRow rfl;simp(maxSteps:=3000000)(disch:=omega)only[push_cast,seval,↓aG,↓aH,cc5,ccd,cc6,aO (P:=Tryz.prog) (t:=90) (cs':=cs6) c6 (by rw[k6c]; kernel_rfl) (by rw[k6c]; rfl) (aJ.one g6')];exact hend _ _ _ rfl rfl rfl (c6.setRow (cs':=cs6)) (z6.upd u7 (by omega)) (by
   have:=r6.blk u7 (by omega) c6 (by decide);rwa [Nat.zero_add,←List.length_append] at this) (aJ.go g6' u7 fun b _ h=>h.elim (fun h=>.inr (.inl h)) id) (v6.trans u7 fun b hb h=>by omega)
 | liv k=>
  have hh:Has (encRc (.liv k)) 0 (encU 3 ++ encU k):=Has.all;have ha:=hh.left;have hb:=hh.right;rw[aD];generalize hKs:KS _ _ _ _ _=Ks;simp(disch:=omega)only[push_cast,seval];refine Ok.use (iS r3 (n:=3) (by decide) ha) ?_;rintro u w4 ⟨rfl,r4,u4⟩;have c4:=c3.upd u4 (by omega);have z4:=z3.upd u4 (by omega);have v4:=v3.trans u4 fun b hb h=>by omega
  have g4:=FN.go g3 u4 fun b h=>by omega
  have cc4:=c4.cell;simp(disch:=omega)only[push_cast,seval,cc4];have hend : ∀(ρ:Env) (w5:World) (cs5:List Value),ρ 2 = .pointer (some ⟨w.heap.size,0,none⟩)→ρ 4 = .pointer (some ⟨w.heap.size+1,0,none⟩)→ρ 6 = .pointer (some ⟨p,0,none⟩)→
   Blk w5 w.heap.size cs5 90→Blk w5 (w.heap.size+1) [.slice none 0 0,.slice none 0 0,.slice none 0 0,.int .i64 0] 90→RdN w3.heap.size w5 p (encRc (.liv k)) (encRc (.liv k)).length v→eN.C w5 (F3 F w) (applyR n (.liv k)) cs5→Upd NoB w w5→
   Ks (.normal,ρ,w5):=by
   intro ρ w5 cs5 e2 e4 e6 k5 z5 r5 g5 v5;have hw5:w.heap.size+1<w5.heap.size:=z5.lt;obtain⟨xa',xc',sa',sc',ta',tc',rfl,j1,j2,j3⟩:=aQ g5;have cc5 : ∀{w':World},Upd NoB w5 w'→∀j,w'.cell? ⟨w.heap.size,j,none⟩ = [Value.slice xa' (applyR n (.liv k)).st.length xc',Value.slice sa' (applyR n (.liv k)).bas.steps.length sc',Value.slice ta' (applyR n (.liv k)).bas.taken.length tc',Value.int .i64 (applyR n (.liv k)).life][j]? :=fun u j=>(k5.upd u fun h=>h).cell j;have hdr:Upd NoB w5 w5.drew:=Upd.drew;subst hKs;simp(maxSteps:=3000000)(disch:=omega)only[push_cast,seval,↓aG,↓aH,e2,e4,e6,cc5 hdr];refine Ok.use (d9 (r5.go hdr fun _ _ h=>h)) ?_;rintro u w6 ⟨rfl,u6'⟩;have u6:Upd NoB w5 w6:=hdr.trans u6' fun _ _ h=>h;have z6:=z5.upd u6 fun h=>h;have z8:=z6.setRow (cs':=[Value.slice xa' (applyR n (.liv k)).st.length xc',Value.slice sa' (applyR n (.liv k)).bas.steps.length sc',Value.slice ta' (applyR n (.liv k)).bas.taken.length tc',Value.int .i64 (applyR n (.liv k)).life]);have g6:=aJ.go (F':=F3 F w) g5 u6 fun b _ h=>h.elim (fun h=>h.elim) id;have v6:=v5.trans u6 fun _ _ h=>h;simp(maxSteps:=3000000)(disch:=omega)only[push_cast,seval,↓aG,↓aH,e2,e4,e6,cc5 hdr,cc5 u6,aO (P:=Tryz.prog) (t:=90) (cs':=[Value.slice xa' (applyR n (.liv k)).st.length xc',Value.slice sa' (applyR n (.liv k)).bas.steps.length sc',Value.slice ta' (applyR n (.liv k)).bas.taken.length tc',Value.int .i64 (applyR n (.liv k)).life]) z6 (by kernel_rfl) rfl (fun u hu=>by simp at hu; rcases hu with rfl | rfl | rfl | rfl <;> rfl),aI (P:=Tryz.prog) (t:=90) z8 (by kernel_rfl) (by kernel_rfl)];have u8:Upd (fun b=>b=w.heap.size+1) w6 (w6.setRow (w.heap.size+1) #[Value.slice xa' (applyR n (.liv k)).st.length xc',Value.slice sa' (applyR n (.liv k)).bas.steps.length sc',Value.slice ta' (applyR n (.liv k)).bas.taken.length tc',Value.int .i64 (applyR n (.liv k)).life]):=Upd.setRow rfl;exact⟨_,rfl,aJ.go g6 u8 fun b hb h=>h.elim (fun h=>.inr (.inr (.inl h))) .inl,v6.trans u8 fun b hb h=>by omega⟩
  have hdr:Upd NoB w4 w4.drew:=Upd.drew;have ccd:=fun j=>(c4.upd hdr fun h=>h).cell j;refine Ok.use (rU (r4.go hdr fun _ _ h=>h) hr hb) ?_;rintro u w5 ⟨rfl,r5,u5'⟩;have u5:Upd (fun b=>b=p) w4 w5:=Upd.drew.trans u5' fun _ _ h=>h;have c5:=c4.upd u5 (by omega);have z5:=z4.upd u5 (by omega);have v5:=v4.trans u5 fun b hb h=>by omega
  have g5:=FN.go g4 u5 fun b h=>by omega
  have cc5:=c5.cell;have g5':eN.C w5 (F3 F w) n _:=aJ.go g5 (Upd.refl (F:=NoB)) fun b _ h=>h.elim (fun h=>h.elim) fun h=>by
   rcases h with h | h | h | h
   ·exact .inl h
   all_goals exact .inr (by omega)
  have hs5:p<w5.heap.size:=Nat.lt_of_lt_of_le r3.fp (Nat.le_trans u4.size u5.size);have c7:=c5.set 3 (.int .i64 (max n.life (k:Int)));have u7:Upd (fun b=>b=w.heap.size) w5 (w5.setCell ⟨w.heap.size,3,none⟩ (.int .i64 (max n.life (k:Int)))):=Upd.set (F:=fun b=>b=w.heap.size) rfl;simp(maxSteps:=3000000)(disch:=omega)only[push_cast,seval,↓aG,↓aH,cc5,ccd,c5.free];obtain⟨_,_,_,_,_,_,i1,i2,i3,i4⟩:=aQ (aJ.go g5' u7 fun b _ h=>h.elim (fun h=>.inr (.inl h)) id);injection i1 with i5 i1;injection i1 with i6 i1;injection i1 with i7 i8;rw[←i5] at i2;rw[←i6,←i7] at i3;have hr':k≤4611686018427387904:=hr;have hw:=i4.2.2;exact hend _ _ _ rfl rfl rfl c7 (z5.upd u7 (by omega)) (by
   have:=r5.blk u7 (by omega) c5 (by decide);rwa [Nat.zero_add,←List.length_append] at this) ⟨_,_,_,rfl,i2,i3,⟨i4.1,i4.2.1,by show 0≤max n.life (k:Int); omega,by show max n.life (k:Int)≤_; omega⟩⟩ (v5.trans u7 fun b hb h=>by omega)
open Go
set_option maxRecDepth 100000
end Go.Proofs.YtpgigkceoolgeaaGreatDoor.Fd
