import Derived.Test.YtpgigkceoolgeaaGreatDoorS024
set_option linter.all false
namespace Go.Proofs.YtpgigkceoolgeaaGreatDoor.Fd
open Go
set_option maxRecDepth 100000
inductive Rec where
 | ext (l:List Cmd)
 | reb (b:Bas)
 | liv (n:Nat)
def encRc:Rec→List Int
 | .ext l=>encU 1 ++ encL l
 | .reb b=>encU 2 ++ encBs b
 | .liv n=>encU 3 ++ encU n
def applyR (n:Con):Rec→Con
 | .ext l=>joinN n l
 | .reb b=>rebN n b
 | .liv k=>{n with life:=max n.life k}
def RecW:Rec→Prop
 | .ext l=>(∀x,x∈l→CmdS x)∧SrtC l∧l.length≤500000
 | .reb b=>BasW b∧(∀x,x∈b.taken→CmdS x)∧SrtC b.taken∧b.taken.length≤500000∧b.steps.length≤1000000∧(confB b).length≤1000000000
 | .liv k=>k≤4611686018427387904
theorem jQ {r:Rec}(h:RecW r):Rng (encRc r):=by
 cases r with
 | ext l=>exact(bC _).append ((bC _).append (cI fun x hx=>bR (bI (h.1 x hx).1)))
 | reb b=>exact(bC _).append (tI h.1)
 | liv k=>exact(bC _).append (bC _)
def FN (F:Nat→Prop)(w:World)(b:Nat):Prop:=(F b∧Old w b)∨w.heap.size≤b
theorem FN.in_ {F:Nat→Prop}{w w':World}{n:Con}{cs:List Value}(h:eN.C w F n cs)(hu:Upd NoB w w'):eN.C w' (FN F w) n cs:=aH.go h hu fun b hb h=>h.elim (fun h=>h.elim) fun h=>h.elim (fun h=>h.1) fun h=>by omega
theorem FN.go {F G:Nat→Prop}{w w1 w2:World}{n:Con}{cs:List Value}(h:eN.C w1 (FN F w) n cs)(hu:Upd G w1 w2)(hG : ∀b,G b→w.heap.size≤b):eN.C w2 (FN F w) n cs:=aH.go h hu fun b _ h=>h.elim (fun h=>.inr (hG b h)) id
theorem Z9 {w:World}{B E s n:Nat}{v:Value}{xs:List Value}(h:w.ownsRow B E s v n xs){g:Nat}(hg:v.ownBlock=some g) : ∃cs,Blk w g cs E:=by
 obtain⟨h1,⟨h2,_⟩ | ⟨g',cap,cur,hv,hB,hh,r⟩⟩:=h
 ·rw[h2] at hg; cases hg
 ·rw[hv] at hg;simp[Value.ownBlock] at hg;subst hg;exact⟨cur.toList,by unfold Blk; simpa using hh⟩
theorem RdN.blk {N:Nat}{w w':World}{p:Nat}{d:List Int}{at_:Nat}{v:Value}(h:RdN N w p d at_ v){k:Nat}{cs:List Value}{E:TypeId}(hu:Upd (fun b=>b=k) w w')(hk:p≠k)(hb:Blk w k cs E)(hE:E≠5):RdN N w' p d at_ v:=by
 obtain⟨⟨i,r⟩,h2,h3⟩:=h;refine⟨⟨i,r.go hu hk fun g hg e=>?_⟩,h2,h3⟩;obtain⟨cs',hb'⟩:=Z9 r.own hg;unfold Blk at hb hb';rw[e,hb] at hb';injection hb' with hb';injection hb' with _ hb';exact hE hb'
set_option maxHeartbeats 8000000 in
theorem aAA {w:World}{F G:Nat→Prop}{n:Con}{cs:List Value}{y:Value}{r:Rec}(hc:eN.C w F n cs)(hy:SlB w G y (encRc r))(hr:RecW r)(hl:(encRc r).length≤1000000)(h1 : ∀x,x∈n.st→CmdS x)(hl2:n.st.length≤500000)(hs1:n.bas.steps.length≤1000000)(hm1:(confB n.bas).length≤1000000000) :
 Ok (den Tryz.prog 43 #[.agg cs.toArray,y] w) fun u w'=>∃cs',u = .tuple #[.agg cs'.toArray,.bool true]∧eN.C w' (fun b=>F b∧Old w b) (applyR n r) cs'∧Upd NoB w w':=by
 have hrg:=jQ hr;obtain⟨xa,xc,sa,sc,ta,tc,rfl,k1,k2,k3⟩:=aO hc;obtain⟨ya,yc,rfl⟩:=hy.form;refine iP (args:=[.agg #[.slice xa n.st.length xc,.slice sa n.bas.steps.length sc,.slice ta n.bas.taken.length tc,.int .i64 n.life],.slice ya (encRc r).length yc]) 4 90 5 Tryz.func43 rfl mixed (by kernel_rfl) PU rfl ?_;rw[aD];generalize hKs:KS _ _ _ _ _=Ks;simp(disch:=omega)only[push_cast,seval,dA];have c2:=(Blk.new (w:=w) (cs:=[.slice xa n.st.length xc,.slice sa n.bas.steps.length sc,.slice ta n.bas.taken.length tc,.int .i64 n.life]) (E:=90)).alloc (.cells #[Value.slice none 0 0,Value.slice none 0 0,Value.slice none 0 0,Value.int .i64 0] 90 (0,0));have z2:=Blk.new (w:=w.alloc (.cells #[.slice xa n.st.length xc,.slice sa n.bas.steps.length sc,.slice ta n.bas.taken.length tc,.int .i64 n.life] 90 (0,0))) (cs:=[.slice none 0 0,.slice none 0 0,.slice none 0 0,.int .i64 0]) (E:=90);have u2:Upd NoB w ((w.alloc (.cells #[.slice xa n.st.length xc,.slice sa n.bas.steps.length sc,.slice ta n.bas.taken.length tc,.int .i64 n.life] 90 (0,0))).alloc (.cells #[Value.slice none 0 0,Value.slice none 0 0,Value.slice none 0 0,Value.int .i64 0] 90 (0,0))):=Upd.alloc.alloc';rw[aI] at z2;have g2:=FN.in_ hc u2;have hy2:=hy.go (F':=NoB) u2 fun _ _ h=>(h.elim id id).elim;generalize (w.alloc (.cells #[.slice xa n.st.length xc,.slice sa n.bas.steps.length sc,.slice ta n.bas.taken.length tc,.int .i64 n.life] 90 (0,0))).alloc (.cells #[Value.slice none 0 0,Value.slice none 0 0,Value.slice none 0 0,Value.int .i64 0] 90 (0,0))=w2 at *;have s2:w.heap.size+1<w2.heap.size:=z2.lt;subst hKs;rw[aC];rw[aD];generalize hKs:KS _ _ _ _ _=Ks;simp(disch:=omega)only[push_cast,seval];refine Ok.use (jB hy2 hrg hl) ?_;rintro u w3 ⟨p,v,rfl,r3,hp,u3⟩;have c3:=c2.upd u3 fun h=>h;have z3:=z2.upd u3 fun h=>h;have v3:=u2.trans u3 fun _ _ h=>h;have g3:=FN.go g2 u3 fun _ h=>h.elim;simp(disch:=omega)only[push_cast,seval];subst hKs;rw[aC];have hpw:w.heap.size+1<p:=by omega
 cases r with
 | ext l=>
  have hh:Has (encRc (.ext l)) 0 (encU 1 ++ encL l):=Has.all;have ha:=hh.left;have hb:=hh.right;rw[aD];generalize hKs:KS _ _ _ _ _=Ks;simp(disch:=omega)only[push_cast,seval];refine Ok.use (i9 r3 (n:=1) (by decide) ha) ?_;rintro u w4 ⟨rfl,r4,u4⟩;have c4:=c3.upd u4 (by omega);have z4:=z3.upd u4 (by omega);have v4:=v3.trans u4 fun b hb h=>by omega
  have g4:=FN.go g3 u4 fun b h=>by omega
  have cc4:=c4.cell;simp(disch:=omega)only[push_cast,seval,cc4];have hend : ∀(ρ:Env) (w5:World) (cs5:List Value),ρ 2 = .pointer (some ⟨w.heap.size,0,none⟩)→ρ 4 = .pointer (some ⟨w.heap.size+1,0,none⟩)→ρ 6 = .pointer (some ⟨p,0,none⟩)→
   Blk w5 w.heap.size cs5 90→Blk w5 (w.heap.size+1) [.slice none 0 0,.slice none 0 0,.slice none 0 0,.int .i64 0] 90→RdN w3.heap.size w5 p (encRc (.ext l)) (encRc (.ext l)).length v→eN.C w5 (F3 F w) (applyR n (.ext l)) cs5→Upd NoB w w5→
   Ks (.normal,ρ,w5):=by
   intro ρ w5 cs5 e2 e4 e6 k5 z5 r5 g5 v5;have hw5:w.heap.size+1<w5.heap.size:=z5.lt;obtain⟨xa',xc',sa',sc',ta',tc',rfl,j1,j2,j3⟩:=aO g5;have cc5 : ∀{w':World},Upd NoB w5 w'→∀j,w'.cell? ⟨w.heap.size,j,none⟩ = [Value.slice xa' (applyR n (.ext l)).st.length xc',Value.slice sa' (applyR n (.ext l)).bas.steps.length sc',Value.slice ta' (applyR n (.ext l)).bas.taken.length tc',Value.int .i64 (applyR n (.ext l)).life][j]? :=fun u j=>(k5.upd u fun h=>h).cell j;have hdr:Upd NoB w5 w5.drew:=Upd.drew;subst hKs;simp(maxSteps:=3000000)(disch:=omega)only[push_cast,seval,↓aE,↓aF,e2,e4,e6,cc5 hdr];refine Ok.use (eU (r5.go hdr fun _ _ h=>h)) ?_;rintro u w6 ⟨rfl,u6'⟩;have u6:Upd NoB w5 w6:=hdr.trans u6' fun _ _ h=>h;have z6:=z5.upd u6 fun h=>h;have z8:=z6.setRow (cs':=[Value.slice xa' (applyR n (.ext l)).st.length xc',Value.slice sa' (applyR n (.ext l)).bas.steps.length sc',Value.slice ta' (applyR n (.ext l)).bas.taken.length tc',Value.int .i64 (applyR n (.ext l)).life]);have g6:=aH.go (F':=F3 F w) g5 u6 fun b _ h=>h.elim (fun h=>h.elim) id;have v6:=v5.trans u6 fun _ _ h=>h;simp(maxSteps:=3000000)(disch:=omega)only[push_cast,seval,↓aE,↓aF,e2,e4,e6,cc5 hdr,cc5 u6,aP (P:=Tryz.prog) (t:=90) (cs':=[Value.slice xa' (applyR n (.ext l)).st.length xc',Value.slice sa' (applyR n (.ext l)).bas.steps.length sc',Value.slice ta' (applyR n (.ext l)).bas.taken.length tc',Value.int .i64 (applyR n (.ext l)).life]) z6 (by kernel_rfl) rfl (fun u hu=>by simp at hu; rcases hu with rfl | rfl | rfl | rfl <;> rfl),aJ (P:=Tryz.prog) (t:=90) z8 (by kernel_rfl) (by kernel_rfl)];have u8:Upd (fun b=>b=w.heap.size+1) w6 (w6.setRow (w.heap.size+1) #[Value.slice xa' (applyR n (.ext l)).st.length xc',Value.slice sa' (applyR n (.ext l)).bas.steps.length sc',Value.slice ta' (applyR n (.ext l)).bas.taken.length tc',Value.int .i64 (applyR n (.ext l)).life]):=Upd.setRow rfl;exact⟨_,rfl,aH.go g6 u8 fun b hb h=>h.elim (fun h=>.inr (.inr (.inl h))) .inl,v6.trans u8 fun b hb h=>by omega⟩
  have hdr:Upd NoB w4 w4.drew:=Upd.drew;have ccd:=fun j=>(c4.upd hdr fun h=>h).cell j;refine Ok.use (mE (r4.go hdr fun _ _ h=>h) (fun x hx=>(hr.1 x hx).1) hr.2.1 hb) ?_;rintro u w5 ⟨q5,r5,u5'⟩;have u5:Upd (fun b=>b=p) w4 w5:=Upd.drew.trans u5' fun _ _ h=>h;have c5:=c4.upd u5 (by omega);have z5:=z4.upd u5 (by omega);have v5:=v4.trans u5 fun b hb h=>by omega
  have g5:=FN.go g4 u5 fun b h=>by omega
  have cc5:=c5.cell;have g5':eN.C w5 (F3 F w) n _:=aH.go g5 (Upd.refl (F:=NoB)) fun b _ h=>h.elim (fun h=>h.elim) fun h=>by
   rcases h with h | h | h | h
   ·exact .inl h
   all_goals exact .inr (by omega)
  have hs5:p<w5.heap.size:=Nat.lt_of_lt_of_le r3.fp (Nat.le_trans u4.size u5.size);simp(maxSteps:=3000000)(disch:=omega)only[push_cast,seval,↓aE,↓aF,cc5,ccd];refine Ok.use (mZ g5' (q5.slD aA) h1 hr.1 (by have:=hr.2.2; omega)) ?_;rintro u w6 ⟨cs6,rfl,g6,u6⟩;have k6c:=aH.len g6;have es:eN.s=4:=rfl;rw[es] at k6c;have c6:=c5.upd u6 fun h=>h;have z6:=z5.upd u6 fun h=>h;have cc6:=c6.cell;have v6:=v5.trans u6 fun _ _ h=>h;have r6:=r5.go u6 fun _ _ h=>h;have g6':eN.C w6 (F3 F w) (joinN n l) cs6:=aH.go g6 (Upd.refl (F:=NoB)) fun b _ h=>h.elim (fun h=>h.elim) fun h=>by
   rcases h with h | h | h | h
   ·exact⟨.inl h,Nat.lt_of_lt_of_le h.2 v5.size⟩
   ·exact⟨.inr (.inl h),by show b<w5.heap.size; omega⟩
   ·exact⟨.inr (.inr (.inl h)),by show b<w5.heap.size; omega⟩
   ·exact⟨.inr (.inr (.inr h)),by show b<w5.heap.size; omega⟩
  have u7:Upd (fun b=>b=w.heap.size) w6 (w6.setRow w.heap.size cs6.toArray):=Upd.setRow rfl;simp(maxSteps:=3000000)(disch:=omega)only[push_cast,seval,↓aE,↓aF,cc5,ccd,cc6,aP (P:=Tryz.prog) (t:=90) (cs':=cs6) c6 (by rw[k6c]; kernel_rfl) (by rw[k6c]; rfl) (aH.one g6')];exact hend _ _ _ rfl rfl rfl (c6.setRow (cs':=cs6)) (z6.upd u7 (by omega)) (by
   have:=r6.blk u7 (by omega) c6 (by decide);rwa [Nat.zero_add,←List.length_append] at this) (aH.go g6' u7 fun b _ h=>h.elim (fun h=>.inr (.inl h)) id) (v6.trans u7 fun b hb h=>by omega)
 | reb b=>
  have hh:Has (encRc (.reb b)) 0 (encU 2 ++ encBs b):=Has.all;have ha:=hh.left;have hb:=hh.right;rw[aD];generalize hKs:KS _ _ _ _ _=Ks;simp(disch:=omega)only[push_cast,seval];refine Ok.use (i9 r3 (n:=2) (by decide) ha) ?_;rintro u w4 ⟨rfl,r4,u4⟩;have c4:=c3.upd u4 (by omega);have z4:=z3.upd u4 (by omega);have v4:=v3.trans u4 fun b hb h=>by omega
  have g4:=FN.go g3 u4 fun b h=>by omega
  have cc4:=c4.cell;simp(disch:=omega)only[push_cast,seval,cc4];have hend : ∀(ρ:Env) (w5:World) (cs5:List Value),ρ 2 = .pointer (some ⟨w.heap.size,0,none⟩)→ρ 4 = .pointer (some ⟨w.heap.size+1,0,none⟩)→ρ 6 = .pointer (some ⟨p,0,none⟩)→
   Blk w5 w.heap.size cs5 90→Blk w5 (w.heap.size+1) [.slice none 0 0,.slice none 0 0,.slice none 0 0,.int .i64 0] 90→RdN w3.heap.size w5 p (encRc (.reb b)) (encRc (.reb b)).length v→eN.C w5 (F3 F w) (applyR n (.reb b)) cs5→Upd NoB w w5→
   Ks (.normal,ρ,w5):=by
   intro ρ w5 cs5 e2 e4 e6 k5 z5 r5 g5 v5;have hw5:w.heap.size+1<w5.heap.size:=z5.lt;obtain⟨xa',xc',sa',sc',ta',tc',rfl,j1,j2,j3⟩:=aO g5;have cc5 : ∀{w':World},Upd NoB w5 w'→∀j,w'.cell? ⟨w.heap.size,j,none⟩ = [Value.slice xa' (applyR n (.reb b)).st.length xc',Value.slice sa' (applyR n (.reb b)).bas.steps.length sc',Value.slice ta' (applyR n (.reb b)).bas.taken.length tc',Value.int .i64 (applyR n (.reb b)).life][j]? :=fun u j=>(k5.upd u fun h=>h).cell j;have hdr:Upd NoB w5 w5.drew:=Upd.drew;subst hKs;simp(maxSteps:=3000000)(disch:=omega)only[push_cast,seval,↓aE,↓aF,e2,e4,e6,cc5 hdr];refine Ok.use (eU (r5.go hdr fun _ _ h=>h)) ?_;rintro u w6 ⟨rfl,u6'⟩;have u6:Upd NoB w5 w6:=hdr.trans u6' fun _ _ h=>h;have z6:=z5.upd u6 fun h=>h;have z8:=z6.setRow (cs':=[Value.slice xa' (applyR n (.reb b)).st.length xc',Value.slice sa' (applyR n (.reb b)).bas.steps.length sc',Value.slice ta' (applyR n (.reb b)).bas.taken.length tc',Value.int .i64 (applyR n (.reb b)).life]);have g6:=aH.go (F':=F3 F w) g5 u6 fun b _ h=>h.elim (fun h=>h.elim) id;have v6:=v5.trans u6 fun _ _ h=>h;simp(maxSteps:=3000000)(disch:=omega)only[push_cast,seval,↓aE,↓aF,e2,e4,e6,cc5 hdr,cc5 u6,aP (P:=Tryz.prog) (t:=90) (cs':=[Value.slice xa' (applyR n (.reb b)).st.length xc',Value.slice sa' (applyR n (.reb b)).bas.steps.length sc',Value.slice ta' (applyR n (.reb b)).bas.taken.length tc',Value.int .i64 (applyR n (.reb b)).life]) z6 (by kernel_rfl) rfl (fun u hu=>by simp at hu; rcases hu with rfl | rfl | rfl | rfl <;> rfl),aJ (P:=Tryz.prog) (t:=90) z8 (by kernel_rfl) (by kernel_rfl)];have u8:Upd (fun b=>b=w.heap.size+1) w6 (w6.setRow (w.heap.size+1) #[Value.slice xa' (applyR n (.reb b)).st.length xc',Value.slice sa' (applyR n (.reb b)).bas.steps.length sc',Value.slice ta' (applyR n (.reb b)).bas.taken.length tc',Value.int .i64 (applyR n (.reb b)).life]):=Upd.setRow rfl;exact⟨_,rfl,aH.go g6 u8 fun b hb h=>h.elim (fun h=>.inr (.inr (.inl h))) .inl,v6.trans u8 fun b hb h=>by omega⟩
  have hdr:Upd NoB w4 w4.drew:=Upd.drew;have ccd:=fun j=>(c4.upd hdr fun h=>h).cell j;refine Ok.use (tH (r4.go hdr fun _ _ h=>h) hr.1 hr.2.2.1 hb) ?_;rintro u w5 ⟨bs,rfl,q5,r5,u5'⟩;have u5:Upd (fun b=>b=p) w4 w5:=Upd.drew.trans u5' fun _ _ h=>h;have c5:=c4.upd u5 (by omega);have z5:=z4.upd u5 (by omega);have v5:=v4.trans u5 fun b hb h=>by omega
  have g5:=FN.go g4 u5 fun b h=>by omega
  have cc5:=c5.cell;have g5':eN.C w5 (F3 F w) n _:=aH.go g5 (Upd.refl (F:=NoB)) fun b _ h=>h.elim (fun h=>h.elim) fun h=>by
   rcases h with h | h | h | h
   ·exact .inl h
   all_goals exact .inr (by omega)
  have hs5:p<w5.heap.size:=Nat.lt_of_lt_of_le r3.fp (Nat.le_trans u4.size u5.size);simp(maxSteps:=3000000)(disch:=omega)only[push_cast,seval,↓aE,↓aF,cc5,ccd];refine Ok.use (uK g5' (aK.go (F':=F3 F w) q5 (Upd.refl (F:=NoB)) fun b _ h=>h.elim (fun h=>h.elim) fun h=>by
   have:=r3.fp;have:=u4.size;show b<w4.heap.size;rcases h with h | h | h | h
   ·exact Nat.lt_of_lt_of_le h.2 v4.size
   all_goals omega) h1 hr.2.1 (by have:=hr.2.2.2.1; omega) hs1 hr.2.2.2.2.1 hm1 hr.2.2.2.2.2) ?_
  rintro u w6 ⟨cs6,rfl,g6,u6⟩;have k6c:=aH.len g6;have es:eN.s=4:=rfl;rw[es] at k6c;have c6:=c5.upd u6 fun h=>h;have z6:=z5.upd u6 fun h=>h;have cc6:=c6.cell;have v6:=v5.trans u6 fun _ _ h=>h;have r6:=r5.go u6 fun _ _ h=>h;have g6':eN.C w6 (F3 F w) (rebN n b) cs6:=aH.go g6 (Upd.refl (F:=NoB)) fun b _ h=>h.elim (fun h=>h.elim) fun h=>by
   rcases h with h | h | h | h
   ·exact⟨.inl h,Nat.lt_of_lt_of_le h.2 v5.size⟩
   ·exact⟨.inr (.inl h),by show b<w5.heap.size; omega⟩
   ·exact⟨.inr (.inr (.inl h)),by show b<w5.heap.size; omega⟩
   ·exact⟨.inr (.inr (.inr h)),by show b<w5.heap.size; omega⟩
  have u7:Upd (fun b=>b=w.heap.size) w6 (w6.setRow w.heap.size cs6.toArray):=Upd.setRow rfl;simp(maxSteps:=3000000)(disch:=omega)only[push_cast,seval,↓aE,↓aF,cc5,ccd,cc6,aP (P:=Tryz.prog) (t:=90) (cs':=cs6) c6 (by rw[k6c]; kernel_rfl) (by rw[k6c]; rfl) (aH.one g6')];exact hend _ _ _ rfl rfl rfl (c6.setRow (cs':=cs6)) (z6.upd u7 (by omega)) (by
   have:=r6.blk u7 (by omega) c6 (by decide);rwa [Nat.zero_add,←List.length_append] at this) (aH.go g6' u7 fun b _ h=>h.elim (fun h=>.inr (.inl h)) id) (v6.trans u7 fun b hb h=>by omega)
 | liv k=>
  have hh:Has (encRc (.liv k)) 0 (encU 3 ++ encU k):=Has.all;have ha:=hh.left;have hb:=hh.right;rw[aD];generalize hKs:KS _ _ _ _ _=Ks;simp(disch:=omega)only[push_cast,seval];refine Ok.use (i9 r3 (n:=3) (by decide) ha) ?_;rintro u w4 ⟨rfl,r4,u4⟩;have c4:=c3.upd u4 (by omega);have z4:=z3.upd u4 (by omega);have v4:=v3.trans u4 fun b hb h=>by omega
  have g4:=FN.go g3 u4 fun b h=>by omega
  have cc4:=c4.cell;simp(disch:=omega)only[push_cast,seval,cc4];have hend : ∀(ρ:Env) (w5:World) (cs5:List Value),ρ 2 = .pointer (some ⟨w.heap.size,0,none⟩)→ρ 4 = .pointer (some ⟨w.heap.size+1,0,none⟩)→ρ 6 = .pointer (some ⟨p,0,none⟩)→
   Blk w5 w.heap.size cs5 90→Blk w5 (w.heap.size+1) [.slice none 0 0,.slice none 0 0,.slice none 0 0,.int .i64 0] 90→RdN w3.heap.size w5 p (encRc (.liv k)) (encRc (.liv k)).length v→eN.C w5 (F3 F w) (applyR n (.liv k)) cs5→Upd NoB w w5→
   Ks (.normal,ρ,w5):=by
   intro ρ w5 cs5 e2 e4 e6 k5 z5 r5 g5 v5;have hw5:w.heap.size+1<w5.heap.size:=z5.lt;obtain⟨xa',xc',sa',sc',ta',tc',rfl,j1,j2,j3⟩:=aO g5;have cc5 : ∀{w':World},Upd NoB w5 w'→∀j,w'.cell? ⟨w.heap.size,j,none⟩ = [Value.slice xa' (applyR n (.liv k)).st.length xc',Value.slice sa' (applyR n (.liv k)).bas.steps.length sc',Value.slice ta' (applyR n (.liv k)).bas.taken.length tc',Value.int .i64 (applyR n (.liv k)).life][j]? :=fun u j=>(k5.upd u fun h=>h).cell j;have hdr:Upd NoB w5 w5.drew:=Upd.drew;subst hKs;simp(maxSteps:=3000000)(disch:=omega)only[push_cast,seval,↓aE,↓aF,e2,e4,e6,cc5 hdr];refine Ok.use (eU (r5.go hdr fun _ _ h=>h)) ?_;rintro u w6 ⟨rfl,u6'⟩;have u6:Upd NoB w5 w6:=hdr.trans u6' fun _ _ h=>h;have z6:=z5.upd u6 fun h=>h;have z8:=z6.setRow (cs':=[Value.slice xa' (applyR n (.liv k)).st.length xc',Value.slice sa' (applyR n (.liv k)).bas.steps.length sc',Value.slice ta' (applyR n (.liv k)).bas.taken.length tc',Value.int .i64 (applyR n (.liv k)).life]);have g6:=aH.go (F':=F3 F w) g5 u6 fun b _ h=>h.elim (fun h=>h.elim) id;have v6:=v5.trans u6 fun _ _ h=>h;simp(maxSteps:=3000000)(disch:=omega)only[push_cast,seval,↓aE,↓aF,e2,e4,e6,cc5 hdr,cc5 u6,aP (P:=Tryz.prog) (t:=90) (cs':=[Value.slice xa' (applyR n (.liv k)).st.length xc',Value.slice sa' (applyR n (.liv k)).bas.steps.length sc',Value.slice ta' (applyR n (.liv k)).bas.taken.length tc',Value.int .i64 (applyR n (.liv k)).life]) z6 (by kernel_rfl) rfl (fun u hu=>by simp at hu; rcases hu with rfl | rfl | rfl | rfl <;> rfl),aJ (P:=Tryz.prog) (t:=90) z8 (by kernel_rfl) (by kernel_rfl)];have u8:Upd (fun b=>b=w.heap.size+1) w6 (w6.setRow (w.heap.size+1) #[Value.slice xa' (applyR n (.liv k)).st.length xc',Value.slice sa' (applyR n (.liv k)).bas.steps.length sc',Value.slice ta' (applyR n (.liv k)).bas.taken.length tc',Value.int .i64 (applyR n (.liv k)).life]):=Upd.setRow rfl;exact⟨_,rfl,aH.go g6 u8 fun b hb h=>h.elim (fun h=>.inr (.inr (.inl h))) .inl,v6.trans u8 fun b hb h=>by omega⟩
  have hdr:Upd NoB w4 w4.drew:=Upd.drew;have ccd:=fun j=>(c4.upd hdr fun h=>h).cell j;refine Ok.use (tF (r4.go hdr fun _ _ h=>h) hr hb) ?_;rintro u w5 ⟨rfl,r5,u5'⟩;have u5:Upd (fun b=>b=p) w4 w5:=Upd.drew.trans u5' fun _ _ h=>h;have c5:=c4.upd u5 (by omega);have z5:=z4.upd u5 (by omega);have v5:=v4.trans u5 fun b hb h=>by omega
  have g5:=FN.go g4 u5 fun b h=>by omega
  have cc5:=c5.cell;have g5':eN.C w5 (F3 F w) n _:=aH.go g5 (Upd.refl (F:=NoB)) fun b _ h=>h.elim (fun h=>h.elim) fun h=>by
   rcases h with h | h | h | h
   ·exact .inl h
   all_goals exact .inr (by omega)
  have hs5:p<w5.heap.size:=Nat.lt_of_lt_of_le r3.fp (Nat.le_trans u4.size u5.size);have c7:=c5.set 3 (.int .i64 (max n.life (k:Int)));have u7:Upd (fun b=>b=w.heap.size) w5 (w5.setCell ⟨w.heap.size,3,none⟩ (.int .i64 (max n.life (k:Int)))):=Upd.set (F:=fun b=>b=w.heap.size) rfl;simp(maxSteps:=3000000)(disch:=omega)only[push_cast,seval,↓aE,↓aF,cc5,ccd,c5.free];obtain⟨_,_,_,_,_,_,i1,i2,i3,i4⟩:=aO (aH.go g5' u7 fun b _ h=>h.elim (fun h=>.inr (.inl h)) id);injection i1 with i5 i1;injection i1 with i6 i1;injection i1 with i7 i8;rw[←i5] at i2;rw[←i6,←i7] at i3;have hr':k≤4611686018427387904:=hr;have hw:=i4.2.2;exact hend _ _ _ rfl rfl rfl c7 (z5.upd u7 (by omega)) (by
   have:=r5.blk u7 (by omega) c5 (by decide);rwa [Nat.zero_add,←List.length_append] at this) ⟨_,_,_,rfl,i2,i3,⟨i4.1,i4.2.1,by show 0≤max n.life (k:Int); omega,by show max n.life (k:Int)≤_; omega⟩⟩ (v5.trans u7 fun b hb h=>by omega)
open Go
set_option maxRecDepth 100000
theorem m7 {c:Con}:(encCn c).length=(encU c.life.toNat).length+(encBs c.bas).length+(encL c.st).length:=by simp only [encCn,List.length_append]
theorem aAB:zer Tryz.prog 154=some (.agg #[.int .i64 0,.slice none 0 0]):=by kernel_rfl
set_option maxHeartbeats 8000000 in
theorem uL {w:World}{F G:Nat→Prop}{y:Value}{l:List Int}(hy:SlB w F y l){b:Bas}{cs:List Value}(hb:eB.C w G b cs)(hl:l.length+(encBs b).length≤80000000) :
 Ok (den Tryz.prog 52 #[y,.agg cs.toArray] w) fun u w'=>Bow w' u (l ++ encBs b)∧(∀g,u.ownBlock=some g→w.heap.size≤g)∧Upd NoB w w':=by
 obtain⟨ya,yc,rfl⟩:=hy.form;have hlen:=cE (b:=b);have hge:b.steps.length≤(b.steps.flatMap encT).length:=aT fun x=>by have:=aS x.acks.length; rw[cD]; omega
 obtain⟨sa,sc,ta,tc,rfl,hss,hts,hbw⟩:=a8 hb;refine aB (args:=[.slice ya l.length yc,.agg #[.slice sa b.steps.length sc,.slice ta b.taken.length tc]]) rs52 Tryz.func52 rfl mixed (by kernel_rfl) P3 rfl ?_;rw[aD];generalize hKs:KS _ _ _ _ _=Ks;simp(disch:=omega)only[push_cast,seval];have b0:=Blk.new (w:=w) (cs:=[.slice sa b.steps.length sc,.slice ta b.taken.length tc]) (E:=35);have u0:Upd NoB w (w.alloc (.cells [.slice sa b.steps.length sc,.slice ta b.taken.length tc].toArray 35 (0,0))):=Upd.alloc;generalize w.alloc (.cells [.slice sa b.steps.length sc,.slice ta b.taken.length tc].toArray 35 (0,0))=w0 at *;have cc : ∀{w':World},Upd NoB w0 w'→∀j,w'.cell? ⟨w.heap.size,j,none⟩ = [Value.slice sa b.steps.length sc,.slice ta b.taken.length tc][j]? :=fun u j=>(b0.upd u fun h=>h).cell j;have s0:=u0.size;have uu:Upd NoB w0 w0:=Upd.refl;subst hKs;rw[aC];rw[aD];generalize hKs:KS _ _ _ _ _=Ks;simp(disch:=omega)only[push_cast,seval,cc uu];rw[bD (by omega)];refine Ok.use (bV (hy.q u0) (n:=b.steps.length) (by omega) (by omega)) ?_;rintro u w1 ⟨q1,f1,u1⟩;obtain⟨xa1,xc1,rfl,_⟩:=q1.form;simp(maxSteps:=3000000)(disch:=omega)only[push_cast,seval];subst hKs;rw[aC];simp(maxSteps:=3000000)(disch:=omega)only[push_cast,seval];generalize hL:l ++ encU b.steps.length=L at *;have hLl:L.length=l.length+(encU b.steps.length).length:=by rw[←hL]; simp only[List.length_append]
 refine aG (I:=fun k st w'=>Bx (∃(i:Nat) (u:Value),k+i=b.steps.length∧st = [u,.int .i64 (i:Int)]∧Bow w' u (L ++ (b.steps.take i).flatMap encT)∧(∀g,u.ownBlock=some g→w.heap.size≤g)∧Upd NoB w0 w') ⟨⟩) ?_ b.steps.length ⟨0,_,rfl,rfl,by simpa using q1,fun g hg=>by
  have:=f1 g hg;omega,u1⟩
 rintro k st w2 ⟨i,u,hk,rfl,q2,f2,v2⟩;obtain⟨xa2,xc2,rfl,_⟩:=q2.form;by_cases hk0:k=0
 ·obtain rfl:i=b.steps.length:=by omega
  rw[List.take_length] at q2 f2;rw[List.take_length];simp(maxSteps:=3000000)(disch:=omega)only[push_cast,seval,cc v2];refine Ok.use (lX (q2.q Upd.refl) (hts.q aA (u0.trans v2 fun _ _ h=>h)) (by simp only[List.length_append]; omega)) ?_;rintro u w3 ⟨q3,f3,u3⟩;obtain⟨xa3,xc3,rfl,_⟩:=q3.form;have e:L ++ b.steps.flatMap encT ++ encL b.taken=l ++ encBs b:=by rw[←hL]; simp[encBs]
  rw[e] at q3 f3;simp(maxSteps:=3000000)(disch:=omega)only[push_cast,seval];rw[e];exact⟨q3,fun g hg=>by
   have:=f3 g hg;have:=v2.size;omega,u0.trans (v2.trans u3 fun _ _ h=>h) fun _ _ h=>h⟩
 have hi:i<b.steps.length:=by omega
 have hi':(i:Int)<(b.steps.length:Int):=by omega
 have hx:=List.getElem?_eq_getElem hi;generalize b.steps[i]=x at hx;have hle:=aV (f:=encT) hx;have htk:=bE (f:=encT) hx;have hlx:=cD (s:=x);obtain⟨g,o,xs,rfl,hg,hx1,hx2⟩:=(hss.q aM (u0.trans v2 fun _ _ h=>h)).row hx;obtain⟨ks,av,rfl,hks,hav,hxw⟩:=hx1;obtain⟨aa,ac,rfl,_⟩:=hav.form;have kk:=aX.len hks;have ek:eK.s=8:=rfl;rw[ek] at kk;have es:eT.s=9:=rfl;rw[es] at hx2;have lk : ∀{w':World},Upd NoB w2 w'→ldS Tryz.prog 85 (.pointer (some ⟨g,o+i*9,none⟩)) w'=some (.agg ks.toArray,w'):=fun u=>bN (P:=Tryz.prog) (by kernel_rfl) (by rw[kk]; kernel_rfl) fun r hr=>by
  rw[hx2 u r (by omega),List.getElem?_append_left hr]
 have r8 : ∀{w':World},Upd NoB w2 w'→w'.cell? ⟨g,o+i*9+8,none⟩=some (.slice aa x.acks.length ac):=fun u=>by
  rw[hx2 u 8 (by decide),List.getElem?_append_right (by omega),kk];rfl
 have z2:Upd NoB w2 w2:=Upd.refl;have hlk:(encB (encK x.c)).length=(encU (encK x.c).length).length+(encK x.c).length:=by simp[encB]
 have hga:x.acks.length≤(x.acks.flatMap encA).length:=aT fun a=>by have:=aS a.tag.length; simp[encA,encB]; omega
 simp(maxSteps:=3000000)(disch:=omega)only[push_cast,seval,hi',cc v2,lk z2];refine Ok.use (m0 hks (by omega)) ?_;rintro u w3 ⟨q3,f3,u3⟩;obtain⟨xa3,xc3,rfl,_⟩:=q3.form;have v3:=v2.trans u3 fun _ _ h=>h;simp(maxSteps:=3000000)(disch:=omega)only[push_cast,seval];refine Ok.use (cS (q2.q u3) (q3.q Upd.refl) (by simp only[List.length_append]; omega) (by omega)) ?_;rintro u w4 ⟨q4,f4,u4⟩;obtain⟨xa4,xc4,rfl,_⟩:=q4.form;have v4:=v3.trans u4 fun _ _ h=>h;have z4:=u3.trans u4 fun _ _ h=>h;simp(maxSteps:=3000000)(disch:=omega)only[push_cast,seval,cc v4,r8 z4];rw[bD (by omega)];refine Ok.use (bV (q4.q Upd.refl) (n:=x.acks.length) (by omega) (by simp only[List.length_append]; omega)) ?_;rintro u w5 ⟨q5,f5,u5⟩;obtain⟨xa5,xc5,rfl,_⟩:=q5.form;have v5:=v4.trans u5 fun _ _ h=>h;have z5:=z4.trans u5 fun _ _ h=>h;simp(maxSteps:=3000000)(disch:=omega)only[push_cast,seval];generalize hM:L ++ (b.steps.take i).flatMap encT ++ encB (encK x.c) ++ encU x.acks.length=M at *;have hMl:M.length=L.length+((b.steps.take i).flatMap encT).length+(encB (encK x.c)).length+(encU x.acks.length).length:=by rw[←hM]; simp only[List.length_append]
 have f5' : ∀gg,(Value.slice xa5 M.length xc5).ownBlock=some gg→w.heap.size≤gg:=fun gg hgg=>by
  have:=f5 gg hgg;have:=v4.size;omega
 refine aG (I:=fun k st w'=>Bx (∃(j:Nat) (u:Value),k+j=x.acks.length∧st = [u,.int .i64 (j:Int)]∧Bow w' u (M ++ (x.acks.take j).flatMap encA)∧(∀g,u.ownBlock=some g→w.heap.size≤g)∧Upd NoB w2 w') ⟨⟩) ?_ x.acks.length ⟨0,_,rfl,rfl,by simpa using q5,f5',z5⟩;rintro k' st w6 ⟨j,u,hk',rfl,q6,f6,z6⟩;obtain⟨xa6,xc6,rfl,_⟩:=q6.form;have v6:=v2.trans z6 fun _ _ h=>h;by_cases hk0':k'=0
 ·obtain rfl:j=x.acks.length:=by omega
  rw[List.take_length] at q6 f6;rw[List.take_length];simp(maxSteps:=3000000)(disch:=omega)only[push_cast,seval,cc v6,r8 z6];have e:M ++ x.acks.flatMap encA=L ++ (b.steps.take (i+1)).flatMap encT:=by rw[←hM,htk]; simp[encT]
  exact⟨k-1,by omega,i+1,.slice xa6 (M ++ x.acks.flatMap encA).length xc6,by omega,rfl,by rw[←e]; exact q6,f6,v6⟩
 have hj:j<x.acks.length:=by omega
 have hj':(j:Int)<(x.acks.length:Int):=by omega
 have hy1:=List.getElem?_eq_getElem hj;generalize x.acks[j]=a at hy1;have hley:=aV (f:=encA) hy1;have htky:=bE (f:=encA) hy1;have hla:(encA a).length=(encI a.rep).length+(encB a.tag).length:=by simp only[encA,List.length_append]
 have hlt:(encB a.tag).length=(encU a.tag.length).length+a.tag.length:=by simp[encB]
 obtain⟨g2,o2,ys,rfl,hg2,hy2,hy3⟩:=(hav.q bF z6).row hy1;obtain⟨tv,rfl,hy4,hy5,hy6⟩:=hy2;obtain⟨ga,gc,rfl⟩:=hy4.form;have ea:eA.s=2:=rfl;rw[ea] at hy3;have zz:Upd NoB w6 w6:=Upd.refl;have a0:w6.cell? ⟨g2,o2+j*2,none⟩=some (.int .i64 a.rep):=hy3 zz 0 (by decide);have a1:w6.cell? ⟨g2,o2+j*2+1,none⟩=some (.slice ga a.tag.length gc):=hy3 zz 1 (by decide);have b7:=Blk.new (w:=w6) (cs:=[.int .i64 0,.slice none 0 0]) (E:=154);have b8:=b7.setRow (cs':=[.int .i64 a.rep,.slice ga a.tag.length gc]);have u8:Upd NoB w6 ((w6.alloc (.cells #[.int .i64 0,.slice none 0 0] 154 (0,0))).setRow w6.heap.size #[.int .i64 a.rep,.slice ga a.tag.length gc]):=Upd.alloc.trans (Upd.setRow (F:=fun b=>b=w6.heap.size) rfl) fun b hb e=>by omega
 generalize hw8:(w6.alloc (.cells #[.int .i64 0,.slice none 0 0] 154 (0,0))).setRow w6.heap.size #[.int .i64 a.rep,.slice ga a.tag.length gc]=w8 at *;have stf:=aP (P:=Tryz.prog) (t:=154) (cs':=[.int .i64 a.rep,.slice ga a.tag.length gc]) b7 (by kernel_rfl) rfl (fun u hu=>by simp at hu; rcases hu with rfl | rfl <;> rfl);rw[hw8] at stf;have dd : ∀{w':World},Upd NoB w8 w'→∀j,w'.cell? ⟨w6.heap.size,j,none⟩ = [Value.int .i64 a.rep,.slice ga a.tag.length gc][j]? :=fun u j=>(b8.upd u fun h=>h).cell j;have d8:Upd NoB w8 w8.drew:=Upd.drew;simp(maxSteps:=3000000)(disch:=omega)only[push_cast,seval,↓aE,↓aF,hj',cc v6,r8 z6,a0,a1,aAB,stf,dd d8];refine Ok.use (cC ((q6.q u8).q d8) hy5 (by simp only[List.length_append]; omega)) ?_;rintro u w9 ⟨q9,f9,u9⟩;obtain⟨xa9,xc9,rfl,_⟩:=q9.form;have d9:=d8.trans u9 fun _ _ h=>h;simp(maxSteps:=3000000)(disch:=omega)only[push_cast,seval,↓aE,↓aF,dd d8,dd d9];refine Ok.use (cS (q9.q Upd.refl) (((hy4.q u8).q d9)) (by simp only[List.length_append]; omega) (by omega)) ?_;rintro u w10 ⟨q10,f10,u10⟩;obtain⟨xa10,xc10,rfl,_⟩:=q10.form;have d10:=d9.trans u10 fun _ _ h=>h;simp(maxSteps:=3000000)(disch:=omega)only[push_cast,seval,↓aE,↓aF,dd d8,dd d9,dd d10];have e:M ++ (x.acks.take j).flatMap encA ++ encI a.rep ++ encB a.tag=M ++ (x.acks.take (j+1)).flatMap encA:=by rw[htky]; simp[encA]
 exact⟨k'-1,by omega,j+1,.slice xa10 (M ++ (x.acks.take j).flatMap encA ++ encI a.rep ++ encB a.tag).length xc10,by omega,rfl,by rw[←e]; exact q10,fun gg hgg=>by
  have:=f10 gg hgg;have:=v6.size;have:=u8.size;have:=d9.size;omega,(z6.trans u8 fun _ _ h=>h).trans d10 fun _ _ h=>h⟩
set_option maxHeartbeats 4000000 in
theorem uM {w:World}{F:Nat→Prop}{n:Con}{cs:List Value}(hc:eN.C w F n cs)(hl:(encCn n).length≤80000000) :
 Ok (den Tryz.prog 21 #[.agg cs.toArray] w) fun u w'=>Bow w' u (encCn n)∧(∀g,u.ownBlock=some g→w.heap.size≤g)∧Upd NoB w w':=by
 obtain⟨xa,xc,sa,sc,ta,tc,rfl,k1,k2,k3⟩:=aO hc;have hlen:=m7 (c:=n);refine aB (args:=[.agg #[.slice xa n.st.length xc,.slice sa n.bas.steps.length sc,.slice ta n.bas.taken.length tc,.int .i64 n.life]]) rs21 Tryz.func21 rfl mixed (by kernel_rfl) O9 rfl ?_;rw[aD];generalize hKs:KS _ _ _ _ _=Ks;simp(disch:=omega)only[push_cast,seval];have b0:=Blk.new (w:=w) (cs:=[.slice xa n.st.length xc,.slice sa n.bas.steps.length sc,.slice ta n.bas.taken.length tc,.int .i64 n.life]) (E:=37);have u0:Upd NoB w (w.alloc (.cells [.slice xa n.st.length xc,.slice sa n.bas.steps.length sc,.slice ta n.bas.taken.length tc,.int .i64 n.life].toArray 37 (0,0))):=Upd.alloc;generalize w.alloc (.cells [.slice xa n.st.length xc,.slice sa n.bas.steps.length sc,.slice ta n.bas.taken.length tc,.int .i64 n.life].toArray 37 (0,0))=w0 at *;have cc : ∀{w':World},Upd NoB w0 w'→∀j,w'.cell? ⟨w.heap.size,j,none⟩ = [Value.slice xa n.st.length xc,.slice sa n.bas.steps.length sc,.slice ta n.bas.taken.length tc,.int .i64 n.life][j]? :=fun u j=>(b0.upd u fun h=>h).cell j;have hdr:Upd NoB w0 w0.drew:=Upd.drew;have hl0:=k3.2.2;have ew:IntKind.u64.wrap n.life=((n.life.toNat:Nat):Int):=by rw[IntKind.wrap_u64]; omega
 have s0:=u0.size;subst hKs;rw[aC];simp(maxSteps:=3000000)(disch:=omega)only[push_cast,seval,↓aE,↓aF,cc hdr,ew];refine Ok.use (bV (w:=w0.drew) (F:=NoB) (y:=.slice none 0 0) (b:=[]) ⟨none,0,rfl,fun h=>absurd rfl h⟩ (n:=n.life.toNat) (by omega) (by decide)) ?_;rintro u w1 ⟨q1,f1,u1⟩;rw[List.nil_append] at q1;obtain⟨xa1,xc1,rfl,_⟩:=q1.form;have v1:=hdr.trans u1 fun _ _ h=>h;simp(maxSteps:=3000000)(disch:=omega)only[push_cast,seval,↓aE,↓aF,cc hdr,ew,cc v1];refine Ok.use (uL (q1.q Upd.refl) (aK.q k2 (u0.trans v1 fun _ _ h=>h)) (by omega)) ?_;rintro u w2 ⟨q2,f2,u2⟩;obtain⟨xa2,xc2,rfl,_⟩:=q2.form;have v2:=v1.trans u2 fun _ _ h=>h;simp(maxSteps:=3000000)(disch:=omega)only[push_cast,seval,↓aE,↓aF,cc hdr,ew,cc v1,cc v2];refine Ok.use (lX (q2.q Upd.refl) (k1.q aA (u0.trans v2 fun _ _ h=>h)) (by rw[List.length_append]; omega)) ?_;rintro u w3 ⟨q3,f3,u3⟩;obtain⟨xa3,xc3,rfl,_⟩:=q3.form;have v3:=v2.trans u3 fun _ _ h=>h;simp(maxSteps:=3000000)(disch:=omega)only[push_cast,seval,↓aE,↓aF,cc hdr,ew,cc v1,cc v2,cc v3];exact⟨q3,fun g hg=>by
  have:=f3 g hg;have:=v2.size;omega,u0.trans v3 fun _ _ h=>h⟩
theorem m8 {w:World}{x:Int}:SlB (w.alloc (.cells #[.int .u8 x] 5 (0,0))) NoB (.slice (some ⟨w.heap.size,0,none⟩) 1 1) [x]:=by
 refine⟨_,_,rfl,fun _=>⟨_,_,rfl,fun j hj=>?_,fun h=>h⟩⟩;have hb:=Blk.new (w:=w) (cs:=[.int .u8 x]) (E:=5);obtain rfl:j=0:=by simpa[by8] using hj
 exact hb.cell 0
theorem aAC {w:World}{F:Nat→Prop}{v:Value}{l:List Cmd}(hv:SlD eC w F v l)(hl:(encL l).length≤70000000) :
 Ok (den Tryz.prog 86 #[v] w) fun u w'=>Bow w' u (encRc (.ext l))∧(∀g,u.ownBlock=some g→w.heap.size≤g)∧Upd NoB w w':=by
 obtain⟨va,vc,rfl,_⟩:=hv.form;refine aB (args:=[.slice va l.length vc]) rs86 Tryz.func86 rfl mixed (by kernel_rfl) Q0 rfl ?_;simp(maxSteps:=3000000)(disch:=omega)only[push_cast,seval];have hy:=m8 (w:=w) (x:=1);have u1:Upd NoB w (w.alloc (.cells #[.int .u8 1] 5 (0,0))):=Upd.alloc;generalize w.alloc (.cells #[.int .u8 1] 5 (0,0))=w1 at *;have e:encRc (.ext l) = [1] ++ encL l:=by show encU 1 ++ _=_; rw[bL (by decide)]; rfl
 rw[e];refine Ok.use (lX (b:=[1]) hy (hv.q aA u1) (by simp only[List.length_singleton]; omega)) ?_;rintro u w2 ⟨q2,f2,u2⟩;obtain⟨xa2,xc2,rfl,_⟩:=q2.form;simp(maxSteps:=3000000)(disch:=omega)only[push_cast,seval];exact⟨q2,fun g hg=>by
  have:=f2 g hg;have:=u1.size;omega,u1.trans u2 fun _ _ h=>h⟩
theorem aAD {w:World}{F:Nat→Prop}{b:Bas}{cs:List Value}(hb:eB.C w F b cs)(hl:(encBs b).length≤70000000) :
 Ok (den Tryz.prog 88 #[.agg cs.toArray] w) fun u w'=>Bow w' u (encRc (.reb b))∧(∀g,u.ownBlock=some g→w.heap.size≤g)∧Upd NoB w w':=by
 obtain⟨sa,sc,ta,tc,rfl,hss,hts,hbw⟩:=a8 hb;refine aB (args:=[.agg #[.slice sa b.steps.length sc,.slice ta b.taken.length tc]]) rs88 Tryz.func88 rfl mixed (by kernel_rfl) Q2 rfl ?_;rw[aD];generalize hKs:KS _ _ _ _ _=Ks;simp(disch:=omega)only[push_cast,seval];have b0:=Blk.new (w:=w) (cs:=[.slice sa b.steps.length sc,.slice ta b.taken.length tc]) (E:=35);have u0:Upd NoB w (w.alloc (.cells [.slice sa b.steps.length sc,.slice ta b.taken.length tc].toArray 35 (0,0))):=Upd.alloc;generalize w.alloc (.cells [.slice sa b.steps.length sc,.slice ta b.taken.length tc].toArray 35 (0,0))=w0 at *;have hy:=m8 (w:=w0) (x:=2);have u1:Upd NoB w0 (w0.alloc (.cells #[.int .u8 2] 5 (0,0))):=Upd.alloc;have b1:=b0.upd u1 fun h=>h;have s0:=u0.size;have s1:=u1.size;subst hKs;rw[aC];simp(maxSteps:=3000000)(disch:=omega)only[push_cast,seval,aJ (P:=Tryz.prog) (t:=35) b1 (by kernel_rfl) (by kernel_rfl)];generalize w0.alloc (.cells #[.int .u8 2] 5 (0,0))=w1 at *;have e:encRc (.reb b) = [2] ++ encBs b:=by show encU 2 ++ _=_; rw[bL (by decide)]; rfl
 rw[e];refine Ok.use (uL (l:=[2]) hy (aK.q hb (u0.trans u1 fun _ _ h=>h)) (by simp only[List.length_singleton]; omega)) ?_;rintro u w2 ⟨q2,f2,u2⟩;obtain⟨xa2,xc2,rfl,_⟩:=q2.form;simp(maxSteps:=3000000)(disch:=omega)only[push_cast,seval];exact⟨q2,fun g hg=>by
  have:=f2 g hg;omega,(u0.trans u1 fun _ _ h=>h).trans u2 fun _ _ h=>h⟩
theorem aAE {w:World}{n:Nat}(hn:n≤4611686018427387904) :
 Ok (den Tryz.prog 90 #[.int .i64 (n:Int)] w) fun u w'=>Bow w' u (encRc (.liv n))∧(∀g,u.ownBlock=some g→w.heap.size≤g)∧Upd NoB w w':=by
 refine aB (args:=[.int .i64 (n:Int)]) rs90 Tryz.func90 rfl mixed (by kernel_rfl) Q4 rfl ?_;have ew:IntKind.u64.wrap (n:Int)=(n:Int):=by rw[IntKind.wrap_u64]; omega
 simp(maxSteps:=3000000)(disch:=omega)only[push_cast,seval,ew];have hy:=m8 (w:=w) (x:=3);have u1:Upd NoB w (w.alloc (.cells #[.int .u8 3] 5 (0,0))):=Upd.alloc;generalize w.alloc (.cells #[.int .u8 3] 5 (0,0))=w1 at *;have e:encRc (.liv n) = [3] ++ encU n:=by show encU 3 ++ _=_; rw[bL (by decide)]; rfl
 rw[e];refine Ok.use (bV (b:=[3]) hy (n:=n) (by omega) (by decide)) ?_;rintro u w2 ⟨q2,f2,u2⟩;obtain⟨xa2,xc2,rfl,_⟩:=q2.form;simp(maxSteps:=3000000)(disch:=omega)only[push_cast,seval];exact⟨q2,fun g hg=>by
  have:=f2 g hg;have:=u1.size;omega,u1.trans u2 fun _ _ h=>h⟩
open Go
set_option maxRecDepth 100000
theorem dO (x:BitVec 32):BitVec.ofInt IntKind.u32.bits (x.toNat:Int)=x:=by
 show BitVec.ofInt 32 (x.toNat:Int)=x;rw[BitVec.ofInt_natCast,BitVec.ofNat_toNat,BitVec.setWidth_eq]
theorem jR (x:BitVec 32):IntKind.u32.wrap (x.toNat:Int)=(x.toNat:Int):=by
 have h1:=x.isLt;rw[IntKind.wrap_u32];omega
theorem aAF {x y:BitVec 32}:IntKind.u32.wrap ((BitVec.ofInt IntKind.u32.bits (x.toNat:Int) ||| BitVec.ofInt IntKind.u32.bits (y.toNat:Int)).toNat:Int)=((x ||| y).toNat:Int):=by
 rw[dO,dO]; exact jR (x ||| y)
theorem aAG {x y:BitVec 32}:IntKind.u32.wrap ((BitVec.ofInt IntKind.u32.bits (x.toNat:Int) &&& BitVec.ofInt IntKind.u32.bits (y.toNat:Int)).toNat:Int)=((x &&& y).toNat:Int):=by
 rw[dO,dO]; exact jR (x &&& y)
theorem aAH {x y:BitVec 32}:IntKind.u32.wrap ((BitVec.ofInt IntKind.u32.bits (x.toNat:Int) ^^^ BitVec.ofInt IntKind.u32.bits (y.toNat:Int)).toNat:Int)=((x ^^^ y).toNat:Int):=by
 rw[dO,dO]; exact jR (x ^^^ y)
theorem aAI {x y:BitVec 32}:IntKind.u32.wrap ((x.toNat:Int)+(y.toNat:Int))=((x+y).toNat:Int):=by
 rw[IntKind.wrap_u32,BitVec.toNat_add];have h1:=x.isLt;have h2:=y.isLt;omega
theorem aAJ {x:BitVec 32}{n:Nat}(h:n≤32):(x.toNat:Int).fdiv (2 ^ (min n IntKind.u32.bits))=((x >>> n).toNat:Int):=by
 rw[show min n IntKind.u32.bits=n from Nat.min_eq_left h,BitVec.toNat_ushiftRight,Nat.shiftRight_eq_div_pow];rw[Int.fdiv_eq_ediv_of_nonneg _ (Int.le_of_lt (Int.pow_pos (by decide))),Int.natCast_ediv,Int.natCast_pow];rfl
theorem aAK {x:BitVec 32}{n:Nat}(h:n≤32):IntKind.u32.wrap ((x.toNat:Int)*2 ^ (min n IntKind.u32.bits))=((x <<< n).toNat:Int):=by
 rw[show min n IntKind.u32.bits=n from Nat.min_eq_left h,IntKind.wrap_u32,BitVec.toNat_shiftLeft,Nat.shiftLeft_eq,Int.natCast_emod,Int.natCast_mul,Int.natCast_pow];rfl
def rot (x:BitVec 32)(n:Nat):BitVec 32:=x >>> n ||| x <<< (32-n)
attribute [push_cast] aAF aAG aAH aAI aAJ aAK
theorem cL {x:BitVec 32}{n:Nat}{w:World}(hn:1≤n)(hn:n≤31):Ok (den Tryz.prog 192 #[.int .u32 (x.toNat:Int),.int .u64 (n:Int)] w) fun v w'=>v = .int .u32 ((rot x n).toNat:Int)∧w=w':=by
 refine aB (args:=[.int .u32 (x.toNat:Int),.int .u64 (n:Int)]) rs192 Tryz.func192 rfl mixed (by kernel_rfl) TH rfl ?_;have e:IntKind.u64.wrap (32-(n:Int))=((32-n:Nat):Int):=by rw[IntKind.wrap_u64]; omega
 obtain⟨m,hm⟩ : ∃m,m=32-n:=⟨_,rfl⟩;rw[←hm] at e;simp(maxSteps:=3000000)(disch:=omega)only[push_cast,seval,e];rw[hm];rfl
def kTab:List Nat:=[1116352408,1899447441,3049323471,3921009573,961987163,1508970993,2453635748,2870763221,3624381080,310598401,607225278,1426881987,1925078388,2162078206,2614888103,3248222580,3835390401,4022224774,264347078,604807628,770255983,1249150122,1555081692,1996064986,2554220882,2821834349,2952996808,3210313671,3336571891,3584528711,113926993,338241895,666307205,773529912,1294757372,1396182291,1695183700,1986661051,2177026350,2456956037,2730485921,2820302411,3259730800,3345764771,3516065817,3600352804,4094571909,275423344,430227734,506948616,659060556,883997877,958139571,1322822218,1537002063,1747873779,1955562222,2024104815,2227730452,2361852424,2428436474,2756734187,3204031479,3329325298]
def kV (t:Nat):BitVec 32:=BitVec.ofNat 32 (kTab.getD t 0)
def byW (B:List Int)(i:Nat):BitVec 32:=BitVec.ofInt 32 (B.getD i 0)
def w0 (B:List Int)(t:Nat):BitVec 32:=byW B (4*t) <<< 24 ||| byW B (4*t+1) <<< 16 ||| byW B (4*t+2) <<< 8 ||| byW B (4*t+3)
def sg0 (x:BitVec 32):BitVec 32:=rot x 7 ^^^ rot x 18 ^^^ x >>> 3
def sg1 (x:BitVec 32):BitVec 32:=rot x 17 ^^^ rot x 19 ^^^ x >>> 10
def wS (B:List Int)(t:Nat):BitVec 32:=
 if t<16 then w0 B t else sg1 (wS B (t-2))+wS B (t-7)+sg0 (wS B (t-15))+wS B (t-16)
termination_by t
structure H8 where
 a:BitVec 32
 b:BitVec 32
 c:BitVec 32
 d:BitVec 32
 e:BitVec 32
 f:BitVec 32
 g:BitVec 32
 h:BitVec 32
def rndT1 (k x:BitVec 32)(s:H8):BitVec 32:=s.h+(rot s.e 6 ^^^ rot s.e 11 ^^^ rot s.e 25)+((s.e &&& s.f) ^^^ (~~~ s.e &&& s.g))+k+x
def rndT2 (s:H8):BitVec 32:=(rot s.a 2 ^^^ rot s.a 13 ^^^ rot s.a 22)+((s.a &&& s.b) ^^^ (s.a &&& s.c) ^^^ (s.b &&& s.c))
def rnd (k x:BitVec 32)(s:H8):H8:=⟨rndT1 k x s+rndT2 s,s.a,s.b,s.c,s.d+rndT1 k x s,s.e,s.f,s.g⟩
def rds (B:List Int)(s:H8):Nat→H8
 | 0=>s
 | t+1=>rnd (kV t) (wS B t) (rds B s t)
def addH (s u:H8):H8:=⟨s.a+u.a,s.b+u.b,s.c+u.c,s.d+u.d,s.e+u.e,s.f+u.f,s.g+u.g,s.h+u.h⟩
def blkP (B:List Int)(s:H8):H8:=addH (rds B s 64) s
def vW (x:BitVec 32):Value:=.int .u32 (x.toNat:Int)
def H8.row (s:H8):List Value:=[vW s.a,vW s.b,vW s.c,vW s.d,vW s.e,vW s.f,vW s.g,vW s.h]
def H8.val (s:H8):Value:=.agg s.row.toArray
def wRow (B:List Int)(t:Nat):List Value:=(List.range 64).map fun i=>if i<t then vW (wS B i) else .int .u32 0
theorem aAL {B:List Int}:wRow B 0=List.replicate 64 (.int .u32 0):=by
 refine List.eq_replicate_iff.2 ⟨by simp[wRow],fun x hx=>?_⟩;obtain⟨i,_,rfl⟩:=List.mem_map.1 hx;rw[if_neg (by omega)]
theorem gU {B:List Int}{t i:Nat}(h:i<t)(h2:i<64):(wRow B t)[i]? =some (vW (wS B i)):=by
 unfold wRow;simp[h,h2]
theorem uN {B:List Int}{t i:Nat}(h:t≤i)(h2:i<64):(wRow B t)[i]? =some (.int .u32 0):=by
 unfold wRow;simp[h2,Nat.not_lt.2 h]
theorem uO {B:List Int}{t:Nat}(h:t<64):(wRow B t).set t (vW (wS B t))=wRow B (t+1):=by
 apply List.ext_getElem?;intro i;unfold wRow;rw[List.getElem?_set];by_cases h1:t=i
 ·subst h1;simp[h]
 ·rw[if_neg h1];simp only[List.getElem?_map];by_cases h2:i<64
  ·rw[List.getElem?_range h2];simp only[Option.map_some,Option.some.injEq];by_cases h3:i<t
   ·rw[if_pos h3,if_pos (by omega)]
   ·rw[if_neg h3,if_neg (by omega)]
  ·rw[List.getElem?_eq_none (by simp; omega)];rfl
theorem aAM {B:List Int}{t:Nat}(h:t<16):wS B t=w0 B t:=by rw [wS,if_pos h]
theorem aAN {B:List Int}{t:Nat}(h:16≤t):wS B t=sg1 (wS B (t-2))+wS B (t-7)+sg0 (wS B (t-15))+wS B (t-16):=by rw [wS,if_neg (by omega)]
def set8 (w:World)(b:Nat)(s:H8):World:=(((((((w.setCell ⟨b,0,none⟩ (vW s.a)).setCell ⟨b,1,none⟩ (vW s.b)).setCell ⟨b,2,none⟩ (vW s.c)).setCell ⟨b,3,none⟩ (vW s.d)).setCell ⟨b,4,none⟩ (vW s.e)).setCell ⟨b,5,none⟩ (vW s.f)).setCell ⟨b,6,none⟩ (vW s.g)).setCell ⟨b,7,none⟩ (vW s.h)
theorem jS {w:World}{b:Nat}{s:H8}{E:TypeId}{cs:List Value}(hl:cs.length=8)(h:Blk w b cs E):Blk (set8 w b s) b s.row E:=by
 have h8:=(((((((h.set 0 (vW s.a)).set 1 (vW s.b)).set 2 (vW s.c)).set 3 (vW s.d)).set 4 (vW s.e)).set 5 (vW s.f)).set 6 (vW s.g)).set 7 (vW s.h);match cs,hl with
 | [_,_,_,_,_,_,_,_],_=>exact h8
theorem dP {w:World}{b:Nat}{s:H8}:Upd (fun x=>x=b) w (set8 w b s):=by
 have s0:Upd (fun x=>x=b) w (w.setCell ⟨b,0,none⟩ (vW s.a)):=Upd.set rfl;have s1:=s0.setIn (a:=⟨b,1,none⟩) (v:=vW s.b) rfl;have s2:=s1.setIn (a:=⟨b,2,none⟩) (v:=vW s.c) rfl;have s3:=s2.setIn (a:=⟨b,3,none⟩) (v:=vW s.d) rfl;have s4:=s3.setIn (a:=⟨b,4,none⟩) (v:=vW s.e) rfl;have s5:=s4.setIn (a:=⟨b,5,none⟩) (v:=vW s.f) rfl;have s6:=s5.setIn (a:=⟨b,6,none⟩) (v:=vW s.g) rfl;have s7:=s6.setIn (a:=⟨b,7,none⟩) (v:=vW s.h) rfl;exact s7
theorem aAO {w:World}{b:Nat}{s:H8}:(set8 w b s).heap.size=w.heap.size:=by
 unfold set8;simp only[bA]
def H8.get (s:H8):Nat→BitVec 32
 | 0=>s.a
 | 1=>s.b
 | 2=>s.c
 | 3=>s.d
 | 4=>s.e
 | 5=>s.f
 | 6=>s.g
 | _=>s.h
def addTo (r s:H8)(i:Nat):List Value:=(List.range 8).map fun j=>if j<i then vW (r.get j+s.get j) else vW (r.get j)
theorem aAP {r s:H8}:addTo r s 0=r.row:=rfl
theorem aAQ {r s:H8}:addTo r s 8=(addH r s).row:=rfl
theorem uP {s:H8}{i:Nat}(h:i<8):s.row[i]? =some (vW (s.get i)):=by
 match i,h with
 | 0,_=>rfl
 | 1,_=>rfl
 | 2,_=>rfl
 | 3,_=>rfl
 | 4,_=>rfl
 | 5,_=>rfl
 | 6,_=>rfl
 | 7,_=>rfl
theorem aAR {r s:H8}{i:Nat}(h:i<8):(addTo r s i)[i]? =some (vW (r.get i)):=by
 unfold addTo;simp[h]
theorem aAS {r s:H8}{i:Nat}(h:i<8):(addTo r s i).set i (vW (r.get i+s.get i))=addTo r s (i+1):=by
 match i,h with
 | 0,_=>rfl
 | 1,_=>rfl
 | 2,_=>rfl
 | 3,_=>rfl
 | 4,_=>rfl
 | 5,_=>rfl
 | 6,_=>rfl
 | 7,_=>rfl
theorem aAT {P:Program}{w:World}{x:BitVec 32}:unS (P:=P) .xor (.int .u32 (x.toNat:Int)) w=some (.int .u32 ((~~~x).toNat:Int),w):=by
 have h2:BitVec.ofInt 32 4294967295=BitVec.allOnes 32:=by decide
 have e:IntKind.u32.wrap ((BitVec.ofInt IntKind.u32.bits IntKind.u32.max ^^^ BitVec.ofInt IntKind.u32.bits (x.toNat:Int)).toNat:Int)=((~~~x).toNat:Int):=by
  rw[dO];show IntKind.u32.wrap ((BitVec.ofInt 32 4294967295 ^^^ x).toNat:Int)=_;rw[h2,BitVec.allOnes_xor];exact jR (~~~x)
 have h:(Op.unary .xor (.int .u32 (x.toNat:Int))).run P w = .ok (.int .u32 (IntKind.u32.wrap ((BitVec.ofInt IntKind.u32.bits IntKind.u32.max ^^^ BitVec.ofInt IntKind.u32.bits (x.toNat:Int)).toNat:Int))) w:=rfl;unfold unS lift;rw[h,e]
theorem aAU {k:IntKind}{n:Int}{w:World}:cnvS Tryz.prog 5 225 (.int k n) w=some (.int .u32 ((BitVec.ofInt 32 n).toNat:Int),w):=by
 have h:Tryz.prog.intKind 225 = .u32:=by kernel_rfl
 rw[bK (by kernel_rfl) (by kernel_rfl),h,IntKind.wrap_u32,BitVec.toNat_ofInt];congr 3;omega
attribute [push_cast] aAU vW aAT
end Go.Proofs.YtpgigkceoolgeaaGreatDoor.Fd
