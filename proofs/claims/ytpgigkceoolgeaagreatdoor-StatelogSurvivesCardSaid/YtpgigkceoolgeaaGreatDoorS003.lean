import Derived.Test.YtpgigkceoolgeaaGreatDoorS002
set_option linter.all false
namespace Go.Proofs.YtpgigkceoolgeaaGreatDoor.Fd
open Go
def reE (L:List Nat)(af:Array Edge):List Edge:=(af.toList.filter bindsA).map fun e=>{e with on:=L.idxOf e.on}
def reO (L:List Nat)(E:List (Nat×Nat))(k:Nat)(o:Oper):Oper:=
 {o with after:=(reE L o.after ++ (E.filter fun e=>e.2 == k).map fun e=>({on:=L.idxOf e.1,ground:=.data}:Edge)).toArray,guard:=o.guard.map fun g=>(L.idxOf g.1,g.2)}
def reOps (ops:Array Oper)(L:List Nat)(E:List (Nat×Nat)):Array Oper:=(L.map fun k=>reO L E k (ops.getD k default)).toArray
def permB (L:List Nat)(n:Nat):Bool:=L.length == n && ((List.range n).all fun k=>L.contains k) && ((List.range n).all fun m=>L.idxOf (L.getD m 0) == m) && L.all fun k=>decide (k<n)
theorem fV {L:List Nat}{n:Nat}(h:permB L n=true):L.length=n:=by
 simp only[permB,Bool.and_eq_true,beq_iff_eq] at h;exact h.1.1.1
theorem kS {L:List Nat}{n:Nat}(h:permB L n=true){k:Nat}:k∈L↔k<n:=by
 simp only[permB,Bool.and_eq_true,beq_iff_eq] at h;constructor
 ·intro hk;simpa using List.all_eq_true.1 h.2 k hk
 ·intro hk;simpa using List.all_eq_true.1 h.1.1.2 k (List.mem_range.2 hk)
theorem iK {L:List Nat}{n:Nat}(h:permB L n=true){k:Nat}(hk:k<n):L.idxOf k<n∧L[L.idxOf k]? =some k:=by
 have hlt:=List.idxOf_lt_length_of_mem ((kS h).2 hk);have:=fV h;exact⟨by omega,by rw[List.getElem?_eq_getElem hlt,List.getElem_idxOf]⟩
theorem A5 {L:List Nat}{n:Nat}(h:permB L n=true){k m:Nat}(hm:L[m]? =some k):k<n∧L.idxOf k=m∧m<n:=by
 have hl:=fV h;have hlt:m<L.length:=(List.getElem?_eq_some_iff.1 hm).1;have he:=(List.getElem?_eq_some_iff.1 hm).2;refine⟨(kS h).1 (by rw[←he]; exact List.getElem_mem hlt),?_,by omega⟩;simp only[permB,Bool.and_eq_true,beq_iff_eq] at h;have:=List.all_eq_true.1 h.1.2 m (List.mem_range.2 (by omega));rw[List.getD_eq_getElem?_getD,hm] at this;simpa using this
section
variable {P : Program} {ops : Array Oper} {L : List Nat} {E : List (Nat × Nat)}
theorem pA (h:permB L ops.size=true):(reOps ops L E).size=ops.size:=by
 simp only[reOps,List.size_toArray,List.length_map];exact fV h
theorem iL (h:permB L ops.size=true){m k:Nat}{o:Oper}(hm:L[m]? =some k)(ho:ops[k]? =some o):(reOps ops L E)[m]? =some (reO L E k o):=by
 simp only[reOps,List.getElem?_toArray,List.getElem?_map,hm,Option.map_some];rw[Array.getD_eq_getD_getElem?,ho];rfl
theorem A6 {k:Nat}{o:Oper}{e:Edge}(he:e∈(reO L E k o).after)(hb:bindsA e=true):(∃x,(x,k)∈E∧e.on=L.idxOf x)∨∃e0,e0∈o.after∧bindsA e0=true∧e.on=L.idxOf e0.on:=by
 simp only[reO,List.mem_toArray,List.mem_append] at he;rcases he with he | he
 ·right;obtain⟨e0,h0,rfl⟩:=List.mem_map.1 he;obtain⟨h1,h2⟩:=List.mem_filter.1 h0;exact⟨e0,Array.mem_toList_iff.1 h1,h2,rfl⟩
 ·left;obtain⟨e0,h0,rfl⟩:=List.mem_map.1 he;obtain⟨h1,h2⟩:=List.mem_filter.1 h0;refine⟨e0.1,?_,rfl⟩;have:e0.2=k:=by simpa using h2
  rw[←this];exact h1
theorem A7 {k:Nat}{o:Oper}{e0:Edge}(he:e0∈o.after)(hb:bindsA e0=true) : ∃e,e∈(reO L E k o).after∧bindsA e=true∧e.on=L.idxOf e0.on:=by
 refine⟨{e0 with on:=L.idxOf e0.on},?_,hb,rfl⟩;simp only[reO,List.mem_toArray,List.mem_append];exact .inl (List.mem_map.2 ⟨e0,List.mem_filter.2 ⟨Array.mem_toList_iff.2 he,hb⟩,rfl⟩)
theorem fW {ops:Array Oper}{listed:Array Bool}(hls:listed.size=ops.size){i:Nat}:i∈Region.ready .any ops listed↔
 ∃o,ops[i]? =some o∧listed.getD i false=false∧∀e∈o.after,bindsA e=true→listed.getD e.on false=true:=by
 unfold Region.ready;rw[List.mem_filter,List.mem_range];constructor
 ·rintro⟨hi,h⟩;have ho:ops[i]? =some ops[i]:=by simp[hi]
  rw[ho] at h;simp only[Bool.and_eq_true,Bool.not_eq_true',Option.map_some,Option.getD_some] at h;refine⟨_,ho,?_,fun e he hb=>?_⟩
  ·have h1:=h.1;rw[Array.getD_eq_getD_getElem?,Array.getElem?_eq_getElem (by omega)] at h1 ⊢;exact h1
  ·have h2:=Array.all_eq_true'.1 h.2 e he;simp only[Bool.or_eq_true,Bool.not_eq_true'] at h2;rcases h2 with h2 | h2
   ·unfold bindsA at hb; rw[h2] at hb; cases hb
   ·exact h2
 ·rintro⟨o,ho,h1,h2⟩;have hi:=(Array.getElem?_eq_some_iff.1 ho).1;refine⟨hi,?_⟩;rw[ho];simp only[Bool.and_eq_true,Bool.not_eq_true',Option.map_some,Option.getD_some];refine⟨?_,Array.all_eq_true'.2 fun e he=>?_⟩
  ·rw[Array.getD_eq_getD_getElem?,Array.getElem?_eq_getElem (by omega)] at h1 ⊢;exact h1
  ·simp only[Bool.or_eq_true,Bool.not_eq_true'];by_cases hb:bindsA e=true
   ·exact .inr (h2 e he hb)
   ·left;simpa[bindsA] using hb
theorem A8 {ops:Array Oper}{L:List Nat}{E:List (Nat×Nat)}(h:permB L ops.size=true){k:Nat}{o:Oper}{tmps:Array Value}(hg : ∀g,o.guard=some g→g.1<ops.size) :
 Region.wanted (reO L E k o) (yielded (reOps ops L E) tmps)=Region.wanted o (yielded ops tmps):=by
 unfold Region.wanted;cases hgo:o.guard with
 | none=>simp[reO,hgo]
 | some g=>
  obtain⟨j,b⟩:=g;have hj:=hg _ hgo;simp only at hj;obtain⟨h1,h2⟩:=iK h hj;have hjo:ops[j]? =some ops[j]:=by simp[hj]
  have e:yielded (reOps ops L E) tmps (L.idxOf j)=yielded ops tmps j:=by
   unfold yielded;rw[iL h h2 hjo,hjo];rfl
  simp only[reO,hgo,Option.map_some,e]
theorem A9 {Q:Exit→Act→World→Prop}(h:permB L ops.size=true)(hg : ∀(k:Nat) (o:Oper) (g:Nat×Bool),ops[k]? =some o→o.guard=some g→g.1<ops.size)(hx : ∀e,e∈E→e.1<ops.size) :
 ∀(fuel t:Nat) (l l':Array Bool) (a:Act) (w:World),l.size=ops.size→l'.size=ops.size→(∀k,k<ops.size→l'.getD (L.idxOf k) false=l.getD k false)→
  (∀e,e∈E→l.getD e.1 false=true∨(Region.linearise.go .any ops fuel t l []).idxOf e.1<(Region.linearise.go .any ops fuel t l []).idxOf e.2∨e.2∉Region.linearise.go .any ops fuel t l [])→
  wpAny P .any (reOps ops L E) Q fuel l' a w→wpOps P ops Q (Region.linearise.go .any ops fuel t l []) a w:=by
 have hsz:=pA (E:=E) h;intro fuel;induction fuel with
 | zero=>intro t l l' a w _ _ _ _ hw; simpa[Region.linearise.go,wpOps] using hw.2
 | succ fuel ih=>
  intro t l l' a w hl hl' hrel hord hw;obtain⟨h0,h1⟩:=hw;have hr1 : ∀i,i∈Region.ready .any ops l→(∀e,e∈E→i=e.2→l.getD e.1 false=true)→L.idxOf i∈Region.ready .any (reOps ops L E) l':=by
   intro i hi hxy;obtain⟨o,ho,g1,g2⟩:=(fW hl).1 hi;have hin:=(Array.getElem?_eq_some_iff.1 ho).1;obtain⟨p1,p2⟩:=iK h hin;refine(fW (by rw[hl',hsz])).2 ⟨_,iL h p2 ho,by rw[hrel i hin]; exact g1,fun e he hb=>?_⟩;rcases A6 he hb with ⟨x,q1,q2⟩ | ⟨e0,q1,q2,q3⟩
   ·rw[q2,hrel x (hx _ q1)];exact hxy _ q1 rfl
   ·have h3:=g2 e0 q1 q2;have hlt:e0.on<ops.size:=by
     refine Classical.byContradiction fun hn=>?_;rw[Array.getD_eq_getD_getElem?,Array.getElem?_eq_none (by omega)] at h3;cases h3
    rw[q3,hrel _ hlt];exact h3
  simp only[Region.linearise.go] at hord ⊢;change ∀e,e∈E→(l.getD e.1 false=true∨(match (Region.ready .any ops l)[t%(Region.ready .any ops l).length]? with
   | some i=>Region.linearise.go .any ops fuel (t/(Region.ready .any ops l).length) (l.setIfInBounds i true) [i]
   | none=>[].reverse).idxOf e.1<(match (Region.ready .any ops l)[t%(Region.ready .any ops l).length]? with
   | some i=>Region.linearise.go .any ops fuel (t/(Region.ready .any ops l).length) (l.setIfInBounds i true) [i]
   | none=>[].reverse).idxOf e.2∨e.2∉(match (Region.ready .any ops l)[t%(Region.ready .any ops l).length]? with
   | some i=>Region.linearise.go .any ops fuel (t/(Region.ready .any ops l).length) (l.setIfInBounds i true) [i]
   | none=>[].reverse)) at hord
  change wpOps P ops Q (match (Region.ready .any ops l)[t%(Region.ready .any ops l).length]? with
   | some i=>Region.linearise.go .any ops fuel (t/(Region.ready .any ops l).length) (l.setIfInBounds i true) [i]
   | none=>[].reverse) a w
  cases hi:(Region.ready .any ops l)[t%(Region.ready .any ops l).length]? with
  | none=>
   have hnil:Region.ready .any ops l = []:=by
    cases hr:Region.ready .any ops l with
    | nil=>rfl
    | cons z zs=>
     rw[hr] at hi;have hlt:t%(z :: zs).length<(z :: zs).length:=Nat.mod_lt _ (by simp);rw[List.getElem?_eq_none_iff] at hi;omega
   have hnil':Region.ready .any (reOps ops L E) l' = []:=by
    refine List.eq_nil_iff_forall_not_mem.2 fun m hm=>?_;obtain⟨o',ho',g1,g2⟩:=(fW (by rw[hl',hsz])).1 hm;have hml:m<L.length:=by
     have:=(Array.getElem?_eq_some_iff.1 ho').1;have h2:=fV h;omega
    have hLm:L[m]? =some L[m]:=List.getElem?_eq_getElem hml;obtain⟨k1,k2,k3⟩:=A5 h hLm;generalize L[m]=k at *;have hko:ops[k]? =some ops[k]:=by simp[k1]
    generalize ops[k]=o at hko;rw[iL h hLm hko] at ho';injection ho' with ho';subst ho';have:k∈Region.ready .any ops l:=(fW hl).2 ⟨o,hko,by rw[←hrel k k1,k2]; exact g1,fun e he hb=>by
     obtain⟨e',q1,q2,q3⟩:=A7 (L:=L) (E:=E) (k:=k) he hb;have h3:=g2 e' q1 q2;rw[q3] at h3;by_cases hlt:e.on<ops.size
     ·rw[hrel _ hlt] at h3; exact h3
     ·exfalso;have hno:e.on∉L:=fun hmem=>hlt ((kS h).1 hmem);have hlen:=fV h;rw[List.idxOf_eq_length hno,Array.getD_eq_getD_getElem?,Array.getElem?_eq_none (by omega)] at h3;cases h3⟩
    rw[hnil] at this;cases this
   simpa[wpOps] using h0 hnil'
  | some i=>
   rw[hi] at hord;simp only[] at hord ⊢;rw[linearise_go_acc,List.reverse_singleton,List.singleton_append] at hord ⊢;rw[wpOps_cons];have hmem:=List.mem_of_getElem? hi;have hxy : ∀e,e∈E→i=e.2→l.getD e.1 false=true:=by
    intro p hp e;rcases hord p hp with hord | hord | hord
    ·exact hord
    ·exfalso;rw[←e,List.idxOf_cons_self] at hord;omega
    ·exact absurd (by rw[e]; exact List.mem_cons_self) hord
   obtain⟨o,ho,g1,g2⟩:=(fW hl).1 hmem;have hin:=(Array.getElem?_eq_some_iff.1 ho).1;obtain⟨p1,p2⟩:=iK h hin;have hw2:=h1 _ (hr1 i hmem hxy);unfold wpOp at hw2 ⊢;rw[iL h p2 ho] at hw2;rw[ho];simp only at hw2 ⊢;rw[A8 h (hg i o · ho)] at hw2;have next : ∀a w,wpAny P .any (reOps ops L E) Q fuel (l'.setIfInBounds (L.idxOf i) true) a w→wpOps P ops Q (Region.linearise.go .any ops fuel (t/(Region.ready .any ops l).length) (l.setIfInBounds i true) []) a w:=by
    intro a w hw;refine ih _ _ _ a w (by simpa using hl) (by simpa using hl') (fun k hk=>?_) ?_ hw
    ·obtain⟨r1,r2⟩:=iK h hk;by_cases e:k=i
     ·subst e;rw[Array.getD_eq_getD_getElem?,Array.getD_eq_getD_getElem?,Array.getElem?_setIfInBounds_self_of_lt (by omega),Array.getElem?_setIfInBounds_self_of_lt (by omega)]
     ·have hne:L.idxOf i≠L.idxOf k:=by
       intro e2;rw[e2,r2] at p2;injection p2 with p2;exact e p2
      rw[Array.getD_eq_getD_getElem?,Array.getD_eq_getD_getElem?,Array.getElem?_setIfInBounds_ne hne,Array.getElem?_setIfInBounds_ne (fun e2=>e e2.symm),←Array.getD_eq_getD_getElem?,←Array.getD_eq_getD_getElem?];exact hrel k hk
    ·intro p hp;by_cases e:i=p.1
     ·left;rw[←e,Array.getD_eq_getD_getElem?,Array.getElem?_setIfInBounds_self_of_lt (by omega)];rfl
     ·rcases hord p hp with hord | hord | hord;rotate_left 2
      ·exact .inr (.inr fun hm=>hord (List.mem_cons_of_mem _ hm))
      ·left;rw[Array.getD_eq_getD_getElem?,Array.getElem?_setIfInBounds_ne e,←Array.getD_eq_getD_getElem?];exact hord
      ·by_cases e2:i=p.2
       ·left;rw[Array.getD_eq_getD_getElem?,Array.getElem?_setIfInBounds_ne e,←Array.getD_eq_getD_getElem?];exact hxy p hp e2
       ·right;left;have q1:(i == p.1)=false:=by simpa using e
        have q2:(i == p.2)=false:=by simpa using e2
        rw[List.idxOf_cons,List.idxOf_cons,q1,q2] at hord;simp only[cond_false] at hord;omega
   split at hw2
   ·rename_i hwt;rw[if_pos hwt];refine hw2.imp (fun hh=>?_) (fun hh=>hh);exact Oper.wp_mono next hh
   ·rename_i hwt;rw[if_neg hwt];exact next _ _ hw2
def wpAt (f:FuncId)(P:Program)(c:Code)(Q:Exit→Act→World→Prop)(a:Act)(w:World):Prop:=
 ∀(b:Frame) (k:List Item) (cs:List Frame),b.fn=f→∃e a' w',Q e a' w'∧Arrives P (lone (b.at a (.code c :: k)) cs w) b k cs e a' w'
theorem wpAt.of {f:FuncId}{c:Code}{Q:Exit→Act→World→Prop}{a:Act}{w:World}(h:c.wp P Q a w):wpAt f P c Q a w:=fun b k cs _=>h b k cs
theorem BA {f:FuncId}{x y:Code}{Q:Exit→Act→World→Prop}{a:Act}{w:World}(h:wpAt f P x (Exit.then (wpAt f P y Q) Q) a w):wpAt f P (Code.seq x y) Q a w:=by
 intro b k cs hb;obtain⟨e,a₁,w₁,hq,harr⟩:=h b (.code y :: k) cs hb;cases e with
 | normal=>
  obtain⟨e₂,a₂,w₂,hq₂,harr₂⟩:=hq b k cs hb;exact⟨e₂,a₂,w₂,hq₂,.of_steps (.head step_seq harr) harr₂⟩
 | exit id=>exact⟨_,a₁,w₁,hq,.of_steps (.one step_seq) (.pass (x:=.code y) rfl (fun _ _=>.inl (by simp)) harr)⟩
 | goto l=>exact⟨_,a₁,w₁,hq,.of_steps (.one step_seq) (.pass (x:=.code y) rfl (fun _ _=>.inl (by simp)) harr)⟩
 | ret=>exact⟨_,a₁,w₁,hq,.of_steps (.one step_seq) (.pass (x:=.code y) rfl (fun _ _=>.inl (by simp)) harr)⟩
 | panic ch=>exact⟨_,a₁,w₁,hq,.of_steps (.one step_seq) (.pass (x:=.code y) rfl (fun _ _=>.inl (by simp)) harr)⟩
 | outgrown=>exact⟨_,a₁,w₁,hq,.of_steps (.one step_seq) (.pass (x:=.code y) rfl (fun _ _=>.inl (by simp)) harr)⟩
theorem pB {f:FuncId}{id:Nat}{Q:Exit→Act→World→Prop}{a:Act}{w:World}(hm:P.follows .mixedOrders=true)
 (h:wpOps P ops Q (Region.linearise .any ops (w.tape w.drawn (.order f id))) a w.drew):wpAt f P (.region id ops true) Q a w:=by
 intro b k cs hb;have h2:wpOps P ops Q (Region.schedule (P.follows .mixedOrders) ops (w.tape w.drawn (.order b.fn id))) a w.drew:=by
  rw[hb];simp only[Region.schedule,hm,Bool.true_or,if_true];exact h
 obtain⟨e,a',w',q,r⟩:=wp_ops _ a _ h2 b k cs;exact⟨e,a',w',q,.of_steps (.one step_region_draw) r⟩
theorem BB {f:FuncId}{fn:Func}{c:Code}{args:Array Value}{w:World}{R:Ending→World→Prop}
 (hf:P.funcs[f]? =some fn) (hb:fn.body=some c)
 (h:wpAt f P c (bodyPost P fn R) {tmps:=args ++ Array.replicate (fn.ntmps-args.size) undef,defers:=[]} w):Calls P f args w R:=by
 intro cs;let b:Frame:={(default:Frame) with fn:=f,kind:=.normal};have henter:Frame.enter P f args .normal=b.at {tmps:=args ++ Array.replicate (fn.ntmps-args.size) undef,defers:=[]} [.code c]:=by
  simp[Frame.enter,Frame.at,hf,hb,b]
 obtain⟨e,a',w',hq,harr⟩:=h b [] cs rfl;rw[←henter] at harr;cases e with
 | normal=>
  obtain⟨hd,v,hr,hR⟩:=hq;exact⟨.returned v,w',_,hR,Steps.trans harr (.one step_end),rfl,rfl,hd,rfl,fn,hf,hr⟩
 | ret=>
  obtain⟨hd,v,hr,hR⟩:=hq;obtain⟨todo,hs⟩:=harr;exact⟨.returned v,w',_,hR,hs,rfl,rfl,hd,rfl,fn,hf,hr⟩
 | panic chain=>
  obtain⟨hd,hR⟩:=hq;obtain⟨todo,hs⟩:=harr;exact⟨.panicked chain,w',_,hR,hs,rfl,rfl,hd,fn,hf⟩
 | exit id=>exact hq.elim
 | goto l=>exact hq.elim
 | outgrown=>exact⟨.outgrown,w',b,hq,harr.resolve_left (by simp[b]),rfl,trivial⟩
end
section
variable {P : Program} {D : Den} {N : Nat} {V : List Nat}
theorem BC {ops:Array Oper}{effs:List Nat}{fwd bwd:List (Nat×List Nat)}(hD:SoundD P D){V':List Nat}{a:Act}{ρ ρ':Env}{w w':World}
 (hok:okDraw ops effs fwd bwd=true) (hV:okReg N ops ops.toList V=some V') (hs:Sim N V a ρ)
 (hr:runD P D ops effs fwd bwd 0 ops.toList ρ w []=some (ρ',w')) (Q:Exit→Act→World→Prop)
 (hQ : ∀a',a'.tmps.size=N→a'.defers = []→(∀t,(t∈V∨t∈dstsOf ops.toList)→a'.tmps.getD t undef=ρ' t)→
  (∀t,t∉dstsOf ops.toList→a'.tmps.getD t undef=a.tmps.getD t undef)→Q .normal a' w') :
 wpAny P .any ops Q ops.size (Array.replicate ops.size false) a w:=by
 have C:=oV hok hV;obtain⟨es,vs,ws,T,e1,e2,e3,e4,_⟩:=oU hr rfl (fun i o hi=>by simpa using hi);simp only[Nat.zero_add,Array.length_toList] at T e3 e4;refine oX hD C T (F:=fun a'=>∀t,t∉dstsOf ops.toList→a'.tmps.getD t undef=a.tmps.getD t undef) ?_ ?_ _ _ _ _ (by simp) ?_ ?_ ?_
 ·intro a1 i o v ho h1 h2 h3 t ht;rw[fP (by rw[h1]; exact h2),if_neg]
  ·exact h3 t ht
  ·intro e;refine ht ?_;unfold dstsOf;exact List.mem_filterMap.2 ⟨o,Array.mem_toList_iff.2 (Array.mem_of_getElem? ho),e⟩
 ·intro a' hf I;rw[e4];refine hQ a' I.size I.defers (fun t ht=>?_) hf;rw[I.val t ?_,kO (Nat.le_refl _),kN T (Nat.le_refl _),e3];rcases ht with h | h
  ·exact .inl h
  ·unfold dstsOf at h;rw[List.mem_filterMap] at h;obtain⟨o,ho,hd⟩:=h;obtain⟨j,hj,hjo⟩:=Array.mem_iff_getElem.1 (Array.mem_toList_iff.1 ho);exact .inr ⟨j,hj,by simp[hj],by simp[dstN,hj,hjo,hd]⟩
 ·simp
 ·exact fun _ _=>rfl
 ·refine⟨hs.size,hs.defers,?_,?_,?_⟩
  ·intro i o e hi;simp[Array.getD] at hi
  ·intro t ht;have hS:(fun i=>(Array.replicate ops.size false).getD i false)=fun _=>false:=by
    funext i;simp[Array.getD]
   rw[hS];have hno : ∀k,envA ops vs (es 0) (fun _=>false) k=es 0:=by
    intro k;induction k with
    | zero=>rfl
    | succ k ih=>simp[envA,ih]
   rw[hno,e1];rcases ht with h | ⟨j,_,h2,_⟩
   ·exact hs.val t h
   ·simp[Array.getD] at h2
  ·have hS:(fun i=>(Array.replicate ops.size false).getD i false)=fun _=>false:=by
    funext i;simp[Array.getD]
   rw[hS];have hno : ∀k,wA effs ws (fun _=>false) k=ws 0:=by
    intro k;induction k with
    | zero=>rfl
    | succ k ih=>simp[wA,ih]
   rw[hno,e2]
def guardB (ops:Array Oper):Bool:=ops.toList.all fun o=>match o.guard with | some g=>decide (g.1<ops.size) | none=>true
def altB (N:Nat)(ops:Array Oper)(A:Alt)(keep V:List Nat):Bool:=
 permB A.perm ops.size && (okReg N A.ops A.ops.toList V).isSome && sub keep (dstsOf A.ops.toList ++ V) && okDraw A.ops A.effs A.fwd A.bwd &&
 sub (dstsOf A.ops.toList) (dstsOf ops.toList) && sub (dstsOf ops.toList) (dstsOf A.ops.toList)
def treeB (N:Nat)(ops:Array Oper)(keep V:List Nat):ATree→Bool
 | .leaf A=>altB N ops A keep V
 | .node i j s t=>decide (i<ops.size) && decide (j<ops.size) && decide (i≠j) && treeB N ops keep V s && treeB N ops keep V t
def treeEq (ops:Array Oper):ATree→List (Nat×Nat)→Prop
 | .leaf A,E=>A.ops=reOps ops A.perm E
 | .node i j s t,E=>treeEq ops s ((i,j) :: E)∧treeEq ops t ((j,i) :: E)
def flowS (f N:Nat):Code→Plan→List Nat→Option Fl
 | .region _ ops true,.alt g i j keep A B,V=>
  if decide (g=f) && decide (i<ops.size) && decide (j<ops.size) && decide (i≠j) && guardB ops && altB N ops A keep V && altB N ops B keep V then some ⟨some (outV (dstsOf ops.toList) keep V),[],none⟩ else none
 | .region _ ops true,.alts g keep T,V=>if decide (g=f) && guardB ops && treeB N ops keep V T then some ⟨some (outV (dstsOf ops.toList) keep V),[],none⟩ else none
 | .seq a b,.two p q,V=>
  match flowS f N a p V with
  | none=>none
  | some F=>match F.nor with
   | none=>some F
   | some V1=>match flowS f N b q V1 with
    | none=>none
    | some g=>some ⟨g.nor,F.exs ++ g.exs,meet F.ret g.ret⟩
 | c,p,V=>flow N c p V
def altEq:Code→Plan→Prop
 | .seq a b,.two p q=>altEq a p∧altEq b q
 | .region _ ops true,.alt _ i j _ A B=>A.ops=reOps ops A.perm [(i,j)]∧B.ops=reOps ops B.perm [(j,i)]
 | .region _ ops true,.alts _ _ T=>treeEq ops T []
 | _,_=>True
theorem kT {ops:Array Oper}(hD:SoundD P D){A:Alt}{E:List (Nat×Nat)}{keep:List Nat}(hA:A.ops=reOps ops A.perm E)(hB:altB N ops A keep V=true)(hgd:guardB ops=true)(hx : ∀e,e∈E→e.1<ops.size){t:Nat}
 (hord : ∀e,e∈E→(Region.linearise .any ops t).idxOf e.1<(Region.linearise .any ops t).idxOf e.2∨e.2∉Region.linearise .any ops t) {a:Act} {ρ ρ':Env} {w w':World} (hs:Sim N V a ρ)
 (hr:runD P D A.ops A.effs A.fwd A.bwd 0 A.ops.toList ρ w []=some (ρ',w')) (Q:Exit→Act→World→Prop)
 (hQ : ∀a',Sim N (outV (dstsOf ops.toList) keep V) a' (keepE keep ρ ρ')→(∀t,t∉dstsOf ops.toList→a'.tmps.getD t undef=a.tmps.getD t undef)→Q .normal a' w') :
 wpOps P ops Q (Region.linearise .any ops t) a w:=by
 simp only[altB,Bool.and_eq_true] at hB;obtain⟨⟨⟨⟨⟨h1,h2⟩,h3⟩,h4⟩,h5⟩,h6⟩:=hB;have hsz:A.ops.size=ops.size:=by rw[hA]; exact pA h1
 obtain⟨V',hV⟩:=Option.isSome_iff_exists.1 h2;have hd : ∀t,t∉dstsOf ops.toList↔t∉dstsOf A.ops.toList:=fun t=>⟨fun h hm=>h (cN h5 t hm),fun h hm=>h (cN h6 t hm)⟩;have hw:=BC hD h4 hV hs hr Q fun a' g1 g2 g3 g4=>by
  have g4' : ∀t,t∉dstsOf ops.toList→a'.tmps.getD t undef=a.tmps.getD t undef:=fun t ht=>g4 t ((hd t).1 ht);refine hQ a' (kP hs g1 g2 (fun t ht=>g3 t ?_) g4') g4';rcases List.mem_append.1 (cN h3 t ht) with h | h
  ·exact .inr h
  ·exact .inl h
 rw[hsz] at hw;unfold Region.linearise at hord ⊢;refine A9 h1 (fun k o g ho hg=>?_) hx ops.size t (Array.replicate ops.size false) (Array.replicate ops.size false) a w (by simp) (by simp) (fun k hk=>?_) (fun e he=>.inr (hord e he)) (by rw[←hA]; exact hw)
 ·have:=List.all_eq_true.1 hgd o (Array.mem_toList_iff.2 (Array.mem_of_getElem? ho));rw[hg] at this;simpa using this
 ·simp[Array.getD]
theorem pC {o:List Nat}{i j:Nat}(hij:i≠j)(hp : ¬o.idxOf i<o.idxOf j):o.idxOf j<o.idxOf i∨i∉o:=by
 by_cases hmem:i∈o
 ·left;refine Nat.lt_of_le_of_ne (Nat.le_of_not_lt hp) fun heq=>hij ?_;have h1:=List.idxOf_lt_length_of_mem hmem;have h2:=List.getElem_idxOf h1;have h3:o.idxOf j<o.length:=by rw[heq]; exact h1
  have h4:=List.getElem_idxOf h3;rw[←h2,←h4];simp only[heq]
 ·exact .inr hmem
theorem kU {ops:Array Oper}(hD:SoundD P D){keep:List Nat}(hgd:guardB ops=true){t:Nat}{a:Act}{ρ ρ':Env}{w w':World}(hs:Sim N V a ρ)
 (Q:Exit→Act→World→Prop)
 (hQ : ∀a',Sim N (outV (dstsOf ops.toList) keep V) a' (keepE keep ρ ρ')→(∀t,t∉dstsOf ops.toList→a'.tmps.getD t undef=a.tmps.getD t undef)→Q .normal a' w') :
 ∀(T:ATree) (E:List (Nat×Nat)),treeEq ops T E→treeB N ops keep V T=true→(∀e,e∈E→e.1<ops.size)→
  (∀e,e∈E→(Region.linearise .any ops t).idxOf e.1<(Region.linearise .any ops t).idxOf e.2∨e.2∉Region.linearise .any ops t)→
  runT P D (Region.linearise .any ops t) T ρ w=some (ρ',w')→wpOps P ops Q (Region.linearise .any ops t) a w
 | .leaf A,E,hE,hB,hx,hord,hr=>kT hD hE hB hgd hx hord hs hr Q hQ
 | .node i j s u,E,hE,hB,hx,hord,hr=>by
  simp only[treeB,Bool.and_eq_true,decide_eq_true_eq] at hB;obtain⟨⟨⟨⟨c1,c2⟩,c3⟩,c4⟩,c5⟩:=hB;simp only[runT] at hr;by_cases hp:(Region.linearise .any ops t).idxOf i<(Region.linearise .any ops t).idxOf j
  ·rw[if_pos hp] at hr;refine kU hD hgd hs Q hQ s _ hE.1 c4 ?_ ?_ hr
   ·intro e he;rcases List.mem_cons.1 he with rfl | he
    ·exact c1
    ·exact hx e he
   ·intro e he;rcases List.mem_cons.1 he with rfl | he
    ·exact .inl hp
    ·exact hord e he
  ·rw[if_neg hp] at hr;refine kU hD hgd hs Q hQ u _ hE.2 c5 ?_ ?_ hr
   ·intro e he;rcases List.mem_cons.1 he with rfl | he
    ·exact c2
    ·exact hx e he
   ·intro e he;rcases List.mem_cons.1 he with rfl | he
    ·exact pC c3 hp
    ·exact hord e he
theorem kW (hD:SoundD P D)(hm:P.follows .mixedOrders=true){f:FuncId}{c:Code}{p:Plan}{V:List Nat}{F:Fl}(hF:flow N c p V=some F)
 {ρ ρ':Env} {w w':World} {e:Exit} (hr:run P D c p ρ w=some (e,ρ',w')) {a:Act} (hs:Sim N V a ρ)
 (Q:Exit→Act→World→Prop) (hQ : ∀a',SimAt N F a' ρ' e→(∀t,t∉writes c→a'.tmps.getD t undef=a.tmps.getD t undef)→Q e a' w'):wpAt f P c Q a w:=wpAt.of (oY hD hm c hF hr hs Q hQ)
theorem BD (hD:SoundD P D)(hm:P.follows .mixedOrders=true)(f:FuncId) : ∀(c:Code) {p:Plan} {V:List Nat} {F:Fl},flowS f N c p V=some F→altEq c p→
 ∀{ρ ρ':Env} {w w':World} {e:Exit},run P D c p ρ w=some (e,ρ',w')→∀{a:Act},Sim N V a ρ→
 ∀Q:Exit→Act→World→Prop,(∀a',SimAt N F a' ρ' e→(∀t,t∉writes c→a'.tmps.getD t undef=a.tmps.getD t undef)→Q e a' w')→wpAt f P c Q a w:=by
 intro c;induction c with
 | region id ops draw=>
  intro p V F hF hE ρ ρ' w w' e hr a hs Q hQ;cases draw with
  | false=>exact kW hD hm (by cases p <;> exact hF) hr hs Q hQ
  | true=>
   cases p with
   | alt g i j keep A B=>
    simp only[flowS] at hF;split at hF
    ·rename_i hc;simp only[Bool.and_eq_true,decide_eq_true_eq] at hc;obtain⟨⟨⟨⟨⟨⟨c1,c2⟩,c3⟩,c4⟩,c5⟩,c6⟩,c7⟩:=hc;subst c1;simp only[Option.some.injEq] at hF;subst hF;obtain⟨hE1,hE2⟩:=hE;simp only[run] at hr;cases hl:runA P D (pick g id ops i j w) A B ρ w.drew with
     | none=>rw[hl] at hr; cases hr
     | some x=>
      obtain⟨ρ1,w1⟩:=x;rw[hl] at hr;simp only[regK,Option.some.injEq,Prod.mk.injEq] at hr;obtain⟨rfl,rfl,rfl⟩:=hr;refine pB hm ?_;unfold runA at hl;by_cases hp:pick g id ops i j w=true
      ·rw[if_pos hp] at hl;unfold pick at hp;exact kT hD hE1 c6 c5 (fun e he=>by rw[List.mem_singleton.1 he]; exact c2) (fun e he=>by rw[List.mem_singleton.1 he]; exact .inl (of_decide_eq_true hp)) hs hl Q fun a' s' f'=>hQ a' ⟨_,rfl,s'⟩ f'
      ·rw[if_neg hp] at hl;unfold pick at hp;simp only[decide_eq_true_eq] at hp;exact kT hD hE2 c7 c5 (fun e he=>by rw[List.mem_singleton.1 he]; exact c3) (fun e he=>by rw[List.mem_singleton.1 he]; exact pC c4 hp) hs hl Q fun a' s' f'=>hQ a' ⟨_,rfl,s'⟩ f'
    ·cases hF
   | alts g keep T=>
    simp only[flowS] at hF;split at hF
    ·rename_i hc;simp only[Bool.and_eq_true,decide_eq_true_eq] at hc;obtain⟨⟨c1,c5⟩,c6⟩:=hc;subst c1;simp only[Option.some.injEq] at hF;subst hF;simp only[run] at hr;cases hl:runT P D (Region.linearise .any ops (w.tape w.drawn (.order g id))) T ρ w.drew with
     | none=>rw[hl] at hr; cases hr
     | some x=>
      obtain⟨ρ1,w1⟩:=x;rw[hl] at hr;simp only[regK,Option.some.injEq,Prod.mk.injEq] at hr;obtain⟨rfl,rfl,rfl⟩:=hr;refine pB hm ?_;exact kU hD c5 hs Q (fun a' s' f'=>hQ a' ⟨_,rfl,s'⟩ f') T [] hE c6 (fun e he=>by cases he) (fun e he=>by cases he) hl
    ·cases hF
   | _=>exact kW hD hm hF hr hs Q hQ
 | seq x y ihx ihy=>
  intro p V F hF hE ρ ρ' w w' e hr a hs Q hQ;cases p with
  | two p q=>
   simp only[flowS] at hF;obtain⟨hEx,hEy⟩:=hE;simp only[run] at hr;cases hfx:flowS f N x p V with
   | none=>rw[hfx] at hF; cases hF
   | some fl=>
    rw[hfx] at hF;simp only at hF;cases hrx:run P D x p ρ w with
    | none=>rw[hrx] at hr; cases hr
    | some o=>
     obtain⟨e1,ρ1,w1⟩:=o;rw[hrx] at hr;refine BA (ihx hfx hEx hrx hs _ fun a1 s1 f1=>?_);cases hn:fl.nor with
     | none=>
      rw[hn] at hF;simp only[Option.some.injEq] at hF;subst hF;cases e1 with
      | normal=>
       obtain⟨V1,h1,_⟩:=s1;rw[hn] at h1; cases h1
      | _=>
       simp only[seqK,Option.some.injEq,Prod.mk.injEq] at hr;obtain⟨rfl,rfl,rfl⟩:=hr;exact hQ a1 s1 fun t ht=>f1 t fun hm=>ht (List.mem_append_left _ hm)
     | some V1=>
      rw[hn] at hF;simp only at hF;cases hfy:flowS f N y q V1 with
      | none=>rw[hfy] at hF; cases hF
      | some g=>
       rw[hfy] at hF;simp only[Option.some.injEq] at hF;subst hF;cases e1 with
       | normal=>
        obtain⟨V2,h1,s1⟩:=s1;rw[hn,Option.some.injEq] at h1;subst h1;simp only[seqK] at hr;refine ihy hfy hEy hr s1 Q fun a' s' f'=>hQ a' ?_ fun t ht=>?_
        ·cases e with
         | normal=>exact s'
         | exit id=>
          obtain⟨W,h1,h2⟩:=s';exact⟨W,List.mem_append_right _ h1,h2⟩
         | ret=>
          obtain⟨W,h1,h2⟩:=s';simp only[SimAt,h1];exact dT h2
         | goto l=>exact s'
         | panic ch=>exact s'
         | outgrown=>exact s'
        ·rw[f' t fun hm=>ht (List.mem_append_right _ hm),f1 t fun hm=>ht (List.mem_append_left _ hm)]
       | _=>
        simp only[seqK,Option.some.injEq,Prod.mk.injEq] at hr;obtain⟨rfl,rfl,rfl⟩:=hr;refine hQ a1 ?_ fun t ht=>f1 t fun hm=>ht (List.mem_append_left _ hm);first
         | (obtain⟨W,h1,h2⟩:=s1; exact⟨W,List.mem_append_left _ h1,h2⟩)
         | (obtain⟨W,h1,h2⟩:=s1; simp only[SimAt,h1]; exact fQ h2)
         | exact s1
  | _=>simp[flowS,flow] at hF
 | _=>
  intro p V F hF hE ρ ρ' w w' e hr a hs Q hQ;exact kW hD hm (by cases p <;> exact hF) hr hs Q hQ
end
def okFnS (f:FuncId)(fn:Func)(c:Code)(p:Plan)(nargs:Nat):Bool:=
 decide (nargs≤fn.ntmps) &&
 match flowS f fn.ntmps c p (List.range fn.ntmps) with
 | some f=>okV fn f.nor && okV fn f.ret
 | none=>false
theorem BE {P:Program}{f:FuncId}{fn:Func}{c:Code}{p:Plan}{args:List Value}{w w':World}{v:Value}
 (hf:P.funcs[f]? =some fn) (hb:fn.body=some c) (hm:P.follows .mixedOrders=true) (hi:P.inits.idxOf? f=none)
 (hok:okFnS f fn c p args.length=true) (hE:altEq c p) (h:runFn P (den P) fn c p args w=some (v,w')):den P f args.toArray w=some (v,w'):=by
 refine iG hi (BB hf hb ?_);unfold okFnS at hok;simp only[Bool.and_eq_true,decide_eq_true_eq] at hok;obtain⟨hn,hok⟩:=hok;split at hok
 ·rename_i F hF;simp only[Bool.and_eq_true] at hok;unfold runFn at h;cases hr:run P (den P) c p (env0 args) w with
  | none=>rw[hr] at h; cases h
  | some o=>
   obtain⟨e,ρ,w1⟩:=o;rw[hr] at h;have hs:Sim fn.ntmps (List.range fn.ntmps) {tmps:=args.toArray ++ Array.replicate (fn.ntmps-args.toArray.size) undef,defers:=[]} (env0 args):=by
    refine⟨by simp; omega,rfl,?_⟩;intro t ht;unfold env0;simp only[Array.getD_eq_getD_getElem?,List.getD_eq_getElem?_getD];by_cases hlt:t<args.length
    ·rw[Array.getElem?_append_left (by simpa using hlt)];simp
    ·rw[Array.getElem?_append_right (by simpa using hlt)];rw[Array.getElem?_replicate];split <;> simp[hlt]
   refine BD (fO P) hm f c hF hE hr hs _ fun a' s' _=>?_;have fin : ∀V,okV fn (some V)=true→Sim fn.ntmps V a' ρ→(resK P fn (some (.normal,ρ,w1))=some (v,w'))→
    a'.defers = []∧∃v1,(results fn a'.tmps).run P w1 = .ok v1 w1∧(Ending.returned v1 = .returned v∧w1=w'):=by
    intro V hV s h;refine⟨s.defers,?_⟩;rw[oZ (ρ:=ρ) fun t ht=>s.val t (cN hV t ht)];simp only[resK] at h;split at h
    ·rename_i v1 w2 hres;simp only[Option.bind_eq_some_iff,kM] at h;obtain⟨_,rfl,h⟩:=h;simp only[Option.some.injEq,Prod.mk.injEq] at h;exact⟨v1,hres,by rw[h.1],h.2⟩
    ·cases h
   cases e with
   | normal=>
    obtain⟨V,h1,h2⟩:=s';rw[h1] at hok;exact fin V hok.1 h2 h
   | ret=>
    obtain⟨V,h1,h2⟩:=s';rw[h1] at hok;exact fin V hok.2 h2 h
   | _=>simp[resK] at h
 ·cases hok
theorem BF {P:Program}{f:FuncId}{fn:Func}{c:Code}{p:Plan}{args:List Value}{w:World}(S:List Nat){K:Value→World→Prop}
 (hf:P.funcs[f]? =some fn) (hb:fn.body=some c) (hm:P.follows .mixedOrders=true) (hi:P.inits.idxOf? f=none)
 (hok:okFnS f fn c p args.length=true) (hE:altEq c p) (hr:fn.results=(S.map ResultVar.tmp).toArray)
 (h:W P (den P) c p (env0 args) w (retK S K)):Ok (den P f args.toArray w) K:=by
 obtain⟨⟨e,ρ,w1⟩,h1,h2⟩:=h;have fin : ∀v,retV S ρ=v→(e = .normal∨e = .ret)→den P f args.toArray w=some (v,w1):=by
  intro v hv he;refine BE hf hb hm hi hok hE ?_;unfold runFn;rw[h1];have hres:=o6 fn ρ S hr P w1;rw[hv] at hres;rcases he with rfl | rfl <;> simp[resK,hres,grd]
 cases e with
 | normal=>exact⟨_,fin _ rfl (.inl rfl),h2⟩
 | ret=>exact⟨_,fin _ rfl (.inr rfl),h2⟩
 | _=>exact h2.elim
def BothK (b:Bool)(A B:Prop):Prop:=(b=true→A)∧(b=false→B)
theorem BG {P:Program}{D:Den}{ρ:Env}{w:World}{K:Out→Prop}{id f i j:Nat}{ops:Array Oper}{keep:List Nat}{l1 l2:List Oper}{L1 L2 e1 e2:List Nat}{f1 b1 f2 b2:List (Nat×List Nat)} :
 W P D (.region id ops true) (.alt f i j keep ⟨l1.toArray,L1,e1,f1,b1⟩ ⟨l2.toArray,L2,e2,f2,b2⟩) ρ w K =
  BothK (pick f id ops i j w) (WD P D l1.toArray e1 f1 b1 0 l1 ρ w.drew [] (KR keep ρ K)) (WD P D l2.toArray e2 f2 b2 0 l2 ρ w.drew [] (KR keep ρ K)):=by
 unfold W WD BothK Okk;simp only[run,runA];cases pick f id ops i j w with
 | true=>
  simp only[if_true,true_implies];cases runD P D l1.toArray e1 f1 b1 0 l1 ρ w.drew [] with
  | none=>simp[regK]
  | some x=>obtain⟨ρ',w'⟩:=x; simp[regK,KR]
 | false=>
  simp only[Bool.false_eq_true,if_false,true_implies];cases runD P D l2.toArray e2 f2 b2 0 l2 ρ w.drew [] with
  | none=>simp[regK]
  | some x=>obtain⟨ρ',w'⟩:=x; simp[regK,KR]
end Go.Proofs.YtpgigkceoolgeaaGreatDoor.Fd
