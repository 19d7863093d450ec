import Derived.Test.YtpgigkceoolgeaaGreatDoorS001
import Derived.IntWalk
set_option linter.all false
namespace Go.Proofs.YtpgigkceoolgeaaGreatDoor.Fd
open Go
def sub (xs V:List Nat):Bool:=xs.all (V.contains ·)
theorem cN {xs V:List Nat}(h:sub xs V=true) : ∀t∈xs,t∈V:=fun t ht=>by
 simpa using List.all_eq_true.1 h t ht
def outV (ds keep V:List Nat):List Nat:=keep ++ V.filter fun t=>!(ds.contains t)
def flow (N:Nat):Code→Plan→List Nat→Option Fl
 | .skip,_,V=>some ⟨some V,[],none⟩
 | .region _ ops false,.reg keep,V=>
  match okReg N ops ops.toList V with
  | some V'=>if sub keep V' then some ⟨some (outV (dstsOf ops.toList) keep V),[],none⟩ else none
  | none=>none
 | .region _ ops true,.drw keep effs fwd bwd,V=>
  match okReg N ops ops.toList V with
  | some _=>if sub keep (dstsOf ops.toList ++ V) && okDraw ops effs fwd bwd then some ⟨some (outV (dstsOf ops.toList) keep V),[],none⟩ else none
  | none=>none
 | .seq a b,.two p q,V=>
  match flow N a p V with
  | none=>none
  | some f=>match f.nor with
   | none=>some f
   | some V1=>match flow N b q V1 with
    | none=>none
    | some g=>some ⟨g.nor,f.exs ++ g.exs,meet f.ret g.ret⟩
 | .cond c a b,.two p q,V=>
  if opnd V c then
   match flow N a p V,flow N b q V with
   | some f,some g=>some ⟨meet f.nor g.nor,f.exs ++ g.exs,meet f.ret g.ret⟩
   | _,_=>none
  else none
 | .block id c,.blk p,V=>
  match flow N c p V with
  | some f=>some ⟨meets f.nor id f.exs,f.exs,f.ret⟩
  | none=>none
 | .loop c,.lop vs p,V=>
  if sub vs V then
   match flow N c p (vs ++ V.filter fun t=>!((writes c).contains t)) with
   | some f=>match f.nor with
    | none=>some ⟨none,f.exs,f.ret⟩
    | some V1=>if sub vs V1 then some ⟨none,f.exs,f.ret⟩ else none
   | none=>none
  else none
 | .exit id,_,V=>some ⟨none,[(id,V)],none⟩
 | .ret,_,V=>some ⟨none,[],some V⟩
 | _,_,_=>none
theorem kP {N:Nat}{V keep ds:List Nat}{a a':Act}{ρ ρ':Env}(hs:Sim N V a ρ)(h1:a'.tmps.size=N)(h2:a'.defers = [])
 (hk : ∀t∈keep,a'.tmps.getD t undef=ρ' t) (hf : ∀t,t∉ds→a'.tmps.getD t undef=a.tmps.getD t undef):Sim N (outV ds keep V) a' (keepE keep ρ ρ'):=by
 refine⟨h1,h2,?_⟩;intro t ht;by_cases e:t∈keep
 ·rw[xL e]; exact hk t e
 ·rw[xM e];unfold outV at ht;rcases List.mem_append.1 ht with h | h
  ·exact absurd h e
  ·obtain⟨h3,h4⟩:=List.mem_filter.1 h;rw[hf t (by simpa using h4)];exact hs.val t h3
section
variable {P : Program} {D : Den} {N : Nat}
theorem oY (hD:SoundD P D)(hm:P.follows .mixedOrders=true) : ∀(c:Code) {p:Plan} {V:List Nat} {F:Fl},flow N c p V=some F→
 ∀{ρ ρ':Env} {w w':World} {e:Exit},run P D c p ρ w=some (e,ρ',w')→∀{a:Act},Sim N V a ρ→
 ∀Q:Exit→Act→World→Prop,(∀a',SimAt N F a' ρ' e→(∀t,t∉writes c→a'.tmps.getD t undef=a.tmps.getD t undef)→Q e a' w')→c.wp P Q a w:=by
 intro c;induction c with
 | skip=>
  intro p V F hF ρ ρ' w w' e hr a hs Q hQ;simp only[flow,Option.some.injEq] at hF;simp only[run,Option.some.injEq,Prod.mk.injEq] at hr;obtain⟨rfl,rfl,rfl⟩:=hr;subst hF;exact wp_skip (hQ a ⟨V,rfl,hs⟩ fun _ _=>rfl)
 | region id ops draw=>
  intro p V F hF ρ ρ' w w' e hr a hs Q hQ;cases draw with
  | false=>
   cases p <;> simp only[flow] at hF <;> try cases hF
   rename_i keep;simp only[run] at hr;cases hV:okReg N ops ops.toList V with
   | none=>rw[hV] at hF; cases hF
   | some V'=>
    rw[hV] at hF;simp only at hF;split at hF
    ·rename_i hsub;simp only[Option.some.injEq] at hF;cases hl:runL P D ops ops.toList ρ w with
     | none=>rw[hl] at hr; cases hr
     | some x=>
      obtain⟨ρ1,w1⟩:=x;rw[hl] at hr;simp only[regK,Option.some.injEq,Prod.mk.injEq] at hr;obtain⟨rfl,rfl,rfl⟩:=hr;subst hF;obtain⟨a',s',f',q'⟩:=xI hD hV hs hl;refine wp_region_list (q' Q ?_);exact hQ a' ⟨_,rfl,kP hs s'.size s'.defers (fun t ht=>s'.val t (cN hsub t ht)) f'⟩ f'
    ·cases hF
  | true=>
   cases p <;> simp only[flow] at hF <;> try cases hF
   rename_i keep effs fwd bwd;simp only[run] at hr;cases hV:okReg N ops ops.toList V with
   | none=>rw[hV] at hF; cases hF
   | some V'=>
    rw[hV] at hF;simp only at hF;split at hF
    ·rename_i hsub;simp only[Bool.and_eq_true] at hsub;simp only[Option.some.injEq] at hF;cases hl:runD P D ops effs fwd bwd 0 ops.toList ρ w.drew [] with
     | none=>rw[hl] at hr; cases hr
     | some x=>
      obtain⟨ρ1,w1⟩:=x;rw[hl] at hr;simp only[regK,Option.some.injEq,Prod.mk.injEq] at hr;obtain⟨rfl,rfl,rfl⟩:=hr;subst hF;refine xU hD hm hsub.2 hV hs hl Q fun a' h1 h2 h3 h4=>?_;refine hQ a' ⟨_,rfl,kP hs h1 h2 (fun t ht=>h3 t ?_) h4⟩ h4;rcases List.mem_append.1 (cN hsub.1 t ht) with h | h
      ·exact .inr h
      ·exact .inl h
    ·cases hF
 | seq x y ihx ihy=>
  intro p V F hF ρ ρ' w w' e hr a hs Q hQ;cases p <;> simp only[flow] at hF <;> try cases hF
  rename_i p q;simp only[run] at hr;cases hfx:flow N x p V with
  | none=>rw[hfx] at hF; cases hF
  | some f=>
   rw[hfx] at hF;simp only at hF;cases hrx:run P D x p ρ w with
   | none=>rw[hrx] at hr; cases hr
   | some o=>
    obtain⟨e1,ρ1,w1⟩:=o;rw[hrx] at hr;refine wp_seq (ihx hfx hrx hs _ fun a1 s1 f1=>?_);cases hn:f.nor with
    | none=>
     rw[hn] at hF;simp only[Option.some.injEq] at hF;subst hF;cases e1 with
     | normal=>
      obtain⟨V1,h1,_⟩:=s1;rw[hn] at h1; cases h1
     | _=>
      simp only[seqK,Option.some.injEq,Prod.mk.injEq] at hr;obtain⟨rfl,rfl,rfl⟩:=hr;exact hQ a1 s1 fun t ht=>f1 t fun hm=>ht (List.mem_append_left _ hm)
    | some V1=>
     rw[hn] at hF;simp only at hF;cases hfy:flow N y q V1 with
     | none=>rw[hfy] at hF; cases hF
     | some g=>
      rw[hfy] at hF;simp only[Option.some.injEq] at hF;subst hF;cases e1 with
      | normal=>
       obtain⟨V2,h1,s1⟩:=s1;rw[hn,Option.some.injEq] at h1;subst h1;simp only[seqK] at hr;refine ihy hfy hr s1 Q fun a' s' f'=>hQ a' ?_ fun t ht=>?_
       ·cases e with
        | normal=>exact s'
        | exit id=>
         obtain⟨W,h1,h2⟩:=s';exact⟨W,List.mem_append_right _ h1,h2⟩
        | ret=>
         obtain⟨W,h1,h2⟩:=s';simp only[SimAt,h1];exact dT h2
        | goto l=>exact s'
        | panic ch=>exact s'
        | outgrown=>exact s'
       ·rw[f' t fun hm=>ht (List.mem_append_right _ hm),f1 t fun hm=>ht (List.mem_append_left _ hm)]
      | _=>
       simp only[seqK,Option.some.injEq,Prod.mk.injEq] at hr;obtain⟨rfl,rfl,rfl⟩:=hr;refine hQ a1 ?_ fun t ht=>f1 t fun hm=>ht (List.mem_append_left _ hm);first
        | (obtain⟨W,h1,h2⟩:=s1; exact⟨W,List.mem_append_left _ h1,h2⟩)
        | (obtain⟨W,h1,h2⟩:=s1; simp only[SimAt,h1]; exact fQ h2)
        | exact s1
 | cond cnd x y ihx ihy=>
  intro p V F hF ρ ρ' w w' e hr a hs Q hQ;cases p <;> simp only[flow] at hF <;> try cases hF
  rename_i p q;split at hF
  ·rename_i hc;simp only[run] at hr;cases hfx:flow N x p V with
   | none=>rw[hfx] at hF; simp at hF
   | some f=>
    cases hfy:flow N y q V with
    | none=>rw[hfx,hfy] at hF; simp at hF
    | some g=>
     rw[hfx,hfy] at hF;simp only[Option.some.injEq] at hF;subst hF;have hev:=oQ hs.val hc;cases hcv:ev ρ cnd <;> rw[hcv] at hr <;> simp only[condK] at hr <;> try cases hr
     rename_i t;refine wp_cond (t:=t) (by rw[hev,hcv]) ?_;cases t with
     | true=>
      simp only[if_true] at hr ⊢;refine ihx hfx hr hs Q fun a' s' f'=>hQ a' ?_ fun t ht=>f' t fun hm=>ht (List.mem_append_left _ hm);cases e with
      | normal=>
       obtain⟨W,h1,h2⟩:=s';simp only[SimAt,h1];exact fQ h2
      | exit id=>
       obtain⟨W,h1,h2⟩:=s';exact⟨W,List.mem_append_left _ h1,h2⟩
      | ret=>
       obtain⟨W,h1,h2⟩:=s';simp only[SimAt,h1];exact fQ h2
      | goto l=>exact s'
      | panic ch=>exact s'
      | outgrown=>exact s'
     | false=>
      simp only[Bool.false_eq_true,if_false] at hr ⊢;refine ihy hfy hr hs Q fun a' s' f'=>hQ a' ?_ fun t ht=>f' t fun hm=>ht (List.mem_append_right _ hm);cases e with
      | normal=>
       obtain⟨W,h1,h2⟩:=s';simp only[SimAt,h1];exact dT h2
      | exit id=>
       obtain⟨W,h1,h2⟩:=s';exact⟨W,List.mem_append_right _ h1,h2⟩
      | ret=>
       obtain⟨W,h1,h2⟩:=s';simp only[SimAt,h1];exact dT h2
      | goto l=>exact s'
      | panic ch=>exact s'
      | outgrown=>exact s'
  ·cases hF
 | block id c ih=>
  intro p V F hF ρ ρ' w w' e hr a hs Q hQ;cases p <;> simp only[flow] at hF <;> try cases hF
  rename_i p;simp only[run] at hr;cases hfx:flow N c p V with
  | none=>rw[hfx] at hF; cases hF
  | some f=>
   rw[hfx] at hF;simp only[Option.some.injEq] at hF;subst hF;cases hrx:run P D c p ρ w with
   | none=>rw[hrx] at hr; cases hr
   | some o=>
    obtain⟨e1,ρ1,w1⟩:=o;rw[hrx] at hr;refine wp_block (ih hfx hrx hs _ fun a1 s1 f1=>?_);cases e1 with
    | normal=>
     simp only[blkK,Option.some.injEq,Prod.mk.injEq] at hr;obtain⟨rfl,rfl,rfl⟩:=hr;obtain⟨W,h1,h2⟩:=s1;refine hQ a1 ?_ f1;simp only[SimAt,h1];exact xJ h2
    | exit i=>
     simp only[blkK] at hr;simp only[Exit.inBlock];split at hr
     ·rename_i hid;subst hid;simp only[Option.some.injEq,Prod.mk.injEq] at hr;obtain⟨rfl,rfl,rfl⟩:=hr;obtain⟨W,h1,h2⟩:=s1;rw[if_pos rfl];refine hQ a1 ?_ f1;exact xK h2 h1
     ·rename_i hid;simp only[Option.some.injEq,Prod.mk.injEq] at hr;obtain⟨rfl,rfl,rfl⟩:=hr;rw[if_neg hid];exact hQ a1 s1 f1
    | _=>
     simp only[blkK,Option.some.injEq,Prod.mk.injEq] at hr;obtain⟨rfl,rfl,rfl⟩:=hr;exact hQ a1 s1 f1
 | loop c ih=>
  intro p V F hF ρ ρ' w w' e hr a hs Q hQ;cases p <;> simp only[flow] at hF <;> try cases hF
  rename_i vs p;split at hF
  ·rename_i hsub;simp only[run] at hr;cases hfx:flow N c p (vs ++ V.filter fun t=>!((writes c).contains t)) with
   | none=>rw[hfx] at hF; cases hF
   | some f=>
    rw[hfx] at hF;simp only at hF;have hF':F=⟨none,f.exs,f.ret⟩∧∀V1,f.nor=some V1→sub vs V1=true:=by
     cases hn:f.nor with
     | none=>rw[hn] at hF; simp only[Option.some.injEq] at hF; exact⟨hF.symm,fun _ h=>by cases h⟩
     | some V1=>
      rw[hn] at hF;simp only at hF;split at hF
      ·rename_i hs1;simp only[Option.some.injEq] at hF;exact⟨hF.symm,fun W h=>by cases h; exact hs1⟩
      ·cases hF
    obtain⟨rfl,hsub1⟩:=hF';cases hlr:loopR (fun st w=>lopK vs (run P D c p (setE vs st ρ) w)) (getE vs ρ) w with
    | none=>rw[hlr] at hr; cases hr
    | some x=>
     obtain⟨⟨e1,ρ1⟩,w1⟩:=x;rw[hlr] at hr;simp only[outK,Option.some.injEq,Prod.mk.injEq] at hr;obtain⟨rfl,rfl,rfl⟩:=hr;obtain⟨n,hn⟩:=iH.1 hlr;refine wp_loop_rounds n ?_;have key : ∀(n:Nat) (ρh:Env) (a1:Act) (w2:World),(∀t,t∉vs→ρh t=ρh t)→
      loopN (fun st w=>lopK vs (run P D c p (setE vs st ρ) w)) n (getE vs ρh) w2=some ((e1,ρ1),w1)→
      Sim N (vs ++ V.filter fun t=>!((writes c).contains t)) a1 (setE vs (getE vs ρh) ρ)→
      (∀t,t∉writes c→a1.tmps.getD t undef=a.tmps.getD t undef)→Code.rounds P c Q n a1 w2:=by
      intro n;induction n with
      | zero=>intro ρh a1 w2 _ hl; cases hl
      | succ n ihn=>
       intro ρh a1 w2 _ hl hs1 hf1;rw[rounds_succ];rw[loopN] at hl;cases hrb:run P D c p (setE vs (getE vs ρh) ρ) w2 with
       | none=>rw[hrb] at hl; simp[lopK] at hl
       | some o=>
        obtain⟨e2,ρ2,w3⟩:=o;rw[hrb] at hl;refine ih hfx hrb hs1 _ fun a2 s2 f2=>?_;cases e2 with
        | normal=>
         simp only[lopK] at hl;obtain⟨V1,hv1,s2⟩:=s2;refine ihn ρ2 a2 w3 (fun _ _=>rfl) hl ⟨s2.size,s2.defers,?_⟩ fun t ht=>by rw[f2 t ht,hf1 t ht]
         intro t ht;by_cases hv:t∈vs
         ·rw[oS hv];exact s2.val t (cN (hsub1 V1 hv1) t hv)
         ·rw[oT hv];rcases List.mem_append.1 ht with h | h
          ·exact absurd h hv
          ·obtain⟨h3,h4⟩:=List.mem_filter.1 h;have h5:t∉writes c:=by simpa using h4
           rw[f2 t h5,hf1 t h5];exact hs.val t h3
        | exit i=>
         simp only[lopK,Option.some.injEq,Prod.mk.injEq] at hl;obtain⟨⟨rfl,rfl⟩,rfl⟩:=hl;exact hQ a2 s2 fun t ht=>by rw[f2 t ht,hf1 t ht]
        | ret=>
         simp only[lopK,Option.some.injEq,Prod.mk.injEq] at hl;obtain⟨⟨rfl,rfl⟩,rfl⟩:=hl;exact hQ a2 s2 fun t ht=>by rw[f2 t ht,hf1 t ht]
        | goto l=>exact s2.elim
        | panic ch=>exact s2.elim
        | outgrown=>exact s2.elim
     refine key n ρ a w (fun _ _=>rfl) hn ⟨hs.size,hs.defers,?_⟩ fun _ _=>rfl;intro t ht;by_cases hv:t∈vs
     ·rw[oS hv]; exact hs.val t (cN hsub t hv)
     ·rw[oT hv];rcases List.mem_append.1 ht with h | h
      ·exact absurd h hv
      ·exact hs.val t (List.mem_filter.1 h).1
  ·cases hF
 | exit id=>
  intro p V F hF ρ ρ' w w' e hr a hs Q hQ;simp only[flow,Option.some.injEq] at hF;simp only[run,Option.some.injEq,Prod.mk.injEq] at hr;obtain⟨rfl,rfl,rfl⟩:=hr;subst hF;exact wp_exit (hQ a ⟨V,by simp,hs⟩ fun _ _=>rfl)
 | ret=>
  intro p V F hF ρ ρ' w w' e hr a hs Q hQ;simp only[flow,Option.some.injEq] at hF;simp only[run,Option.some.injEq,Prod.mk.injEq] at hr;obtain⟨rfl,rfl,rfl⟩:=hr;subst hF;exact wp_ret (hQ a ⟨V,rfl,hs⟩ fun _ _=>rfl)
 | rangeFunc f ps x y _ _=>intro p V F hF; simp[flow] at hF
 | scope c _=>intro p V F hF; simp[flow] at hF
 | label l=>intro p V F hF; simp[flow] at hF
 | goto l=>intro p V F hF; simp[flow] at hF
 | refuse s=>intro p V F hF; simp[flow] at hF
end
def resT:ResultVar→Nat
 | .tmp t=>t
 | .cell a _=>a
def okV (fn:Func)(V:Option (List Nat)):Bool:=
 match V with
 | none=>true
 | some V=>sub (fn.results.toList.map resT) V
def okFn (fn:Func)(c:Code)(p:Plan)(nargs:Nat):Bool:=
 decide (nargs≤fn.ntmps) &&
 match flow fn.ntmps c p (List.range fn.ntmps) with
 | some f=>okV fn f.nor && okV fn f.ret
 | none=>false
theorem oZ {fn:Func}{tmps:Array Value}{ρ:Env}(h : ∀t∈fn.results.toList.map resT,tmps.getD t undef=ρ t):results fn tmps=resE fn ρ:=by
 unfold results resE;congr 1;rw[Array.mapM_eq_mapM_toList,Array.mapM_eq_mapM_toList];congr 1;have : ∀(l:List ResultVar),(∀t∈l.map resT,tmps.getD t undef=ρ t)→
  (l.mapM fun | .tmp t=>pure (tmps.getD t undef) | .cell a t=>do loadVar t (←asAddr (tmps.getD a undef)):Sem (List Value)) =
  (l.mapM (resS ρ):Sem (List Value)):=by
  intro l;induction l with
  | nil=>intro _; rfl
  | cons x r ih=>
   intro hx;rw[List.mapM_cons,List.mapM_cons,ih fun t ht=>hx t (by simp only[List.map_cons]; exact List.mem_cons_of_mem _ ht)];have h0:=hx (resT x) (by simp);cases x with
   | tmp t=>simp only[resT] at h0; dsimp only[resS]; rw[h0]
   | cell a t=>simp only[resT] at h0; dsimp only[resS]; rw[h0]
 exact this _ h
theorem kQ {P:Program}{f:FuncId}{fn:Func}{c:Code}{p:Plan}{args:List Value}{w w':World}{v:Value}
 (hf:P.funcs[f]? =some fn) (hb:fn.body=some c) (hm:P.follows .mixedOrders=true) (hi:P.inits.idxOf? f=none)
 (hok:okFn fn c p args.length=true) (h:runFn P (den P) fn c p args w=some (v,w')):den P f args.toArray w=some (v,w'):=by
 refine iG hi (calls_of_wp hf hb ?_);unfold okFn at hok;simp only[Bool.and_eq_true,decide_eq_true_eq] at hok;obtain⟨hn,hok⟩:=hok;split at hok
 ·rename_i F hF;simp only[Bool.and_eq_true] at hok;unfold runFn at h;cases hr:run P (den P) c p (env0 args) w with
  | none=>rw[hr] at h; cases h
  | some o=>
   obtain⟨e,ρ,w1⟩:=o;rw[hr] at h;have hs:Sim fn.ntmps (List.range fn.ntmps) {tmps:=args.toArray ++ Array.replicate (fn.ntmps-args.toArray.size) undef,defers:=[]} (env0 args):=by
    refine⟨by simp; omega,rfl,?_⟩;intro t ht;unfold env0;simp only[Array.getD_eq_getD_getElem?,List.getD_eq_getElem?_getD];by_cases hlt:t<args.length
    ·rw[Array.getElem?_append_left (by simpa using hlt)];simp
    ·rw[Array.getElem?_append_right (by simpa using hlt)];rw[Array.getElem?_replicate];split <;> simp[hlt]
   refine oY (fO P) hm c hF hr hs _ fun a' s' _=>?_;have fin : ∀V,okV fn (some V)=true→Sim fn.ntmps V a' ρ→(resK P fn (some (.normal,ρ,w1))=some (v,w'))→
    a'.defers = []∧∃v1,(results fn a'.tmps).run P w1 = .ok v1 w1∧(Ending.returned v1 = .returned v∧w1=w'):=by
    intro V hV s h;refine⟨s.defers,?_⟩;rw[oZ (ρ:=ρ) fun t ht=>s.val t (cN hV t ht)];simp only[resK] at h;split at h
    ·rename_i v1 w2 hres;simp only[Option.bind_eq_some_iff,kM] at h;obtain⟨_,rfl,h⟩:=h;simp only[Option.some.injEq,Prod.mk.injEq] at h;exact⟨v1,hres,by rw[h.1],h.2⟩
    ·cases h
   cases e with
   | normal=>
    obtain⟨V,h1,h2⟩:=s';rw[h1] at hok;exact fin V hok.1 h2 h
   | ret=>
    obtain⟨V,h1,h2⟩:=s';rw[h1] at hok;exact fin V hok.2 h2 h
   | _=>simp[resK] at h
 ·cases hok
open Go
def Okk {α:Type}(m:Option α)(K:α→Prop):Prop:=∃x,m=some x∧K x
theorem dU {α:Type}{x:α}{K:α→Prop}:Okk (some x) K=K x:=by simp [Okk]
theorem o0 {α β:Type}{m:Option α}{f:α→Option β}{K:β→Prop}:Okk (m.bind f) K=Okk m fun x=>Okk (f x) K:=by
 unfold Okk;cases m <;> simp
theorem Okk.mono {α:Type}{m:Option α}{K L:α→Prop}(h:Okk m K)(hk : ∀x,K x→L x):Okk m L:=by
 obtain⟨x,h1,h2⟩:=h;exact⟨x,h1,hk x h2⟩
theorem xV {α:Type}{m m':Option α}(K:α→Prop)(h:m=m'):Okk m K=Okk m' K:=by rw [h]
section
variable (P : Program) (D : Den)
def W (c:Code)(p:Plan)(ρ:Env)(w:World)(K:Out→Prop):Prop:=Okk (run P D c p ρ w) K
def WL (ops:Array Oper)(l:List Oper)(ρ:Env)(w:World)(K:Env×World→Prop):Prop:=Okk (runL P D ops l ρ w) K
def WD (ops:Array Oper)(effs:List Nat)(fwd bwd:List (Nat×List Nat))(k:Nat)(l:List Oper)(ρ:Env)(w:World)(h:List (Value×World×Env))(K:Env×World→Prop):Prop:=
 Okk (runD P D ops effs fwd bwd k l ρ w h) K
def KS (b:Code)(q:Plan)(K:Out→Prop):Out→Prop
 | (.normal,ρ,w)=>W P D b q ρ w K
 | o=>K o
def KB (id:Nat)(K:Out→Prop):Out→Prop
 | (.exit i,ρ,w)=>if i=id then K (.normal,ρ,w) else K (.exit i,ρ,w)
 | o=>K o
def KR (keep:List Nat)(ρ:Env)(K:Out→Prop)(x:Env×World):Prop:=K (.normal,keepE keep ρ x.1,x.2)
def WC (v:Value)(A B:Prop):Prop:=
 match v with
 | .bool t=>if t then A else B
 | _=>False
def KL (ops:Array Oper)(r:List Oper)(ρ:Env)(d:Option Nat)(K:Env×World→Prop)(x:Value×World):Prop:=WL P D ops r (ρ.put d x.1) x.2 K
def KD (ops:Array Oper)(effs:List Nat)(fwd bwd:List (Nat×List Nat))(k:Nat)(o:Oper)(r:List Oper)(ρ:Env)(w:World)(h:List (Value×World×Env))(K:Env×World→Prop)(x:Value×World):Prop:=
 (k∈effs∨x.2=w)∧
 (allP (lookL fwd k) fun i=>∃oi y,ops[i]? =some oi∧h[i]? =some y∧stepO P D ops oi y.2.2 x.2=some (y.1,x.2))∧
 (allP (lookL bwd k) fun j=>∃y,h[j]? =some y∧stepO P D ops o ρ y.2.1=some (x.1,y.2.1))∧
 WD P D ops effs fwd bwd (k+1) r (ρ.put o.dst x.1) x.2 (h ++ [(x.1,w,ρ)]) K
noncomputable def loopB (c:Code)(vs:List Nat)(p:Plan)(ρ:Env)(st:List Value)(w:World):Option ((List Value ⊕ (Exit×Env))×World):=lopK vs (run P D c p (setE vs st ρ) w)
def KO (K:Out→Prop)(x:(Exit×Env)×World):Prop:=K (x.1.1,x.1.2,x.2)
end
section
variable {P : Program} {D : Den} {ρ : Env} {w : World} {K : Out → Prop}
theorem aD {a b:Code}{p q:Plan}:W P D (.seq a b) (.two p q) ρ w K=W P D a p ρ w (KS P D b q K):=by
 unfold W Okk;simp only[run];cases h:run P D a p ρ w with
 | none=>simp[seqK]
 | some o=>
  obtain⟨e,ρ',w'⟩:=o;cases e <;> simp[seqK,KS,W,Okk]
theorem xW {c:Operand}{a b:Code}{p q:Plan}:W P D (.cond c a b) (.two p q) ρ w K=WC (ev ρ c) (W P D a p ρ w K) (W P D b q ρ w K):=by
 unfold W Okk WC;simp only[run];cases ev ρ c <;> simp[condK];rename_i t;cases t <;> simp
theorem o5 {id:Nat}{c:Code}{p:Plan}:W P D (.block id c) (.blk p) ρ w K=W P D c p ρ w (KB id K):=by
 unfold W;simp only[run];cases h:run P D c p ρ w with
 | none=>simp[blkK,Okk]
 | some o=>
  obtain⟨e,ρ',w'⟩:=o;cases e <;> simp only[blkK,dU,KB];split <;> rw[dU]
theorem xX {c:Code}{vs:List Nat}{p:Plan}:W P D (.loop c) (.lop vs p) ρ w K=Okk (loopR (loopB P D c vs p ρ) (getE vs ρ) w) (KO K):=by
 unfold W Okk;simp only[run];show(∃x,outK (loopR (loopB P D c vs p ρ) (getE vs ρ) w)=some x∧K x)=_;cases loopR (loopB P D c vs p ρ) (getE vs ρ) w with
 | none=>simp[outK]
 | some x=>obtain⟨⟨e,ρ'⟩,w'⟩:=x; simp[outK,KO]
theorem xY {id:Nat}{ops:Array Oper}{keep:List Nat}:W P D (.region id ops false) (.reg keep) ρ w K=WL P D ops ops.toList ρ w (KR keep ρ K):=by
 unfold W WL Okk;simp only[run];cases runL P D ops ops.toList ρ w with
 | none=>simp[regK]
 | some x=>obtain⟨ρ',w'⟩:=x; simp[regK,KR]
theorem xZ {id:Nat}{ops:Array Oper}{keep effs:List Nat}{fwd bwd:List (Nat×List Nat)} :
 W P D (.region id ops true) (.drw keep effs fwd bwd) ρ w K=WD P D ops effs fwd bwd 0 ops.toList ρ w.drew [] (KR keep ρ K):=by
 unfold W WD Okk;simp only[run];cases runD P D ops effs fwd bwd 0 ops.toList ρ w.drew [] with
 | none=>simp[regK]
 | some x=>obtain⟨ρ',w'⟩:=x; simp[regK,KR]
theorem x6 {p:Plan}:W P D .ret p ρ w K=K (.ret,ρ,w):=by unfold W; rw [show run P D .ret p ρ w=some (.ret,ρ,w) from by cases p <;> rfl,dU]
theorem x7 {p:Plan}:W P D .skip p ρ w K=K (.normal,ρ,w):=by unfold W; rw [show run P D .skip p ρ w=some (.normal,ρ,w) from by cases p <;> rfl,dU]
theorem x8 {id:Nat}{p:Plan}:W P D (.exit id) p ρ w K=K (.exit id,ρ,w):=by unfold W; rw [show run P D (.exit id) p ρ w=some (.exit id,ρ,w) from by cases p <;> rfl,dU]
theorem aC {b:Code}{q:Plan}:KS P D b q K (.normal,ρ,w)=W P D b q ρ w K:=_root_.id rfl
theorem x9 {b:Code}{q:Plan}{id:Nat}:KS P D b q K (.exit id,ρ,w)=K (.exit id,ρ,w):=_root_.id rfl
theorem yA {b:Code}{q:Plan}:KS P D b q K (.ret,ρ,w)=K (.ret,ρ,w):=_root_.id rfl
theorem yB {id:Nat}:KB id K (.normal,ρ,w)=K (.normal,ρ,w):=_root_.id rfl
theorem yC {id:Nat}:KB id K (.ret,ρ,w)=K (.ret,ρ,w):=_root_.id rfl
theorem yF {id i:Nat}:KB id K (.exit i,ρ,w)=if i=id then K (.normal,ρ,w) else K (.exit i,ρ,w):=_root_.id rfl
theorem yG {keep:List Nat}{ρ':Env}:KR keep ρ K (ρ',w)=K (.normal,keepE keep ρ ρ',w):=_root_.id rfl
theorem yH {e:Exit}:KO K ((e,ρ),w)=K (e,ρ,w):=_root_.id rfl
theorem yI {ops:Array Oper}{K:Env×World→Prop}:WL P D ops [] ρ w K=K (ρ,w):=by simp [WL,runL,Okk]
theorem yJ {ops:Array Oper}{o:Oper}{r:List Oper}{K:Env×World→Prop}:WL P D ops (o :: r) ρ w K=Okk (stepO P D ops o ρ w) (KL P D ops r ρ o.dst K):=by
 unfold WL;rw[runL,o0];rfl
theorem yK {ops:Array Oper}{r:List Oper}{d:Option Nat}{K:Env×World→Prop}{v:Value}:KL P D ops r ρ d K (v,w)=WL P D ops r (ρ.put d v) w K:=_root_.id rfl
theorem yM {ops:Array Oper}{effs:List Nat}{fwd bwd:List (Nat×List Nat)}{k:Nat}{h:List (Value×World×Env)}{K:Env×World→Prop} :
 WD P D ops effs fwd bwd k [] ρ w h K=K (ρ,w):=by simp[WD,runD,Okk]
theorem yN {ops:Array Oper}{effs:List Nat}{fwd bwd:List (Nat×List Nat)}{k:Nat}{o:Oper}{r:List Oper}{h:List (Value×World×Env)}{K:Env×World→Prop} :
 WD P D ops effs fwd bwd k (o :: r) ρ w h K=Okk (stepO P D ops o ρ w) (KD P D ops effs fwd bwd k o r ρ w h K):=by
 unfold WD;rw[runD,o0];congr 1;funext x;have g : ∀{p:Prop} {β:Type} {f:Option β} {L:β→Prop},Okk ((grd p).bind fun _=>f) L=(p∧Okk f L):=by
  intro p β f L;unfold Okk grd;by_cases hp:p <;> simp[hp]
 rw[g,g,g];rfl
def opX (P : Program)(D : Den)(op : Op)(ty : TypeId)(e : Operand → Value)(w : World) : Option (Value × World) := opS P D ⟨none, op, ty, "", #[], none⟩ e w
def WG (y:Option Bool)(b:Bool)(A:Option (Value×World))(B:Option (Value×World)):Option (Value×World):=if y=some b then A else B
theorem yO {ops:Array Oper}{d:Option Nat}{op:Op}{ty:TypeId}{pos:String}{af:Array Edge} :
 stepO P D ops ⟨d,op,ty,pos,af,none⟩ ρ w=opX P D op ty (ev ρ) w:=by
 simp only[stepO,Region.wanted,if_true];rfl
theorem yP {ops:Array Oper}{d:Option Nat}{op:Op}{ty:TypeId}{pos:String}{af:Array Edge}{j:Nat}{b:Bool} :
 stepO P D ops ⟨d,op,ty,pos,af,some (j,b)⟩ ρ w=WG (yE ops ρ j) b (opX P D op ty (ev ρ) w) (some (undef,w)):=by
 simp only[stepO,Region.wanted,WG,beq_iff_eq];rfl
end
theorem yQ {ρ:Env}{k:Nat}{v:Value}{t:Nat}:(ρ.set k v) t=if t=k then v else ρ t:=_root_.id rfl
theorem yR {ρ:Env}{k:Nat}{v:Value}:ρ.put (some k) v=ρ.set k v:=_root_.id rfl
theorem yS {ρ:Env}{v:Value}:ρ.put none v=ρ:=_root_.id rfl
theorem yT {ρ ρ':Env}:keepE [] ρ ρ'=ρ:=_root_.id rfl
theorem yU {k:Nat}{r:List Nat}{ρ ρ':Env}:keepE (k :: r) ρ ρ'=(keepE r ρ ρ').set k (ρ' k):=_root_.id rfl
theorem yW {k:Nat}{r:List Nat}{v:Value}{s:List Value}{ρ:Env}:setE (k :: r) (v :: s) ρ=(setE r s ρ).set k v:=_root_.id rfl
theorem yX {s:List Value}{ρ:Env}:setE [] s ρ=ρ:=_root_.id rfl
theorem yY {k:Nat}{r:List Nat}{ρ:Env}:getE (k :: r) ρ=ρ k :: getE r ρ:=_root_.id rfl
theorem yZ {ρ:Env}:getE [] ρ = []:=_root_.id rfl
theorem y7 {ρ:Env}{t:Nat}:ev ρ (.tmp t)=ρ t:=_root_.id rfl
theorem y8 {ρ:Env}{v:Value}:ev ρ (.const v)=v:=_root_.id rfl
theorem zA {ρ:Env}{f:FuncId}:ev ρ (.func f) = .func (.func f) #[] #[]:=_root_.id rfl
theorem zB {ρ:Env}{g:Nat}:ev ρ (.global g) = .pointer (some ⟨g,0,none⟩):=_root_.id rfl
theorem zC {args:List Value}{t:Nat}:env0 args t=args.getD t undef:=_root_.id rfl
def retV (S:List Nat)(ρ:Env):Value:=
 match S with
 | [t]=>ρ t
 | S=>.tuple (getE S ρ).toArray
def retK (S:List Nat)(K:Value→World→Prop):Out→Prop
 | (.normal,ρ,w)=>K (retV S ρ) w
 | (.ret,ρ,w)=>K (retV S ρ) w
 | _=>False
theorem zD {S:List Nat}{K:Value→World→Prop}{ρ:Env}{w:World}:retK S K (.normal,ρ,w)=K (retV S ρ) w:=_root_.id rfl
theorem zE {S:List Nat}{K:Value→World→Prop}{ρ:Env}{w:World}:retK S K (.ret,ρ,w)=K (retV S ρ) w:=_root_.id rfl
theorem zF {ρ:Env}:retV [] ρ = .tuple #[]:=_root_.id rfl
theorem zG {ρ:Env}{t:Nat}:retV [t] ρ=ρ t:=_root_.id rfl
theorem zH {ρ:Env}{t u:Nat}:retV [t,u] ρ = .tuple #[ρ t,ρ u]:=_root_.id rfl
theorem zI {ρ:Env}{t u v:Nat}:retV [t,u,v] ρ = .tuple #[ρ t,ρ u,ρ v]:=_root_.id rfl
def Ok (m:Option (Value×World))(K:Value→World→Prop):Prop:=Okk m fun x=>K x.1 x.2
theorem fU {m:Option (Value×World)}{K:Value→World→Prop}:Ok m K↔∃v w,m=some (v,w)∧K v w:=by
 unfold Ok Okk;constructor
 ·rintro⟨⟨v,w⟩,h1,h2⟩; exact⟨v,w,h1,h2⟩
 ·rintro⟨v,w,h1,h2⟩; exact⟨(v,w),h1,h2⟩
theorem Ok.mono {m:Option (Value×World)}{K L:Value→World→Prop}(h:Ok m K)(hk : ∀v w,K v w→L v w):Ok m L:=Okk.mono h fun _ hx=>hk _ _ hx
theorem Ok.use {m:Option (Value×World)}{K:Value→World→Prop}{L:Value×World→Prop}(h:Ok m K)(hk : ∀v w,K v w→L (v,w)):Okk m L:=Okk.mono h fun _ hx=>hk _ _ hx
theorem o6 (fn:Func)(ρ:Env)(S:List Nat)(h:fn.results=(S.map ResultVar.tmp).toArray)(P:Program)(w:World) :
 (resE fn ρ).run P w = .ok (retV S ρ) w:=by
 have e : ∀S:List Nat,(S.map ResultVar.tmp).mapM (resS ρ)=(pure (getE S ρ):Sem (List Value)):=by
  intro S;induction S with
  | nil=>rfl
  | cons t r ih=>
   rw[List.map_cons,List.mapM_cons,ih];simp[getE,resS]
 unfold resE;rw[h,Array.mapM_eq_mapM_toList];dsimp only;rw[e S];match S with
 | []=>simp[getE,retV]
 | [t]=>simp[getE,retV]
 | t :: u :: r=>simp[getE,retV]
theorem aB {P:Program}{f:FuncId}{fn:Func}{c:Code}{p:Plan}{args:List Value}{w:World}(S:List Nat){K:Value→World→Prop}
 (hf:P.funcs[f]? =some fn) (hb:fn.body=some c) (hm:P.follows .mixedOrders=true) (hi:P.inits.idxOf? f=none)
 (hok:okFn fn c p args.length=true) (hr:fn.results=(S.map ResultVar.tmp).toArray)
 (h:W P (den P) c p (env0 args) w (retK S K)):Ok (den P f args.toArray w) K:=by
 obtain⟨⟨e,ρ,w1⟩,h1,h2⟩:=h;have fin : ∀v,retV S ρ=v→(e = .normal∨e = .ret)→den P f args.toArray w=some (v,w1):=by
  intro v hv he;refine kQ hf hb hm hi hok ?_;unfold runFn;rw[h1];have hres:=o6 fn ρ S hr P w1;rw[hv] at hres;rcases he with rfl | rfl <;> simp[resK,hres,grd]
 cases e with
 | normal=>exact⟨_,fin _ rfl (.inl rfl),h2⟩
 | ret=>exact⟨_,fin _ rfl (.inr rfl),h2⟩
 | _=>exact h2.elim
open Go
def lift (r:Result Value):Option (Value×World):=
 match r with
 | .ok v w=>some (v,w)
 | _=>none
def knd (P:Program)(t:TypeId):Option Bool:=
 match P.underlying t with
 | some (.struct _)=>some true
 | some (.array _ _)=>some true
 | some _=>some false
 | none=>none
def siz (P:Program)(t:TypeId):Option Nat:=(P.info? t).map (·.size)
def byt (P:Program)(t:TypeId):Option Nat:=(P.info? t).map (·.bytes)
def zer (P:Program)(t:TypeId):Option Value:=(P.info? t).bind (·.zero)
def elt (P:Program)(t:TypeId):Option TypeId:=
 match P.underlying t with
 | some (.slice e)=>some e
 | _=>none
def arrOf (P:Program)(t:TypeId):Option (Nat×TypeId):=
 match P.underlying t with
 | some (.array n e)=>some (n,e)
 | _=>none
def fofs (P:Program)(t:TypeId)(f:Nat):Option Nat:=
 match P.underlying t with
 | some (.struct fs)=>match fs[f]? with
  | some x=>match siz P x.type with
   | some 0=>none
   | some _=>some x.offset
   | none=>none
  | none=>none
 | _=>none
def tag (P:Program)(t:TypeId):Nat:=
 match P.underlying t with
 | some .bool=>1
 | some (.pointer _)=>2
 | some (.slice _)=>3
 | some .string=>4
 | some (.map _ _)=>5
 | some (.int _)=>6
 | some (.func _ _ _)=>7
 | _=>0
theorem zJ {P:Program}{t:TypeId}(h:tag P t=1):P.underlying t=some .bool:=by
 unfold tag at h;split at h <;> first | assumption | cases h
theorem zK {P:Program}{t:TypeId}(h:tag P t=2) : ∃e,P.underlying t=some (.pointer e):=by
 unfold tag at h;split at h <;> first | exact⟨_,by assumption⟩ | cases h
def hasB (P:Program)(f:FuncId):Bool:=
 match P.funcs[f]? with
 | some fn => fn.body.isSome && !(fn.name == "runtime.NumGoroutine")
 | none=>false
section
variable {P : Program} {D : Den} {ty : TypeId} {e : Operand → Value} {w : World}
theorem zL {x:Operand}:opX P D (.move x) ty e w=some (e x,w):=by simp [opX,opS,execOp]
theorem zM {x:Operand}:opX P D (.assign x) ty e w=some (e x,w):=by simp [opX,opS,execOp]
def pickS (c a b:Value)(w:World):Option (Value×World):=
 match c with
 | .bool t=>some (if t then a else b,w)
 | _=>none
theorem zN {c a b:Operand}:opX P D (.pick c a b) ty e w=pickS (e c) (e a) (e b) w:=by
 simp only[opX,opS,execOp,pickS];cases e c <;> simp[asBool]
theorem zO {t:Bool}{a b:Value}:pickS (.bool t) a b w=some (if t then a else b,w):=_root_.id rfl
def extS (x:Value)(i:Nat)(w:World):Option (Value×World):=
 match x with
 | .tuple vs=>(vs[i]?).map (·,w)
 | _=>none
theorem zP {x:Operand}{i:Nat}:opX P D (.extract x i) ty e w=extS (e x) i w:=by
 simp only[opX,opS,execOp,extS,Instr.extract];cases e x <;> simp;rename_i vs;cases vs[i]? <;> simp
theorem zQ {vs:Array Value}{i:Nat}:extS (.tuple vs) i w=(vs[i]?).map (·,w):=_root_.id rfl
theorem o7 {x:Operand}{a:Addr}(h:e x = .pointer (some a)):opX P D (.nilCheck x) ty e w=some (.pointer (some a),w):=by
 simp[opX,opS,execOp,h]
def unS (op:UnOp)(x:Value)(w:World):Option (Value×World):=lift ((Op.unary op x).run P w)
theorem zR {op:UnOp}{t:TypeId}{x:Operand}:opX P D (.unOp op t x) ty e w=unS (P:=P) op (e x) w:=by
 simp only[opX,opS,execOp,unS,lift];cases h:(Op.unary op (e x)).run P w <;> simp[h]
theorem zS {b:Bool}:unS (P:=P) .not (.bool b) w=some (.bool !b,w):=by simp [unS,lift,Op.unary]
def binS (P:Program)(op:BinOp)(t:TypeId)(ox oy:Operand)(x y:Value)(w:World):Option (Value×World):=lift ((do eqGuard op t ox oy x y; binOp op t x y:Sem Value).run P w)
theorem zT {op:BinOp}{t t':TypeId}{x y:Operand}:opX P D (.binOp op t x y t') ty e w=binS P op t x y (e x) (e y) w:=by
 simp only[opX,opS,execOp,binS,lift];generalize (do eqGuard op t x y (e x) (e y); binOp op t (e x) (e y):Sem Value)=s
 simp;cases s.run P w <;> simp
section
variable {t : TypeId} {ox oy : Operand} {k k' : IntKind} {a b : Int}
theorem zU:binS P .lss t ox oy (.int k a) (.int k b) w=some (.bool (decide (a<b)),w):=by simp [binS,lift,eqGuard,binOp,Op.intCmp]
theorem zV:binS P .leq t ox oy (.int k a) (.int k b) w=some (.bool (decide (a≤b)),w):=by simp [binS,lift,eqGuard,binOp,Op.intCmp]
theorem zW:binS P .gtr t ox oy (.int k a) (.int k b) w=some (.bool (decide (b<a)),w):=by simp [binS,lift,eqGuard,binOp,Op.intCmp]
theorem zX:binS P .geq t ox oy (.int k a) (.int k b) w=some (.bool (decide (b≤a)),w):=by simp [binS,lift,eqGuard,binOp,Op.intCmp]
theorem zY:binS P .eql t ox oy (.int k a) (.int k b) w=some (.bool (decide (a=b)),w):=by
 simp[binS,lift,eqGuard,binOp,Op.intCmp];by_cases h:a=b <;> simp[h]
theorem zZ:binS P .neq t ox oy (.int k a) (.int k b) w=some (.bool (decide (¬a=b)),w):=by
 simp[binS,lift,eqGuard,binOp,Op.intCmp];by_cases h:a=b <;> simp[h]
theorem AA:binS P .add t ox oy (.int k a) (.int k b) w=some (.int k (k.wrap (a+b)),w):=by simp [binS,lift,eqGuard,binOp,Op.intArith]
theorem AB:binS P .sub t ox oy (.int k a) (.int k b) w=some (.int k (k.wrap (a-b)),w):=by simp [binS,lift,eqGuard,binOp,Op.intArith]
theorem AC:binS P .mul t ox oy (.int k a) (.int k b) w=some (.int k (k.wrap (a*b)),w):=by simp [binS,lift,eqGuard,binOp,Op.intArith]
theorem AD (h:b≠0):binS P .quo t ox oy (.int k a) (.int k b) w=some (.int k (k.wrap (a.tdiv b)),w):=by simp [binS,lift,eqGuard,binOp,Op.intDiv,h]
theorem AE (h:b≠0):binS P .rem t ox oy (.int k a) (.int k b) w=some (.int k (a.tmod b),w):=by simp [binS,lift,eqGuard,binOp,Op.intDiv,h]
theorem AF (h:0≤b):binS P .shl t ox oy (.int k a) (.int k' b) w=some (.int k (k.wrap (a*2 ^ (min b.toNat k.bits))),w):=by
 have : ¬b<0:=by omega
 simp[binS,lift,eqGuard,binOp,Op.shift,this]
theorem AG (h:0≤b):binS P .shr t ox oy (.int k a) (.int k' b) w=some (.int k (a.fdiv (2 ^ (min b.toNat k.bits))),w):=by
 have : ¬b<0:=by omega
 simp[binS,lift,eqGuard,binOp,Op.shift,this]
theorem AH:binS P .and t ox oy (.int k a) (.int k b) w=some (.int k (k.wrap (BitVec.ofInt k.bits a &&& BitVec.ofInt k.bits b).toNat),w):=by simp [binS,lift,eqGuard,binOp,Op.intBits]
theorem AI:binS P .or t ox oy (.int k a) (.int k b) w=some (.int k (k.wrap (BitVec.ofInt k.bits a ||| BitVec.ofInt k.bits b).toNat),w):=by simp [binS,lift,eqGuard,binOp,Op.intBits]
theorem AJ:binS P .xor t ox oy (.int k a) (.int k b) w=some (.int k (k.wrap (BitVec.ofInt k.bits a ^^^ BitVec.ofInt k.bits b).toNat),w):=by simp [binS,lift,eqGuard,binOp,Op.intBits]
theorem AK {d:Nat}{t:TypeId}{x y:Bool}(ht:tag P t=1):(Op.equalIn (d+1) t (.bool x) (.bool y)).run P w = .ok (x == y) w:=by
 have hu:=zJ ht;simp[Op.equalIn,underlying,hu]
theorem AL {t:TypeId}{x y:Bool}(ht:tag P t=1):(Op.equalIn Op.maxDepth t (.bool x) (.bool y)).run P w = .ok (x == y) w:=AK (d:=9999) ht
theorem AM {x y:Bool}(ht:tag P t=1):binS P .neq t ox oy (.bool x) (.bool y) w=some (.bool (!(x == y)),w):=by
 simp[binS,lift,eqGuard,binOp,Op.equal,AL ht]
theorem AN {d:Nat}{t:TypeId}{a:Option Addr}(ht:tag P t=2):(Op.equalIn (d+1) t (.pointer a) (.pointer none)).run P w = .ok (a.isNone) w:=by
 obtain⟨el,hu⟩:=zK ht;cases a <;> simp[Op.equalIn,underlying,hu]
theorem o8 {t:TypeId}{a:Option Addr}(ht:tag P t=2):(Op.equalIn Op.maxDepth t (.pointer a) (.pointer none)).run P w = .ok (a.isNone) w:=AN (d:=9999) ht
theorem AO {a:Option Addr}(ht:tag P t=2):binS P .eql t ox oy (.pointer a) (.pointer none) w=some (.bool (a.isNone),w):=by
 simp[binS,lift,eqGuard,binOp,Op.equal,o8 ht]
theorem AP {a:Option Addr}(ht:tag P t=2):binS P .neq t ox oy (.pointer a) (.pointer none) w=some (.bool (!(a.isNone)),w):=by
 simp[binS,lift,eqGuard,binOp,Op.equal,o8 ht]
theorem AQ {x y:ByteArray}:binS P .eql t ox oy (.string x) (.string y) w=some (.bool (x.toList == y.toList),w):=by simp [binS,lift,eqGuard,go_sem]
theorem AR {x y:ByteArray}:binS P .neq t ox oy (.string x) (.string y) w=some (.bool !(x.toList == y.toList),w):=by simp [binS,lift,eqGuard,go_sem]
end
def ldS (P:Program)(t:TypeId)(x:Value)(w:World):Option (Value×World):=lift ((Instr.loadAt t x).run P w)
theorem AS {t:TypeId}{x:Operand}:opX P D (.load t x) ty e w=ldS P t (e x) w:=by
 simp only[opX,opS,execOp,ldS,lift];generalize Instr.loadAt t (e x)=s;simp;cases s.run P w <;> simp
theorem AT {t:TypeId}{a:Addr}{v:Value}(hk:knd P t=some false)(hc:w.cell? a=some v):ldS P t (.pointer (some a)) w=some (v,w):=by
 unfold knd at hk;cases hu:P.underlying t with
 | none=>rw[hu] at hk; cases hk
 | some d=>
  rw[hu] at hk;cases d <;> simp_all [ldS,lift,Instr.loadAt,Instr.sureAddr,loadVar,isAgg,underlying]
theorem AU {a:Addr} : ∀(n i:Nat) (acc:Array Value) (vs:List Value),vs.length=n→(∀j,j<n→w.cell? (a.add (i+j))=vs[j]?)→
 (loadCellsFrom a i n acc).run P w = .ok (acc ++ vs.toArray) w:=by
 intro n;induction n with
 | zero=>
  intro i acc vs hl _;obtain rfl:vs = []:=List.length_eq_zero_iff.1 hl;simp[loadCellsFrom]
 | succ n ih=>
  intro i acc vs hl h;match vs,hl with
  | v :: r,hl=>
   have h0:=h 0 (by omega);simp only[Nat.add_zero,List.getElem?_cons_zero] at h0;simp only[loadCellsFrom,Sem.run_bind,run_load,h0,Result.andThen_ok];rw[ih (i+1) (acc.push v) r (by simpa using hl) fun j hj=>by
    have:=h (j+1) (by omega);rw[show i+1+j=i+(j+1) from by omega,this];simp]
   simp
theorem kR {t:TypeId}{a:Addr}{vs:List Value}(hk:knd P t=some true)(hs:siz P t=some vs.length)(h : ∀j,j<vs.length→w.cell? (a.add j)=vs[j]?) :
 ldS P t (.pointer (some a)) w=some (.agg vs.toArray,w):=by
 have hc:=AU (P:=P) (w:=w) (a:=a) vs.length 0 #[] vs rfl (by simpa using h);unfold knd at hk;unfold siz at hs;cases hi:P.info? t with
 | none=>rw[hi] at hs; cases hs
 | some i=>
  rw[hi] at hs;simp only[Option.map_some,Option.some.injEq] at hs;cases hu:P.underlying t with
  | none=>rw[hu] at hk; cases hk
  | some d=>
   rw[hu] at hk;cases d <;> simp at hk <;> simp[ldS,lift,Instr.loadAt,Instr.sureAddr,loadVar,isAgg,underlying,hu,sizeOf,typeInfo,hi,hs,loadCells,hc]
def stS (P:Program)(t:TypeId)(x v:Value)(w:World):Option (Value×World):=
 match (Instr.storeAt t x v).run P w with
 | .ok _ w'=>some (undef,w')
 | _=>none
theorem AV {t:TypeId}{x y:Operand}:opX P D (.store t x y) ty e w=stS P t (e x) (e y) w:=by
 simp only[opX,opS,execOp,stS];generalize Instr.storeAt t (e x) (e y)=s;simp;cases s.run P w <;> simp
def fldS (P:Program)(t:TypeId)(x:Value)(f:Nat)(w:World):Option (Value×World):=lift ((Instr.fieldAt t x f).run P w)
theorem AW {t:TypeId}{x:Operand}{f:Nat}:opX P D (.fieldAddr t x f) ty e w=fldS P t (e x) f w:=by
 simp only[opX,opS,execOp,fldS,lift];generalize Instr.fieldAt t (e x) f=s;simp;cases s.run P w <;> simp
theorem AX {t:TypeId}{b o f n:Nat}(h:fofs P t f=some n):fldS P t (.pointer (some ⟨b,o,none⟩)) f w=some (.pointer (some ⟨b,o+n,none⟩),w):=by
 unfold fofs at h;split at h
 ·rename_i fs hu;split at h
  ·rename_i x hx;cases hs:siz P x.type with
   | none=>rw[hs] at h; simp at h
   | some m=>
    rw[hs] at h;cases m with
    | zero=>simp at h
    | succ m=>
     simp only[Option.some.injEq] at h;unfold siz at hs;cases hi:P.info? x.type with
     | none=>rw[hi] at hs; cases hs
     | some i=>
      rw[hi] at hs;simp only[Option.map_some,Option.some.injEq] at hs;have ha:(⟨b,o,none⟩:Addr).add x.offset=⟨b,o+n,none⟩:=by
       unfold Addr.add;split
       ·rename_i h0; rw[←h,h0]; rfl
       ·rw[h]
      simp[fldS,lift,Instr.fieldAt,underlying,hu,hx,Instr.sureAddr,fieldPlace,sizeOf,typeInfo,hi,hs,ha]
  ·cases h
 ·cases h
def idxS (P:Program)(t:TypeId)(x i:Value)(w:World):Option (Value×World):=lift ((Instr.indexAt t x i).run P w)
theorem AY {t:TypeId}{x i:Operand}:opX P D (.indexAddr t x i) ty e w=idxS P t (e x) (e i) w:=by
 simp only[opX,opS,execOp,idxS,lift];generalize Instr.indexAt t (e x) (e i)=s;simp;cases s.run P w <;> simp
theorem AZ {t el s:TypeId}{b o n c:Nat}{k:IntKind}{i:Int}(ht:elt P t=some el)(hs:siz P el=some s)(h0:0≤i)(h1:i<n) :
 idxS P t (.slice (some ⟨b,o,none⟩) n c) (.int k i) w=some (.pointer (some ⟨b,o+i.toNat*s,none⟩),w):=by
 unfold elt at ht;unfold siz at hs;split at ht
 ·rename_i el' hu;simp only[Option.some.injEq] at ht;subst ht;cases hi:P.info? el' with
  | none=>rw[hi] at hs; cases hs
  | some inf=>
   rw[hi] at hs;simp only[Option.map_some,Option.some.injEq] at hs;have ha:(⟨b,o,none⟩:Addr).add (i.toNat*s)=⟨b,o+i.toNat*s,none⟩:=by
    unfold Addr.add;split
    ·rename_i h0; rw[h0]; rfl
    ·rfl
   simp[idxS,lift,Instr.indexAt,asIntOf,underlying,hu,h0,h1,sizeOf,typeInfo,hi,hs,ha]
 ·cases ht
theorem A0 {t el s:TypeId}{b o n:Nat}{k:IntKind}{i:Int}(ht:arrOf P t=some (n,el))(hs:siz P el=some s)(h0:0≤i)(h1:i<n) :
 idxS P t (.pointer (some ⟨b,o,none⟩)) (.int k i) w=some (.pointer (some ⟨b,o+i.toNat*s,none⟩),w):=by
 unfold arrOf at ht;unfold siz at hs;split at ht
 ·rename_i n' el' hu;simp only[Option.some.injEq,Prod.mk.injEq] at ht;obtain⟨rfl,rfl⟩:=ht;cases hi:P.info? el' with
  | none=>rw[hi] at hs; cases hs
  | some inf=>
   rw[hi] at hs;simp only[Option.map_some,Option.some.injEq] at hs;have ha:(⟨b,o,none⟩:Addr).add (i.toNat*s)=⟨b,o+i.toNat*s,none⟩:=by
    unfold Addr.add;split
    ·rename_i h0; rw[h0]; rfl
    ·rfl
   simp[idxS,lift,Instr.indexAt,asIntOf,underlying,hu,h0,h1,sizeOf,typeInfo,hi,hs,ha,Instr.sureAddr]
 ·cases ht
theorem o9 {f:Operand}{args:Array Operand}{ats:Array TypeId}{g:FuncId}{first cap:Array Value}(hf:e f = .func (.func g) first cap)(hb:hasB P g=true) :
 opX P D (.call ⟨.value f,args,ats⟩) ty e w=D g (first ++ args.map e ++ cap) w:=by
 unfold hasB at hb;cases hg:P.funcs[g]? with
 | none=>rw[hg] at hb; cases hb
 | some fn=>
  rw[hg] at hb;simp only[Bool.and_eq_true,Bool.not_eq_true'] at hb;have h1:fn.body.isNone=false:=by
   cases hbd:fn.body with
   | none=>rw[hbd] at hb; simp at hb
   | some c=>rfl
  have h2:fn.body≠none:=by intro h; rw[h] at h1; simp at h1
  have h3 : fn.name ≠ "runtime.NumGoroutine" := by simpa using hb.2
  simp[opX,opS,execOp,resolve,Deferred.ofValue,hf,invoke,callFunc,hg,h2,h3]
theorem A2 {args:Array Operand}{ats:Array TypeId}{g:FuncId}{ρ:Env}(hb:hasB P g=true) :
 opX P D (.call ⟨.value (.func g),args,ats⟩) ty (ev ρ) w=D g (args.map (ev ρ)) w:=by
 rw[o9 (g:=g) (first:= #[]) (cap:= #[]) rfl hb]
 simp
def lenS (P:Program)(t:TypeId)(x:Value)(w:World):Option (Value×World):=lift ((Builtin.len_ #[t] 0 #[x]).run P w)
theorem A3 {x:Operand}{t:TypeId}:opX P D (.call ⟨.builtin .len,#[x],#[t]⟩) ty e w=lenS P t (e x) w:=by
 simp only[opX,opS,execOp,lenS,lift,resolve];have : ∀ty',Builtin.len_ #[t] ty' #[e x]=Builtin.len_ #[t] 0 #[e x]:=fun _=>rfl;simp[invoke,builtin,this ty];generalize Builtin.len_ #[t] 0 #[e x]=s;cases s.run P w <;> simp
theorem A4 {t el:TypeId}{a:Option Addr}{n c:Nat}(ht:elt P t=some el):lenS P t (.slice a n c) w=some (.int .i64 n,w):=by
 unfold elt at ht;split at ht
 ·rename_i el' hu;simp[lenS,lift,Builtin.len_,underlying,hu,goInt]
 ·cases ht
end
end Go.Proofs.YtpgigkceoolgeaaGreatDoor.Fd
