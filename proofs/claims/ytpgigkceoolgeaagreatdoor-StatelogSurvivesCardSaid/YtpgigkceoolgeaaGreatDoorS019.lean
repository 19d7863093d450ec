import Derived.Test.YtpgigkceoolgeaaGreatDoorS018
import Derived.KernelRfl
set_option linter.all false
namespace Go.Proofs.YtpgigkceoolgeaaGreatDoor.Fd
open Go
set_option maxRecDepth 100000
theorem XK {w:World}{E:TypeId}{s n g cap k:Nat}{xs:List Value}{a:Value}(h:w.ownsRow 0 E s (.slice (some ⟨g,0,none⟩) n cap) n xs)(hk:k<n*s):(w.setCell ⟨g,k,none⟩ a).ownsRow 0 E s (.slice (some ⟨g,0,none⟩) n cap) n (xs.set k a):=by
 obtain⟨h1,h2⟩:=h;refine⟨by rw[List.length_set]; exact h1,?_⟩;rcases h2 with ⟨e,_⟩ | ⟨g',cap',cur,e,hb,hg,hn,hc,hs,ht⟩
 ·cases e
 ·injection e with e1 e2 e3;injection e1 with e1;injection e1 with e1 _ _;subst e1;subst e3;have hB:Blk w g cur.toList E:=by show _=_; rw[hg]
  refine .inr ⟨g,cap,(cur.toList.set k a).toArray,rfl,hb,hB.set k a,hn,hc,by simp[hs],?_⟩;rw[←ht];simp[List.take_set]
theorem tK {s:Nat}{a:Value} : ∀{css:List (List Value)} {i r:Nat} {cs:List Value},(∀cs,cs∈css→cs.length=s)→css[i]? =some cs→r<s→(css.set i (cs.set r a)).flatten=css.flatten.set (i*s+r) a
 | [],i,r,cs,_,hi,_=>by simp at hi
 | x :: l,0,r,cs,h,hi,hr=>by
  simp at hi;subst hi;have hx:=h x List.mem_cons_self;rw[List.set_cons_zero,List.flatten_cons,List.flatten_cons,Nat.zero_mul,Nat.zero_add,List.set_append_left _ _ (by omega)]
 | x :: l,i+1,r,cs,h,hi,hr=>by
  have hx:=h x List.mem_cons_self;rw[List.set_cons_succ,List.flatten_cons,List.flatten_cons,List.set_append_right _ _ (by rw[Nat.succ_mul]; omega),tK (fun y hy=>h y (List.mem_cons_of_mem _ hy)) (by simpa using hi) hr,hx];congr 2;rw[Nat.succ_mul]; omega
theorem RowD.setCell {α:Type}{e:Elt α}(he:EltOk e){w:World}{F:Nat→Prop}{g n cap:Nat}{xs:List α}(h:RowD e w F (.slice (some ⟨g,0,none⟩) n cap) xs){i r:Nat}{x x':α}(hi:xs[i]? =some x)(hr:r<e.s){a:Value}(hn:n=xs.length)
 (hx : ∀cs,e.C w (fun b=>F b∨b=g) x cs→e.C (w.setCell ⟨g,i*e.s+r,none⟩ a) (fun b=>F b∨b=g) x' (cs.set r a)):RowD e (w.setCell ⟨g,i*e.s+r,none⟩ a) F (.slice (some ⟨g,0,none⟩) n cap) (xs.set i x'):=by
 subst hn;obtain⟨css,h1,h2,h3,h4⟩:=h;have hil:i<css.length:=by rw[h1]; exact(List.getElem?_eq_some_iff.1 hi).1
 have hil':i<xs.length:=by rw[←h1]; exact hil
 have hci:=List.getElem?_eq_getElem hil;have hlen:=dI he h1 h3;have hk:i*e.s+r<xs.length*e.s:=by
  have:(i+1)*e.s≤xs.length*e.s:=Nat.mul_le_mul_right _ (by omega);rw[Nat.succ_mul] at this;omega
 refine⟨css.set i ((css[i]).set r a),by simp[h1],?_,fun j cs y hc hy=>?_,h4⟩
 ·rw[tK hlen hci hr,List.length_set];exact XK h2 hk
 ·have ho : ∀b,((Value.slice (some ⟨g,0,none⟩) xs.length cap).ownBlock=some b)=(b=g):=fun b=>by
   show(some g=some b)=_;simp[eq_comm]
  simp only[ho] at h3 ⊢;rw[List.getElem?_set] at hc hy;split at hc
  ·rename_i hij;subst hij;rw[if_pos rfl,if_pos hil'] at hy;injection hy with hy;subst hy;try rw[if_pos hil] at hc
   injection hc with hc;subst hc;exact hx _ (h3 i _ x hci hi)
  ·rename_i hij;rw[if_neg hij] at hy;exact he.go (h3 j cs y hc hy) (Upd.set (F:=fun b=>b=g) rfl) fun b _ h=>h.elim .inr id
theorem RowD.imp {α β:Type}{e:Elt α}{f:Elt β}(hs:f.s=e.s)(hE:f.E=e.E){w:World}{F F':Nat→Prop}{v:Value}{xs:List α}{ys:List β}(h:RowD e w F v xs)(hl:ys.length=xs.length)(hF : ∀g,v.ownBlock=some g→¬F' g)
 (hC : ∀(j:Nat) (x:α) (y:β) (cs:List Value),xs[j]? =some x→ys[j]? =some y→e.C w (fun b=>F b∨v.ownBlock=some b) x cs→f.C w (fun b=>F' b∨v.ownBlock=some b) y cs):RowD f w F' v ys:=by
 obtain⟨css,h1,h2,h3,h4⟩:=h;refine⟨css,by rw[hl]; exact h1,by rw[hs,hE,hl]; exact h2,fun j cs y hc hy=>?_,hF⟩;have hjl:j<xs.length:=by rw[←hl]; exact(List.getElem?_eq_some_iff.1 hy).1
 exact hC j _ y cs (List.getElem?_eq_getElem hjl) hy (h3 j cs _ hc (List.getElem?_eq_getElem hjl))
theorem RowD.form0 {α:Type}{e:Elt α}{w:World}{F:Nat→Prop}{v:Value}{xs:List α}(h:RowD e w F v xs){i:Nat}{x:α}(hi:xs[i]? =some x) : ∃g c,v = .slice (some ⟨g,0,none⟩) xs.length c∧g<w.heap.size∧¬F g:=by
 obtain⟨css,h1,h2,h3,h4⟩:=id h;rcases h2.2 with ⟨rfl,h0⟩ | ⟨g,cap,cur,rfl,_⟩
 ·rw[List.eq_nil_of_length_eq_zero (by omega:xs.length=0)] at hi;simp at hi
 ·exact⟨g,cap,rfl,h.lt rfl,h4 g rfl⟩
def eWf (M:Nat):Elt (Wt×Bool):=⟨129,2,fun w F x cs=>eW.C w (fun b=>F b∨(x.2=true∧b<M)) x.1 cs⟩
theorem mG {M:Nat}:EltOk (eWf M) where
 pos:=(by decide:0<2)
 len:=fun h=>aR.len h
 one:=fun h=>aR.one h
 go:=by
  intro w w' F F' G x cs h hu hG;refine aR.go h hu fun b hb h=>?_;rcases h with h | h | h
  ·exact .inl (hG b hb (.inl h))
  ·exact .inl (hG b hb (.inr h))
  ·exact .inr h
theorem XL (i:Nat)(a:Addr)(n c:Nat)(w:World):binS Tryz.prog .eql 55 (.tmp i) (.const (.slice none 0 0)) (.slice (some a) n c) (.slice none 0 0) w=some (.bool false,w):=by kernel_rfl
theorem XM (i:Nat)(n c:Nat)(w:World):binS Tryz.prog .eql 55 (.tmp i) (.const (.slice none 0 0)) (.slice none n c) (.slice none 0 0) w=some (.bool true,w):=by kernel_rfl
theorem XN (i:Nat)(a:Addr)(n c:Nat)(w:World):binS Tryz.prog .eql 74 (.tmp i) (.const (.slice none 0 0)) (.slice (some a) n c) (.slice none 0 0) w=some (.bool false,w):=by kernel_rfl
theorem XO (i:Nat)(n c:Nat)(w:World):binS Tryz.prog .eql 74 (.tmp i) (.const (.slice none 0 0)) (.slice none n c) (.slice none 0 0) w=some (.bool true,w):=by kernel_rfl
theorem XP (w:World):bslS Tryz.prog 74 0 #[] w=some (.slice (some ⟨w.heap.size,0,none⟩) 0 0,w.alloc (.cells #[] 129 (0,0))):=by kernel_rfl
theorem tL {w:World}{F:Nat→Prop}{y:Value}{l:List Int}(hy:SlB w F y l)(hl:l.length≤1000000000) :
 Ok (den Tryz.prog 164 #[y] w) fun u w'=>Bow w' u l∧(∀g,u.ownBlock=some g→w.heap.size≤g)∧Upd NoB w w':=by
 obtain⟨ya,yc,rfl,hx⟩:=id hy;refine aB (args:=[.slice ya l.length yc]) rs164 Tryz.func164 rfl mixed (by kernel_rfl) S8 rfl ?_;cases ya with
 | none=>
  have h0:l = []:=by
   refine Classical.byContradiction fun h=>?_;obtain⟨b,o,e,_⟩:=hx h;cases e
  subst h0;simp(disch:=omega)only[push_cast,seval,XM];exact⟨Bow.nil,fun g hg=>(by cases hg),Upd.refl⟩
 | some a=>
  simp(maxSteps:=3000000)(disch:=omega)only[push_cast,seval,XL];refine bH (Bow.empty (Blk.new (cs:=[]))) (hy.upd (Upd.alloc (F:=fun _=>False)) (fun _ h=>h.elim)) (by simp; omega) ?_;intro v' w2 hown hu2 hfr;rw[List.nil_append] at hown;have hu2':Upd NoB w w2:=Upd.alloc.trans hu2 fun b hb e=>by have e:=aU e; omega
  obtain⟨va,vc,rfl,_⟩:=hown.form;simp(maxSteps:=3000000)(disch:=omega)only[push_cast,seval];refine⟨hown,fun g hg=>?_,hu2'⟩;rcases hfr g hg with h | h
  ·have:=aU h; omega
  ·have:=h.1; rw[aI] at this; omega
theorem XQ {w:World}{F:Nat→Prop}{y:Value}{l:List Wt}(hy:SlD eW w F y l)(hF : ∀b,F b→b<w.heap.size)(hl:l.length≤1000000000) :
 Ok (den Tryz.prog 165 #[y] w) fun u w'=>RowD eW w' F u l∧(∀g,u.ownBlock=some g→w.heap.size≤g)∧Upd NoB w w':=by
 have hy':=hy;obtain⟨ya,yc,rfl,_,hx⟩:=hy';refine aB (args:=[.slice ya l.length yc]) rs165 Tryz.func165 rfl mixed (by kernel_rfl) S9 rfl ?_;cases ya with
 | none=>
  have h0:l = []:=by
   refine Classical.byContradiction fun h=>?_;obtain⟨b,o,e,_⟩:=hx h;cases e
  subst h0;simp(disch:=omega)only[push_cast,seval,XO];exact⟨.nil,fun g hg=>(by cases hg),Upd.refl⟩
 | some a=>
  simp(maxSteps:=3000000)(disch:=omega)only[push_cast,seval,XN,XP];have hb:=Blk.new (w:=w) (cs:=[]) (E:=129);have u1:Upd NoB w (w.alloc (.cells #[] 129 (0,0))):=Upd.alloc;have hy1:=hy.go (F':=fun b=>F b∨(Value.slice (some ⟨w.heap.size,0,none⟩) 0 0).ownBlock=some b) aR u1 fun b hb h=>by
   rcases h with h | h | h
   ·exact h.elim
   ·exact h
   ·have:=aU h; omega
  refine lI aR (by_:=40) (z:=.agg #[.string ByteArray.empty,.slice none 0 0]) (P:=Tryz.prog) (t:=74) (by kernel_rfl) (by kernel_rfl) (by kernel_rfl) tC tB rfl (xs:=[]) (RowD.empty hb (fun h=>by have:=hF _ h; omega)) hy1 (fun b h=>Nat.lt_of_lt_of_le (hF b h) u1.size) (by simp; omega) (by unfold maxLen; simp; omega) ?_;intro v' w2 hown hu2 hfr;rw[List.nil_append] at hown;have hu2':Upd NoB w w2:=u1.trans hu2 fun b hb e=>by have e:=aU e; omega
  obtain⟨va,vc,rfl⟩:=hown.form;simp(maxSteps:=3000000)(disch:=omega)only[push_cast,seval];refine⟨hown,fun g hg=>?_,hu2'⟩;rcases hfr g hg with h | h
  ·have:=aU h; omega
  ·have:=h.1; rw[aI] at this; omega
set_option maxHeartbeats 4000000 in
theorem XR {w:World}{F:Nat→Prop}{c:Cmd}{cs:List Value}(hc:eC.C w F c cs)(hl:(encC c).length≤80000000) :
 Ok (den Tryz.prog 145 #[.agg cs.toArray] w) fun u w'=>∃cs',u = .agg cs'.toArray∧eC.C w' (fun b=>b<w.heap.size) c cs'∧Upd NoB w w':=by
 refine bZ (args:=[.agg cs.toArray]) 2 76 Tryz.func145 rfl mixed (by kernel_rfl) SP rfl ?_;have hlen:(encC c).length=(encI c.client).length+(encI c.seq).length+(encI c.kind).length+(encU c.ws.length).length+(c.ws.flatMap encW).length+(encI c.rep).length+(encB c.tag).length:=by simp only[encC,encC0,List.length_append]
 have hlt:(encB c.tag).length=(encU c.tag.length).length+c.tag.length:=by simp[encB]
 have hwl:c.ws.length≤(c.ws.flatMap encW).length:=aT fun x=>by have:=aS x.o.length; simp[encW,encB]; omega
 obtain⟨wv,tv,rfl,hws,htag,hcw⟩:=hc;obtain⟨wa,wc,rfl,_⟩:=hws.form;obtain⟨ta,tc,rfl⟩:=htag.form;rw[aD];generalize hKs:KS _ _ _ _ _=Ks;simp(disch:=omega)only[push_cast,seval,bO];have c2:=(Blk.new (w:=w) (cs:=[.int .i64 c.client,.int .i64 c.seq,.int .i64 c.kind,.slice wa c.ws.length wc,.int .i64 c.rep,.slice ta c.tag.length tc]) (E:=76)).alloc (.cells #[Value.int .i64 0,.int .i64 0,.int .i64 0,.slice none 0 0,.int .i64 0,.slice none 0 0] 76 (0,0));have z2:=Blk.new (w:=w.alloc (.cells #[Value.int .i64 c.client,.int .i64 c.seq,.int .i64 c.kind,.slice wa c.ws.length wc,.int .i64 c.rep,.slice ta c.tag.length tc] 76 (0,0))) (cs:=[.int .i64 0,.int .i64 0,.int .i64 0,.slice none 0 0,.int .i64 0,.slice none 0 0]) (E:=76);have u2:Upd NoB w ((w.alloc (.cells #[Value.int .i64 c.client,.int .i64 c.seq,.int .i64 c.kind,.slice wa c.ws.length wc,.int .i64 c.rep,.slice ta c.tag.length tc] 76 (0,0))).alloc (.cells #[Value.int .i64 0,.int .i64 0,.int .i64 0,.slice none 0 0,.int .i64 0,.slice none 0 0] 76 (0,0))):=Upd.alloc.alloc';rw[aI] at z2;have hws2:=hws.go (F':=fun b=>b=w.heap.size∨b=w.heap.size+1) aR u2 fun b hb h=>by rcases h with h | h | h <;> first | exact h.elim | omega
 have htag2:=htag.go (F':=NoB) u2 fun _ _ h=>h.elim (fun h=>h.elim) fun h=>h.elim;generalize (w.alloc (.cells #[Value.int .i64 c.client,.int .i64 c.seq,.int .i64 c.kind,.slice wa c.ws.length wc,.int .i64 c.rep,.slice ta c.tag.length tc] 76 (0,0))).alloc (.cells #[Value.int .i64 0,.int .i64 0,.int .i64 0,.slice none 0 0,.int .i64 0,.slice none 0 0] 76 (0,0))=w2 at *;have s2:w.heap.size+1<w2.heap.size:=z2.lt;clear hws htag;subst hKs;rw[aC];rw[aD];generalize hKs:KS _ _ _ _ _=Ks;simp(disch:=omega)only[push_cast,seval,c2.cell];refine Ok.use (tL htag2 (by omega)) ?_;rintro u w3 ⟨hb3,hf3,u3⟩;have c3:=c2.upd u3 fun h=>h;have z3:=z2.upd u3 fun h=>h;have hws3:=hws2.go (F':=fun b=>b=w.heap.size∨b=w.heap.size+1) aR u3 fun b hb h=>h.elim (fun h=>h.elim) id;have v3:=u2.trans u3 fun _ _ h=>h;have s3:=u3.size;obtain⟨ba,bc,rfl,_⟩:=hb3.form;simp(disch:=omega)only[push_cast,seval,c3.cell,c3.free];have c4:=c3.set 5 (.slice ba c.tag.length bc);have u4:Upd (fun b=>b=w.heap.size) w3 (w3.setCell ⟨w.heap.size,5,none⟩ (.slice ba c.tag.length bc)):=Upd.set rfl;have sz4:(w3.setCell ⟨w.heap.size,5,none⟩ (.slice ba c.tag.length bc)).heap.size=w3.heap.size:=bA;simp only[List.set_cons_succ,List.set_cons_zero] at c4;have z4:=z3.upd u4 (by omega);have hws4:=hws3.go (F':=fun b=>b=w.heap.size∨b=w.heap.size+1) aR u4 fun b hb h=>h.elim .inl id;have hb4:=hb3.upd u4 fun b h1 h2=>by have:=hf3 b h1; omega
 have v4:=v3.trans u4 fun b h1 h=>by omega
 generalize w3.setCell ⟨w.heap.size,5,none⟩ (.slice ba c.tag.length bc)=w4 at *;subst hKs;rw[aC];rw[aD];generalize hKs:KS _ _ _ _ _=Ks;simp(disch:=omega)only[push_cast,seval,c4.cell];refine Ok.use (XQ hws4 (fun b h=>by omega) (by omega)) ?_;rintro u w5 ⟨hr5,hf5,u5⟩;have c5:=c4.upd u5 fun h=>h;have z5:=z4.upd u5 fun h=>h;have hb5:=hb4.upd u5 fun b h1 h2=>h2;have v5:=v4.trans u5 fun b h1 h=>h;have s5:=u5.size;obtain⟨ra,rc,rfl⟩:=hr5.form;simp(disch:=omega)only[push_cast,seval,c5.cell,c5.free];have c6:=c5.set 3 (.slice ra c.ws.length rc);have u6:Upd (fun b=>b=w.heap.size) w5 (w5.setCell ⟨w.heap.size,3,none⟩ (.slice ra c.ws.length rc)):=Upd.set rfl;simp only[List.set_cons_succ,List.set_cons_zero] at c6;have z6:=z5.upd u6 (by omega);have hr6:=hr5.go (F':=fun b=>b=w.heap.size∨b=w.heap.size+1) aR u6 fun b hb h=>h.elim .inl id;have hb6:=hb5.upd u6 fun b h1 h2=>by have:=hf3 b h1; omega
 have v6:=v5.trans u6 fun b h1 h=>by omega
 have s6:=u6.size;generalize w5.setCell ⟨w.heap.size,3,none⟩ (.slice ra c.ws.length rc)=w6 at *;have hR:RowD (eWf w3.heap.size) w6 (fun b=>b=w.heap.size∨b=w.heap.size+1) (.slice ra c.ws.length rc) ((c.ws.take 0).map (·,true) ++ (c.ws.drop 0).map (·,false)):=RowD.imp (e:=eW) (f:=eWf w3.heap.size) (ys:=(c.ws.take 0).map (·,true) ++ (c.ws.drop 0).map (·,false)) rfl rfl hr6 (by simp) (fun g hg=>hr6.free hg) fun j x y cs hx hy h=>by
  simp[hx] at hy;subst hy;exact aR.go h (Upd.refl (F:=NoB)) fun b _ h=>by
   rcases h with h | h | h
   ·exact h.elim
   ·exact h
   ·exact absurd h.1 (by simp)
 subst hKs;rw[aC];rw[aD];generalize hKs:KS _ _ _ _ _=Ks;simp(disch:=omega)only[push_cast,seval,c6.cell];refine aG (I:=fun k st w'=>Bx (∃i:Nat,k+i=c.ws.length∧st = [.int .i64 (i:Int)]∧Blk w' w.heap.size [.int .i64 c.client,.int .i64 c.seq,.int .i64 c.kind,.slice ra c.ws.length rc,.int .i64 c.rep,.slice ba c.tag.length bc] 76∧Blk w' (w.heap.size+1) [.int .i64 0,.int .i64 0,.int .i64 0,.slice none 0 0,.int .i64 0,.slice none 0 0] 76∧Bow w' (.slice ba c.tag.length bc) c.tag∧RowD (eWf w3.heap.size) w' (fun b=>b=w.heap.size∨b=w.heap.size+1) (.slice ra c.ws.length rc) ((c.ws.take i).map (·,true) ++ (c.ws.drop i).map (·,false))∧Upd NoB w w'∧w6.heap.size≤w'.heap.size) ⟨⟩) ?_ c.ws.length ⟨0,rfl,rfl,c6,z6,hb6,hR,v6,Nat.le_refl _⟩;have htl4 : ∀b,(Value.slice ba c.tag.length bc).ownBlock=some b→b<w4.heap.size:=fun b hb=>hb4.lt hb;have s4:=u4.size;clear c2 c3 c4 c5 c6 z2 z3 z4 z5 z6 hws2 hws3 hws4 htag2 hb3 hb4 hb5 hb6 hr5 hr6 hR v3 v4 v5 v6 u2 u3 u4 u5 u6;rintro k st w7 ⟨i,hk,rfl,c7,z7,hb7,hR7,v7,s7⟩;by_cases hk0:k=0
 ·obtain rfl:i=c.ws.length:=by omega
  simp(disch:=omega)only[push_cast,seval];subst hKs;rw[aC];rw[List.take_length,List.drop_length,List.map_nil,List.append_nil] at hR7;have hRz:RowD eW w7 (fun b=>b=w.heap.size∨b=w.heap.size+1∨b<w.heap.size) (.slice ra c.ws.length rc) c.ws:=RowD.imp (e:=eWf w3.heap.size) (f:=eW) rfl rfl hR7 (by simp) (fun g hg h=>by have:=hR7.free hg; have:=hf5 g hg; omega) fun j x y cs hx hy h=>by
   rw[List.getElem?_map,hy] at hx;simp only[Option.map_some,Option.some.injEq] at hx;subst hx;exact aR.go h (Upd.refl (F:=NoB)) fun b _ h=>by
    rcases h with h | (h | h | h) | h
    ·exact h.elim
    ·exact .inl (.inl (.inl h))
    ·exact .inl (.inl (.inr h))
    ·exact .inr ⟨rfl,by omega⟩
    ·exact .inl (.inr h)
  have z8:=z7.setRow (cs':=[.int .i64 c.client,.int .i64 c.seq,.int .i64 c.kind,.slice ra c.ws.length rc,.int .i64 c.rep,.slice ba c.tag.length bc]);have u8:Upd (fun b=>b=w.heap.size+1) w7 (w7.setRow (w.heap.size+1) [.int .i64 c.client,.int .i64 c.seq,.int .i64 c.kind,.slice ra c.ws.length rc,.int .i64 c.rep,.slice ba c.tag.length bc].toArray):=Upd.setRow rfl;simp(maxSteps:=3000000)(disch:=omega)only[push_cast,seval,aJ (P:=Tryz.prog) (t:=76) c7 (by kernel_rfl) (by kernel_rfl),aP (P:=Tryz.prog) (t:=76) (cs':=[.int .i64 c.client,.int .i64 c.seq,.int .i64 c.kind,.slice ra c.ws.length rc,.int .i64 c.rep,.slice ba c.tag.length bc]) z7 (by kernel_rfl) rfl (by simp[Value.oneCell']),aJ (P:=Tryz.prog) (t:=76) z8 (by kernel_rfl) (by kernel_rfl)];have k1:=(hRz.slD aR).go (F':=fun b=>b<w.heap.size) aR u8 fun b _ h=>by omega
  have k2:=(hb7.upd u8 fun b h1 h2=>by have:=hf3 b h1; omega).slb (F:=fun b=>b<w.heap.size) fun g hg h=>by have:=hf3 g hg; omega
  exact⟨[.int .i64 c.client,.int .i64 c.seq,.int .i64 c.kind,.slice ra c.ws.length rc,.int .i64 c.rep,.slice ba c.tag.length bc],rfl,⟨_,_,rfl,k1,k2,hcw⟩,v7.trans u8 fun b h1 h=>by omega⟩
 have hi:i<c.ws.length:=by omega
 have hxi:=List.getElem?_eq_getElem hi;generalize c.ws[i]=x at *;have hlL:((c.ws.take i).map (·,true) ++ (c.ws.drop i).map (·,false):List (Wt×Bool)).length=c.ws.length:=by simp; omega
 have hxL:((c.ws.take i).map (·,true) ++ (c.ws.drop i).map (·,false):List (Wt×Bool))[i]? =some (x,false):=by
  rw[List.getElem?_append_right (by simp; omega)];simp only[List.length_map,List.length_take];rw[show i-min i c.ws.length=0 from by omega,List.getElem?_map,List.getElem?_drop,Nat.add_zero,hxi];rfl
 have hset:(((c.ws.take i).map (·,true) ++ (c.ws.drop i).map (·,false):List (Wt×Bool))).set i (x,true)=(c.ws.take (i+1)).map (·,true) ++ (c.ws.drop (i+1)).map (·,false):=by
  rw[List.set_append_right _ _ (by rw[List.length_map,List.length_take]; omega),List.length_map,List.length_take,show i-min i c.ws.length=0 from by omega,List.drop_eq_getElem_cons hi,List.map_cons,List.set_cons_zero,List.take_add_one,List.getElem?_eq_getElem hi,List.map_append];have e:c.ws[i]=x:=by rw[List.getElem?_eq_getElem hi] at hxi; injection hxi
  simp[e]
 obtain⟨g,rc',hv,hg,hgF⟩:=hR7.form0 hxL;rw[hlL] at hv;injection hv with e1 _ e3;subst e1;subst e3;obtain⟨xb,xo,xc,xcs,hv,hxl,hxF,⟨dv,rfl,hd,hwx⟩,hcell⟩:=(hR7.slD mG).at_ hxL;injection hv with e1 _ e3;injection e1 with e1;injection e1 with e1 e2;subst e1;subst e2;obtain⟨da,dc,rfl⟩:=hd.form;have q1:=hcell 1 (by decide:1<2);have es2:(eWf w3.heap.size).s=2:=rfl;rw[es2] at q1;simp only[List.getElem?_cons_zero,List.getElem?_cons_succ,Nat.zero_add] at q1;have hlo:(encB x.o).length=(encU x.o.length).length+x.o.length:=by simp[encB]
 have hld:(encB x.d).length=(encU x.d.length).length+x.d.length:=by simp[encB]
 have hle:=aV (f:=encW) hxi;have hlx:(encW x).length=(encB x.o).length+(encB x.d).length:=by simp[encW]
 have c7d:=c7.upd (Upd.drew (F:=NoB)) fun h=>h;simp(maxSteps:=3000000)(disch:=omega)only[push_cast,seval,↓aE,↓aF,c7d.cell,q1];refine Ok.use (tL (hd.go (F':=NoB) (Upd.drew (F:=NoB)) fun _ _ h=>h.elim (fun h=>h.elim) fun h=>h.elim) (show x.d.length≤1000000000 by omega)) ?_;rintro u w8 ⟨hb8,hf8,u8'⟩;have u8:Upd NoB w7 w8:=(Upd.drew (F:=NoB)).trans u8' fun _ _ h=>h;obtain⟨va,vc,rfl,_⟩:=hb8.form;have c8:=c7.upd u8 fun h=>h;have z8:=z7.upd u8 fun h=>h;have hb8':=hb7.upd u8 fun b h1 h2=>h2;have hR8:=hR7.go (F':=fun b=>b=w.heap.size∨b=w.heap.size+1) mG u8 fun b hb h=>h.elim (fun h=>h.elim) id;have v8:=v7.trans u8 fun b h1 h=>h;have s8:=u8.size;obtain⟨gs,hB⟩:=hR8.ty (g:=g) rfl;have q8:w8.cell? ⟨g,i*2+1,none⟩=some (.slice da x.d.length dc):=by
  rw[World.cell?_of_block (a:=⟨g,i*2+1,none⟩) (u8.block g hg fun h=>h)];exact q1
 simp(maxSteps:=3000000)(disch:=omega)only[push_cast,seval,↓aE,↓aF,c7d.cell,c8.cell,q1,q8,hB.free];have hg4:w4.heap.size≤g:=hf5 g rfl;have s78:w7.heap.size≤w8.heap.size:=u8.size;have s7d:w7.drew.heap.size=w7.heap.size:=rfl;have u9:Upd (fun b=>b=g) w8 (w8.setCell ⟨g,i*2+1,none⟩ (.slice va x.d.length vc)):=Upd.set rfl;have hb9:=(hb8.upd u9 fun b h1 h2=>by have:=hf8 b h1; omega).slb (F:=fun b=>((b=w.heap.size∨b=w.heap.size+1)∨b=g)∨(true=true∧b<w3.heap.size)) fun b hb h=>by
  have:=hf8 b hb;omega
 have hR9:=RowD.setCell mG (x':=(x,true)) (a:=.slice va x.d.length vc) hR8 hxL (by decide:1<2) hlL.symm (fun cs h=>by
  obtain⟨dv,rfl,_,h3⟩:=h;exact⟨_,rfl,hb9,h3⟩)
 rw[hset,es2] at hR9;exact⟨k-1,by omega,i+1,by omega,by simp,c8.upd u9 (by omega),z8.upd u9 (by omega),hb8'.upd u9 fun b h1 h2=>by have:=htl4 b h1; omega,hR9,v8.trans u9 fun b h1 h=>by omega,by have:=u9.size; omega⟩
open Go
set_option maxRecDepth 100000
theorem jF {b:Nat}{E:TypeId} : ∀{l:List Value} {w:World} {cs:List Value} {o:Nat},Blk w b cs E→o+l.length≤cs.length→(∀u∈l,u.oneCell'=true)→putAt w b o l=some (w.setRow b (cs.take o ++ (l ++ cs.drop (o+l.length))).toArray):=by
 intro l;induction l with
 | nil=>
  intro w cs o h hl _;rw[List.nil_append,List.length_nil,Nat.add_zero,List.take_append_drop,pY h];rfl
 | cons v r ih=>
  intro w cs o h hl h1;simp only[List.length_cons] at hl;have hc:w.cell? ⟨b,o,none⟩=some cs[o]:=by rw[h.cell,List.getElem?_eq_getElem]
  rw[kY,hc,h.free,h1 v (by simp),kX,bX,bU,ih (h.set o v) (by simp; omega) (fun u hu=>h1 u (by simp[hu])),pZ];congr 3;have e1:(cs.set o v).take (o+1)=cs.take o ++ [v]:=by
   rw[List.take_succ_eq_append_getElem (by simp; omega),List.getElem_set_self];congr 1;rw[List.take_set,List.set_eq_of_length_le (by simp; omega)]
  have e2:(cs.set o v).drop (o+1+r.length)=cs.drop (o+(r.length+1)):=by
   rw[List.drop_set,if_pos (by omega)];congr 1;omega
  rw[e1,e2,List.append_assoc,List.length_cons];rfl
theorem tM {s:Nat}{cs:List Value}(hcs:cs.length=s) : ∀{css:List (List Value)} {i:Nat},(∀c,c∈css→c.length=s)→i<css.length→(css.set i cs).flatten=css.flatten.take (i*s) ++ (cs ++ css.flatten.drop (i*s+s))
 | [],i,_,hi=>by simp at hi
 | x :: l,0,h,_=>by
  have hx:=h x List.mem_cons_self;rw[List.set_cons_zero,List.flatten_cons,List.flatten_cons,Nat.zero_mul,List.take_zero,List.nil_append,Nat.zero_add,←hx,List.drop_left]
 | x :: l,i+1,h,hi=>by
  have hx:=h x List.mem_cons_self;rw[List.set_cons_succ,List.flatten_cons,List.flatten_cons,tM hcs (fun y hy=>h y (List.mem_cons_of_mem _ hy)) (by simpa using hi)];have e1:(i+1)*s=x.length+i*s:=by rw[Nat.succ_mul,hx]; omega
  rw[e1,List.take_length_add_append,Nat.add_assoc,List.drop_length_add_append,List.append_assoc]
theorem eY {α:Type}{e:Elt α}(he:EltOk e){P:Program}(hs:siz P e.E=some e.s){w:World}{F:Nat→Prop}{g n cap:Nat}{xs:List α}(h:RowD e w F (.slice (some ⟨g,0,none⟩) n cap) xs){i:Nat}(hi:i<xs.length)(hn:n=xs.length){x':α}{cs:List Value}
 (hx:e.C w (fun b=>F b∨b=g) x' cs) : ∃w',stS P e.E (.pointer (some ⟨g,i*e.s,none⟩)) (.agg cs.toArray) w=some (undef,w')∧RowD e w' F (.slice (some ⟨g,0,none⟩) n cap) (xs.set i x')∧Upd (fun b=>b=g) w w'∧w'.heap.size=w.heap.size:=by
 subst hn;obtain⟨css,h1,h2,h3,h4⟩:=h;have hlen:=dI he h1 h3;have hcs:=he.len hx;have hfl:=cP hlen;obtain⟨h21,h22⟩:=id h2;rcases h22 with ⟨e0,_⟩ | ⟨g',cap',cur,e0,hb,hg,hnc,hc,hsz,ht⟩
 ·cases e0
 injection e0 with e1 e2 e3;injection e1 with e1;injection e1 with e1 _ _;subst e1;subst e3;have hB:Blk w g cur.toList e.E:=by show _=_; rw[hg]
 have hk:i*e.s+e.s≤xs.length*e.s:=by
  have:(i+1)*e.s≤xs.length*e.s:=Nat.mul_le_mul_right _ (by omega);rw[Nat.succ_mul] at this;exact this
 have hk2:xs.length*e.s≤cap*e.s:=Nat.mul_le_mul_right _ hnc;have hp:=jF (l:=cs) (o:=i*e.s) hB (by rw[hcs]; simp; omega) (he.one hx);have u1:Upd (fun b=>b=g) w (w.setRow g (cur.toList.take (i*e.s) ++ (cs ++ cur.toList.drop (i*e.s+cs.length))).toArray):=Upd.setRow rfl;have hB2:=hB.setRow (cs':=cur.toList.take (i*e.s) ++ (cs ++ cur.toList.drop (i*e.s+cs.length)));refine⟨_,fX (by rw[hs]; simp[Value.cells,hcs]) (by simpa[Value.cells] using hp),⟨css.set i cs,by simp[h1],?_,fun j c y hc hy=>?_,h4⟩,u1,by rw[size_setRow]⟩
 ·rw[tM hcs hlen (by rw[h1]; exact hi),List.length_set];refine⟨?_,.inr ⟨g,cap,_,rfl,hb,hB2,hnc,hc,?_,?_⟩⟩
  ·simp only[List.length_append,List.length_take,List.length_drop,hcs,hfl,h1];omega
  ·simp only[List.size_toArray,List.length_append,List.length_take,List.length_drop,hcs,Array.length_toList,hsz];omega
  ·rw[←ht];have hcl:cur.toList.length=cap*e.s:=by rw[Array.length_toList]; exact hsz
   simp only[List.toList_toArray,hcs];generalize cur.toList=L at *;rw[List.take_append,List.length_take,hcl,List.take_take,List.take_append,hcs,List.take_take,List.drop_take,show min (xs.length*e.s) (i*e.s)=i*e.s from by omega,show min (i*e.s) (xs.length*e.s)=i*e.s from by omega,show min (i*e.s) (cap*e.s)=i*e.s from by omega,List.take_of_length_le (l:=cs) (by rw[hcs]; omega),show xs.length*e.s-i*e.s-e.s=xs.length*e.s-(i*e.s+e.s) from by omega]
 ·have ho : ∀b,((Value.slice (some ⟨g,0,none⟩) xs.length cap).ownBlock=some b)=(b=g):=fun b=>by
   show(some g=some b)=_;simp[eq_comm]
  simp only[ho] at h3 ⊢;rw[List.getElem?_set] at hc hy;split at hc
  ·rename_i hij;subst hij;rw[if_pos rfl,if_pos hi] at hy;injection hy with hy;subst hy;try rw[if_pos (by rw[h1]; exact hi)] at hc
   injection hc with hc;subst hc;exact he.go hx u1 fun b _ h=>h.elim .inr id
  ·rename_i hij;rw[if_neg hij] at hy;exact he.go (h3 j c y hc hy) u1 fun b _ h=>h.elim .inr id
theorem tN {z:List Value}{s m:Nat}(hz:z.length=s)(hs:0<s):(madeCells z.toArray (m*s)).toList=(List.replicate m z).flatten:=by
 have hlen : ∀c,c∈List.replicate m z→c.length=s:=fun c hc=>by rw[List.eq_of_mem_replicate hc]; exact hz
 have hfl:=cP hlen;rw[List.length_replicate] at hfl;refine List.ext_getElem? fun k=>?_;by_cases hk:k<m*s
 ·have hj:k/s<m:=(Nat.div_lt_iff_lt_mul hs).2 hk;have hr:k%s<s:=Nat.mod_lt _ hs;have hdm:k/s*s+k%s=k:=by rw[Nat.mul_comm]; exact Nat.div_add_mod k s
  have h1:=dY hlen (j:=k/s) (cs:=z) (by rw[List.getElem?_replicate,if_pos hj]) (k%s) hr;rw[hdm] at h1;rw[h1,List.getElem?_eq_getElem (l:=z) (i:=k%s) (by rw[hz]; exact hr)];have e:z.toArray[k%s]! =z[k%s]'(by rw[hz]; exact hr):=by
   rw[getElem!_pos z.toArray (k%s) (by simpa[hz] using hr)];simp
  simp[madeCells,hk,hz];rw[List.getElem?_eq_getElem (by rw[hz]; exact hr)];rfl
 ·rw[List.getElem?_eq_none (by rw[Array.length_toList,size_madeCells]; omega),List.getElem?_eq_none (by rw[hfl]; omega)]
def c0:Cmd:=⟨0,0,0,[],0,[]⟩
def c0v:List Value:=[.int .i64 0,.int .i64 0,.int .i64 0,.slice none 0 0,.int .i64 0,.slice none 0 0]
theorem mH {w:World}{F:Nat→Prop}:eC.C w F c0 c0v:=⟨.slice none 0 0,.slice none 0 0,rfl,SlD.nil,⟨none,0,rfl,fun h=>absurd rfl h⟩,⟨by decide,by decide⟩,⟨by decide,by decide⟩,⟨by decide,by decide⟩,⟨by decide,by decide⟩,fun x hx=>by simp [c0] at hx,fun x hx=>by simp [c0] at hx⟩
theorem XS {w:World}{F:Nat→Prop}{n:Nat}(hn:n≤1000000000)(hF : ¬F w.heap.size) : ∃w',mkS Tryz.prog 32 (.int .i64 (n:Int)) (.int .i64 (n:Int)) w=some (.slice (some ⟨w.heap.size,0,none⟩) n n,w')∧RowD eC w' F (.slice (some ⟨w.heap.size,0,none⟩) n n) (List.replicate n c0)∧Upd NoB w w'∧w'.heap.size=w.heap.size+1:=by
 have hi : ∃i,Tryz.prog.info? 76=some i∧i.size=6∧i.bytes=80∧i.zero=some (.agg #[.int .i64 0,.int .i64 0,.int .i64 0,.slice none 0 0,.int .i64 0,.slice none 0 0]):=by
  have hs:siz Tryz.prog 76=some 6:=by kernel_rfl
  have hb:=gO;have hz:=bO;unfold siz at hs;unfold byt at hb;unfold zer at hz;cases hi:Tryz.prog.info? 76 with
  | none=>rw[hi] at hs; cases hs
  | some i=>
   rw[hi] at hb hz hs;simp only[Option.map_some,Option.some.injEq,Option.bind_some] at hb hz hs;exact⟨i,rfl,hs,hb,hz⟩
 obtain⟨i,hi,hs,hb,hz⟩:=hi;have hu:Tryz.prog.underlying 32=some (.slice 76):=by kernel_rfl
 have hr:=run_make (P:=Tryz.prog) w 32 76 i _ hu hi hz .i64 .i64 n n (by omega) (Int.le_refl _) (by rw[hb]; omega) (by omega);have hcl:(Value.agg #[.int .i64 0,.int .i64 0,.int .i64 0,.slice none 0 0,.int .i64 0,.slice none 0 0]).cells=c0v.toArray:=rfl;rw[hcl,hs,Int.toNat_natCast] at hr;have u1:Upd NoB w (w.alloc (.cells (madeCells c0v.toArray (n*6)) 76)):=Upd.alloc;have hB:Blk (w.alloc (.cells (madeCells c0v.toArray (n*6)) 76)) w.heap.size (madeCells c0v.toArray (n*6)).toList 76:=by
  have:=Blk.new (w:=w) (cs:=(madeCells c0v.toArray (n*6)).toList) (E:=76);simpa using this
 have hfl:=tN (z:=c0v) (s:=6) (m:=n) rfl (by decide);refine⟨_,by unfold mkS lift; rw[hr],⟨List.replicate n c0v,by simp,?_,fun j cs x hc hx=>?_,fun g hg=>?_⟩,u1,aI⟩
 ·rw[←hfl,List.length_replicate];refine⟨by rw[Array.length_toList,size_madeCells]; rfl,.inr ⟨w.heap.size,n,madeCells c0v.toArray (n*6),rfl,Nat.zero_le _,?_,Nat.le_refl _,by unfold maxLen; omega,by rw[size_madeCells]; rfl,?_⟩⟩
  ·have h:=hB;unfold Blk at h;rw[Array.toArray_toList] at h;exact h
  ·exact List.take_of_length_le (by rw[Array.length_toList,size_madeCells]; exact Nat.le_refl _)
 ·rw[List.getElem?_replicate] at hc hx;split at hc
  ·injection hc with hc;rename_i hj;rw[if_pos hj] at hx;injection hx with hx;subst hc;subst hx;exact mH
  ·cases hc
 ·have e:w.heap.size=g:=Option.some.inj hg;rw[←e];exact hF
open Go
set_option maxRecDepth 100000
theorem eZ (x y:UInt8):x<y∨x=y∨y<x:=by
 rcases Nat.lt_trichotomy x.toNat y.toNat with h | h | h
 ·exact .inl (UInt8.lt_iff_toNat_lt.2 h)
 ·exact .inr (.inl (UInt8.toNat_inj.1 h))
 ·exact .inr (.inr (UInt8.lt_iff_toNat_lt.2 h))
theorem dL {x:UInt8} : ¬x<x:=fun h=>Nat.lt_irrefl _ (UInt8.lt_iff_toNat_lt.1 h)
theorem dM {x y:UInt8}(h:x<y) : ¬y<x:=fun h2=>Nat.lt_asymm (UInt8.lt_iff_toNat_lt.1 h) (UInt8.lt_iff_toNat_lt.1 h2)
theorem XT {x y z:UInt8}(h:x<y)(h2:y<z):x<z:=UInt8.lt_iff_toNat_lt.2 (Nat.lt_trans (UInt8.lt_iff_toNat_lt.1 h) (UInt8.lt_iff_toNat_lt.1 h2))
theorem dN {x y:UInt8}{a b:List UInt8}:Lib.compareBytes (x :: a) (y :: b)=if x<y then -1 else if y<x then 1 else Lib.compareBytes a b:=by
 rw[Lib.compareBytes]
theorem tO : ∀(a:List UInt8),Lib.compareBytes a a=0
 | []=>by simp[Lib.compareBytes]
 | x :: a=>by rw[dN,if_neg dL,if_neg dL,tO a]
theorem mI : ∀(a b:List UInt8),Lib.compareBytes a b = - Lib.compareBytes b a
 | [],[]=>by simp[Lib.compareBytes]
 | [],y :: b=>by simp[Lib.compareBytes]
 | x :: a,[]=>by simp[Lib.compareBytes]
 | x :: a,y :: b=>by
  rw[dN,dN,mI a b];rcases eZ x y with h | rfl | h
  ·simp[h,dM h]
  ·simp[dL]
  ·simp[h,dM h]
theorem mJ : ∀{a b:List UInt8},Lib.compareBytes a b=0→a=b
 | [],[],_=>rfl
 | [],y :: b,h=>by simp[Lib.compareBytes] at h
 | x :: a,[],h=>by simp[Lib.compareBytes] at h
 | x :: a,y :: b,h=>by
  rw[dN] at h;rcases eZ x y with h1 | rfl | h1
  ·simp[h1] at h
  ·simp[dL] at h;rw[mJ h]
  ·simp[h1,dM h1] at h
theorem mK : ∀{a b c:List UInt8},Lib.compareBytes a b<0→Lib.compareBytes b c<0→Lib.compareBytes a c<0
 | [],[],_,h,_=>by simp[Lib.compareBytes] at h
 | [],y :: b,[],_,h=>by simp[Lib.compareBytes] at h
 | [],y :: b,z :: c,_,_=>by simp[Lib.compareBytes]
 | x :: a,[],_,h,_=>by simp[Lib.compareBytes] at h
 | x :: a,y :: b,[],_,h=>by simp[Lib.compareBytes] at h
 | x :: a,y :: b,z :: c,h1,h2=>by
  rw[dN] at h1 h2 ⊢;rcases eZ x y with h | rfl | h
  ·rcases eZ y z with k | rfl | k
   ·simp[XT h k]
   ·simp[h]
   ·simp[k,dM k] at h2
  ·rcases eZ x z with k | rfl | k
   ·simp[k]
   ·simp[dL] at h1 h2 ⊢;exact mK h1 h2
   ·simp[k,dM k] at h2
  ·simp[h,dM h] at h1
theorem XU {x y:List Int}(hx:Rng x)(hy:Rng y)(h:(strOfNums x).data.toList=(strOfNums y).data.toList):x=y:=by
 have e:strOfNums x=strOfNums y:=by
  cases h1:strOfNums x; cases h2:strOfNums y;rw[h1,h2] at h;exact congrArg ByteArray.mk (Array.toList_inj.1 h)
 rw[←iY hx,←iY hy,e]
theorem mL {x y:List Int}(hx:Rng x)(hy:Rng y):ordL x y=0↔x=y:=
 ⟨fun h=>XU hx hy (mJ h),fun h=>by rw[h]; exact tO _⟩
theorem cT {a b:Int}:ordI a b=0↔a=b:=by unfold ordI; split <;> (try split) <;> omega
theorem tP {a b:Int}:ordI a b = - ordI b a:=by unfold ordI; split <;> (try split) <;> (try split) <;> omega
theorem tQ {a b:Int}:ordI a b<0↔a<b:=by unfold ordI; split <;> (try split) <;> omega
theorem jG {a b:Cmd}:cmpC a b = - cmpC b a:=by
 have h1:=tP (a:=a.client) (b:=b.client);have h2:=tP (a:=a.seq) (b:=b.seq);have h3:ordL (encC a) (encC b) = - ordL (encC b) (encC a):=mI _ _;unfold cmpC;split <;> split <;> (try split) <;> (try split) <;> omega
theorem jH {a b:Cmd}:cmpC a b<0↔a.client<b.client∨(a.client=b.client∧(a.seq<b.seq∨(a.seq=b.seq∧ordL (encC a) (encC b)<0))):=by
 have h1:=tQ (a:=a.client) (b:=b.client);have h2:=tQ (a:=a.seq) (b:=b.seq);have k1:=cT (a:=a.client) (b:=b.client);have k2:=cT (a:=a.seq) (b:=b.seq);unfold cmpC;split <;> (try split) <;> omega
theorem dB {a b c:Cmd}(h1:cmpC a b<0)(h2:cmpC b c<0):cmpC a c<0:=by
 rw[jH] at h1 h2 ⊢;have h3:ordL (encC a) (encC b)<0→ordL (encC b) (encC c)<0→ordL (encC a) (encC c)<0:=mK;rcases h1 with h1 | ⟨e1,h1 | ⟨e2,h1⟩⟩
 ·rcases h2 with h2 | ⟨e3,_⟩
  ·exact .inl (by omega)
  ·exact .inl (by omega)
 ·rcases h2 with h2 | ⟨e3,h2 | ⟨e4,_⟩⟩
  ·exact .inl (by omega)
  ·exact .inr ⟨by omega,.inl (by omega)⟩
  ·exact .inr ⟨by omega,.inl (by omega)⟩
 ·rcases h2 with h2 | ⟨e3,h2 | ⟨e4,h2⟩⟩
  ·exact .inl (by omega)
  ·exact .inr ⟨by omega,.inl (by omega)⟩
  ·exact .inr ⟨by omega,.inr ⟨by omega,h3 h1 h2⟩⟩
theorem XV {a b:Cmd}(ha:CmdW a)(hb:CmdW b):cmpC a b=0↔a.client=b.client∧a.seq=b.seq∧encC a=encC b:=by
 have k1:=cT (a:=a.client) (b:=b.client);have k2:=cT (a:=a.seq) (b:=b.seq);have k3:=mL (bI ha) (bI hb);unfold cmpC;split
 ·rename_i h;exact⟨fun h2=>absurd h2 h,fun h2=>absurd (k1.2 h2.1) h⟩
 ·rename_i h;split
  ·rename_i h';exact⟨fun h2=>absurd h2 h',fun h2=>absurd (k2.2 h2.2.1) h'⟩
  ·rename_i h';exact⟨fun h2=>⟨k1.1 (Classical.not_not.1 h),k2.1 (Classical.not_not.1 h'),k3.1 h2⟩,fun h2=>k3.2 h2.2.2⟩
theorem jI {a:Cmd}:cmpC a a=0:=by
 have:=jG (a:=a) (b:=a);omega
open Go
set_option maxRecDepth 100000
theorem tR {l r:List Int}:Has (l ++ r) 0 l:=fun j hj=>by rw [Nat.zero_add,List.getElem?_append_left hj]
theorem mM {n m:Nat}{r s:List Int}(hn:n<2 ^ 64)(hm:m<2 ^ 64)(h:encU n ++ r=encU m ++ s):n=m∧r=s:=by
 have h1:=eD hn (tR (l:=encU n) (r:=r));have h2:=eD hm (tR (l:=encU m) (r:=s));rw[h,h2] at h1;injection h1 with h1;injection h1 with h1 _;subst h1;exact⟨rfl,List.append_cancel_left h⟩
theorem XW {a b:Int}(h:zig a=zig b):a=b:=by
 unfold zig at h;split at h <;> split at h <;> omega
theorem jJ {a b:Int}{r s:List Int}(ha:I64 a)(hb:I64 b)(h:encI a ++ r=encI b ++ s):a=b∧r=s:=by
 obtain⟨h1,h2⟩:=mM (dJ ha) (dJ hb) h;exact⟨XW h1,h2⟩
theorem mN {a b r s:List Int}(ha:a.length<2 ^ 64)(hb:b.length<2 ^ 64)(h:encB a ++ r=encB b ++ s):a=b∧r=s:=by
 simp only[encB,List.append_assoc] at h;obtain⟨h1,h2⟩:=mM ha hb h;exact List.append_inj h2 h1
theorem tS {α:Type}{f:α→List Int}(P:α→Prop)(hf : ∀{x y:α} {r s:List Int},P x→P y→f x ++ r=f y ++ s→x=y∧r=s) : ∀{xs ys:List α} {r s:List Int},(∀x,x∈xs→P x)→(∀y,y∈ys→P y)→xs.length=ys.length→xs.flatMap f ++ r=ys.flatMap f ++ s→xs=ys∧r=s
 | [],[],r,s,_,_,_,h=>⟨rfl,h⟩
 | [],y :: ys,r,s,_,_,hl,_=>by simp at hl
 | x :: xs,[],r,s,_,_,hl,_=>by simp at hl
 | x :: xs,y :: ys,r,s,hx,hy,hl,h=>by
  rw[List.flatMap_cons,List.flatMap_cons,List.append_assoc,List.append_assoc] at h;obtain⟨h1,h2⟩:=hf (hx x List.mem_cons_self) (hy y List.mem_cons_self) h;obtain⟨h3,h4⟩:=tS P hf (fun z hz=>hx z (List.mem_cons_of_mem _ hz)) (fun z hz=>hy z (List.mem_cons_of_mem _ hz)) (by simpa using hl) h2;exact⟨by rw[h1,h3],h4⟩
def WtS (x:Wt):Prop:=x.o.length<2 ^ 64∧x.d.length<2 ^ 64
theorem XX {x y:Wt}{r s:List Int}(hx:WtS x)(hy:WtS y)(h:encW x ++ r=encW y ++ s):x=y∧r=s:=by
 simp only[encW,List.append_assoc] at h;obtain⟨h1,h2⟩:=mN hx.1 hy.1 h;obtain⟨h3,h4⟩:=mN hx.2 hy.2 h2;cases x; cases y;simp only at h1 h3;subst h1; subst h3;exact⟨rfl,h4⟩
def CmdS (c:Cmd):Prop:=CmdW c∧(encC c).length≤80000000
theorem CmdS.parts {c:Cmd}(h:CmdS c):c.ws.length<2 ^ 64∧c.tag.length<2 ^ 64∧∀x,x∈c.ws→WtS x:=by
 obtain⟨_,h⟩:=h;have hlen:(encC c).length=(encI c.client).length+(encI c.seq).length+(encI c.kind).length+(encU c.ws.length).length+(c.ws.flatMap encW).length+(encI c.rep).length+(encB c.tag).length:=by simp only[encC,encC0,List.length_append]
 have hlt:(encB c.tag).length=(encU c.tag.length).length+c.tag.length:=by simp[encB]
 have hwl:c.ws.length≤(c.ws.flatMap encW).length:=aT fun x=>by have:=aS x.o.length; simp[encW,encB]; omega
 refine⟨by omega,by omega,fun x hx=>?_⟩;obtain⟨i,hi⟩:=List.getElem?_of_mem hx;have hle:=aV (f:=encW) hi;have hlx:(encW x).length=(encB x.o).length+(encB x.d).length:=by simp[encW]
 have hlo:(encB x.o).length=(encU x.o.length).length+x.o.length:=by simp[encB]
 have hld:(encB x.d).length=(encU x.d.length).length+x.d.length:=by simp[encB]
 exact⟨by omega,by omega⟩
theorem XY {a b:Cmd}{r s:List Int}(ha:CmdS a)(hb:CmdS b)(h:encC a ++ r=encC b ++ s):a=b∧r=s:=by
 obtain⟨a1,a2,a3⟩:=ha.parts;obtain⟨b1,b2,b3⟩:=hb.parts;obtain⟨⟨i1,i2,i3,i4,_⟩,_⟩:=ha;obtain⟨⟨j1,j2,j3,j4,_⟩,_⟩:=hb;simp only[encC,encC0,List.append_assoc] at h;obtain⟨e1,h⟩:=jJ i1 j1 h;obtain⟨e2,h⟩:=jJ i2 j2 h;obtain⟨e3,h⟩:=jJ i3 j3 h;obtain⟨e4,h⟩:=mM a1 b1 h;obtain⟨e5,h⟩:=tS WtS (fun hx hy h=>XX hx hy h) a3 b3 e4 h;obtain⟨e6,h⟩:=jJ i4 j4 h;obtain⟨e7,hz⟩:=mN a2 b2 h;cases a; cases b;simp only at e1 e2 e3 e5 e6 e7;subst e1; subst e2; subst e3; subst e5; subst e6; subst e7;exact⟨rfl,hz⟩
theorem XZ {a b:Cmd}(ha:CmdS a)(hb:CmdS b):encC a=encC b↔a=b:=
 ⟨fun h=>(XY (r:=[]) (s:=[]) ha hb (by simpa using h)).1,fun h=>by rw[h]⟩
theorem fA {a b:Cmd}(ha:CmdS a)(hb:CmdS b):cmpC a b=0↔a=b:=by
 rw[XV ha.1 hb.1];refine⟨fun h=>(XZ ha hb).1 h.2.2,fun h=>by subst h; exact⟨rfl,rfl,rfl⟩⟩
open Go
set_option maxRecDepth 100000
theorem X0:hasB Tryz.prog 166=true:=by kernel_rfl
theorem X1:hasB Tryz.prog 174=true:=by kernel_rfl
theorem X2:hasB Tryz.prog 175=true:=by kernel_rfl
theorem X3:hasB Tryz.prog 176=true:=by kernel_rfl
theorem X4:hasB Tryz.prog 177=true:=by kernel_rfl
theorem X5:hasB Tryz.prog 178=true:=by kernel_rfl
theorem X6:hasB Tryz.prog 179=true:=by kernel_rfl
theorem X7:hasB Tryz.prog 180=true:=by kernel_rfl
theorem X8:hasB Tryz.prog 181=true:=by kernel_rfl
theorem X9:hasB Tryz.prog 187=true:=by kernel_rfl
theorem YA:hasB Tryz.prog 188=true:=by kernel_rfl
theorem YB:hasB Tryz.prog 189=true:=by kernel_rfl
theorem YC:hasB Tryz.prog 190=true:=by kernel_rfl
theorem YD:hasB Tryz.prog 191=true:=by kernel_rfl
theorem YE:hasB Tryz.prog 193=true:=by kernel_rfl
attribute [push_cast] X0 X1 X2 X3 X4 X5 X6 X7 X8 X9 YA YB YC YD YE
abbrev pl166:Plan:=(.two (.reg [10]) (.two (.reg [11]) (.blk (.lop [1,2,3,10,11] (.blk (.two (.reg [12]) (.two (.two (.reg [25]) (.two (.two (.reg []) .lf) .lf)) (.two (.two (.reg [32]) (.two (.two (.reg []) .lf) .lf)) (.two (.two (.reg [39]) (.two (.two (.reg []) (.reg [3])) .lf)) (.two (.reg [13,14]) (.two (.two (.reg [56]) (.two (.two (.reg []) (.two (.reg [13]) (.reg [14]))) .lf)) (.two (.two (.reg [75]) (.two (.two (.reg [80]) (.two .lf .lf)) .lf)) (.two (.two (.drw [97] [13] [] []) (.two (.two (.reg [15]) (.two (.reg [1]) .lf)) .lf)) (.two (.reg [16,17]) (.two (.reg [11]) (.two (.reg [18,19]) (.two (.reg [20]) (.two (.reg [125]) (.two (.two (.reg [10]) (.two (.reg []) (.reg [1]))) (.two (.reg [10]) (.two (.reg []) (.reg [2]))))))))))))))))))))))
theorem YF:okFn Tryz.f166 (Tryz.f166.body.getD .skip) pl166 5=true:=by kernel_rfl
abbrev rs166:List Nat:=[]
abbrev pl174:Plan:=(.two (.reg [8]) (.blk (.lop [8] (.two (.two (.reg [14]) (.two .lf .lf)) (.two (.blk (.two (.reg [9]) (.blk (.lop [9] (.two (.two (.drw [34] [14] [] []) (.two .lf .lf)) (.two (.blk (.drw [] [15,17] [(15,[4])] [])) (.reg [9]))))))) (.reg [8]))))))
theorem YG:okFn Tryz.f174 (Tryz.f174.body.getD .skip) pl174 4=true:=by kernel_rfl
abbrev rs174:List Nat:=[]
abbrev pl175:Plan:=(.two (.reg [8]) (.two (.reg [9]) (.two (.reg [10]) (.two (.two (.reg [11]) (.blk (.lop [11] (.two (.two (.reg [21]) (.two .lf .lf)) (.two (.blk (.reg [])) (.reg [11])))))) (.two (.reg [12]) (.blk (.lop [12] (.two (.two (.reg [33]) (.two .lf .lf)) (.two (.blk (.two (.drw [] [17,19] [(17,[5])] []) (.reg []))) (.reg [12]))))))))))
theorem YH:okFn Tryz.f175 (Tryz.f175.body.getD .skip) pl175 4=true:=by kernel_rfl
abbrev rs175:List Nat:=[]
abbrev pl176:Plan:=(.two (.reg [8]) (.two (.reg [17]) (.two (.two (.reg [9]) (.two (.reg [10]) (.two (.reg [11]) (.blk (.lop [11] (.two (.two (.reg [35]) (.two .lf .lf)) (.two (.blk (.two (.reg [12]) (.two (.two (.reg [45]) (.two (.reg [12]) .lf)) (.drw [] [17,19] [(17,[5])] [])))) (.reg [11])))))))) .lf)))
theorem YI:okFn Tryz.f176 (Tryz.f176.body.getD .skip) pl176 4=true:=by kernel_rfl
abbrev rs176:List Nat:=[]
abbrev pl177:Plan:=(.two (.reg []) (.two (.reg [10]) (.two (.reg [11]) (.two (.reg [12]) (.two (.reg [13]) (.two (.reg [14]) (.two (.two (.reg [34]) (.two (.two (.two (.reg [36]) (.two (.two (.reg [12]) (.two (.reg [13]) (.reg [14]))) .lf)) (.reg [13])) .lf)) (.two (.reg [55]) (.blk (.two (.reg [57]) (.two (.two (.reg [8,9]) .lf) (.two (.reg [60]) (.two (.two (.reg [8,9]) .lf) (.two (.reg [8,9]) .lf))))))))))))))
theorem YJ:okFn Tryz.f177 (Tryz.f177.body.getD .skip) pl177 4=true:=by kernel_rfl
abbrev rs177:List Nat:=[8,9]
abbrev pl178:Plan:=(.two (.reg [8]) (.two (.reg [9]) (.blk (.lop [8,9] (.two (.two (.reg [15]) (.two .lf .lf)) (.blk (.two (.drw [] [13,15] [] []) (.two (.reg [8]) (.reg [9])))))))))
theorem YK:okFn Tryz.f178 (Tryz.f178.body.getD .skip) pl178 4=true:=by kernel_rfl
abbrev rs178:List Nat:=[]
abbrev pl179:Plan:=(.two (.reg []) (.two (.reg [9]) (.two (.two (.reg [10]) (.blk (.lop [9,10] (.two (.two (.reg [16]) (.two .lf .lf)) (.two (.blk (.two (.blk (.lop [9] (.two (.two (.drw [36] [14] [] []) (.two .lf .lf)) (.blk (.reg [9]))))) (.two (.two (.reg [41]) (.two (.two (.reg [8]) .lf) .lf)) (.two (.two (.reg [45]) (.two (.two (.reg [8]) .lf) .lf)) (.two (.drw [] [15,17] [(15,[4])] []) (.two (.two (.reg [65]) (.two (.two (.reg [11]) (.blk (.lop [11] (.two (.two (.reg [69]) (.two .lf .lf)) (.two (.blk (.two (.two (.drw [84] [10] [] []) (.two .lf .lf)) (.drw [] [15,17] [(15,[4])] []))) (.reg [11])))))) .lf)) (.two (.reg [104]) (.two (.two (.reg [12]) (.blk (.lop [12] (.two (.two (.reg [109]) (.two .lf .lf)) (.two (.blk (.two (.two (.drw [124] [10] [] []) (.two .lf .lf)) (.drw [] [15,17] [(15,[4])] []))) (.reg [12])))))) .lf)))))))) (.reg [10])))))) (.two (.reg [8]) .lf))))
theorem YL:okFn Tryz.f179 (Tryz.f179.body.getD .skip) pl179 4=true:=by kernel_rfl
abbrev rs179:List Nat:=[8]
abbrev pl180:Plan:=(.two (.reg []) (.two (.drw [] [13,15] [] []) (.two (.reg [11,12]) (.two (.blk (.lop [11,12] (.blk (.two (.blk (.lop [11] (.two (.two (.drw [47] [13] [] []) (.two .lf .lf)) (.blk (.reg [11]))))) (.two (.blk (.lop [12] (.two (.two (.drw [65] [13] [] []) (.two .lf .lf)) (.blk (.reg [12]))))) (.two (.two (.reg [70]) (.two .lf .lf)) (.two (.drw [] [13,15] [] []) (.two (.reg [11]) (.reg [12]))))))))) (.two (.reg [10]) .lf)))))
theorem YM:okFn Tryz.f180 (Tryz.f180.body.getD .skip) pl180 5=true:=by kernel_rfl
abbrev rs180:List Nat:=[10]
abbrev pl181:Plan:=(.two (.reg []) (.two (.drw [] [13,15] [] []) (.two (.reg [12,13]) (.two (.blk (.lop [12] (.two (.two (.drw [47] [13] [] []) (.two .lf .lf)) (.blk (.reg [12]))))) (.two (.blk (.lop [13] (.two (.two (.drw [66] [13] [] []) (.two .lf .lf)) (.blk (.reg [13]))))) (.two (.two (.reg [71]) (.two (.two (.drw [] [13,15] [] []) (.two (.reg [10,11]) .lf)) .lf)) (.two (.drw [] [13,15] [] []) (.two (.reg [12]) (.two (.reg [13]) (.two (.blk (.lop [12,13] (.blk (.two (.blk (.lop [12] (.two (.two (.drw [120] [13] [] []) (.two .lf .lf)) (.blk (.reg [12]))))) (.two (.blk (.lop [13] (.two (.two (.drw [139] [13] [] []) (.two .lf .lf)) (.blk (.reg [13]))))) (.two (.two (.reg [144]) (.two .lf .lf)) (.two (.drw [] [13,15] [] []) (.two (.reg [12]) (.reg [13]))))))))) (.two (.drw [] [13,15] [] []) (.two (.reg [10,11]) .lf))))))))))))
theorem YN:okFn Tryz.f181 (Tryz.f181.body.getD .skip) pl181 5=true:=by kernel_rfl
abbrev rs181:List Nat:=[10,11]
abbrev pl187:Plan:=(.two (.reg [10]) (.blk (.lop [10] (.blk (.two (.reg [11]) (.two (.two (.reg [18]) (.two .lf .lf)) (.two (.two (.drw [40] [19] [] []) (.two (.reg [11]) .lf)) (.two (.two (.drw [58] [13] [] []) (.two .lf .lf)) (.two (.drw [] [21,23] [(21,[7])] []) (.reg [10]))))))))))
theorem YO:okFn Tryz.f187 (Tryz.f187.body.getD .skip) pl187 5=true:=by kernel_rfl
abbrev rs187:List Nat:=[]
abbrev pl188:Plan:=(.two (.reg []) (.two (.reg [2]) .lf))
theorem YP:okFn Tryz.f188 (Tryz.f188.body.getD .skip) pl188 1=true:=by kernel_rfl
abbrev rs188:List Nat:=[2]
abbrev pl189:Plan:=(.two (.reg []) (.two (.drw [] [9] [] []) (.two (.drw [] [9] [] []) (.two (.drw [] [9] [] []) (.two (.reg [2]) .lf)))))
theorem YQ:okFn Tryz.f189 (Tryz.f189.body.getD .skip) pl189 1=true:=by kernel_rfl
abbrev rs189:List Nat:=[2]
abbrev pl190:Plan:=(.two (.reg []) (.two (.reg [8]) .lf))
theorem YR:okFn Tryz.f190 (Tryz.f190.body.getD .skip) pl190 4=true:=by kernel_rfl
abbrev rs190:List Nat:=[8]
abbrev pl191:Plan:=(.two (.reg []) (.two (.reg [1,2]) (.two (.reg [2]) (.two (.reg [2]) (.two (.reg [12]) .lf)))))
theorem YS:okFn Tryz.f191 (Tryz.f191.body.getD .skip) pl191 6=true:=by kernel_rfl
abbrev rs191:List Nat:=[12]
abbrev pl193:Plan:=(.two (.reg []) (.two (.two (.drw [22] [9] [] []) (.two (.two (.reg []) (.two (.reg [10,11]) .lf)) .lf)) (.two (.reg [10,11]) .lf)))
theorem YT:okFn Tryz.f193 (Tryz.f193.body.getD .skip) pl193 5=true:=by kernel_rfl
abbrev rs193:List Nat:=[10,11]
open Go
set_option maxRecDepth 100000
theorem RowD.at_ {α:Type}{e:Elt α}(he:EltOk e){w:World}{F:Nat→Prop}{g n cap:Nat}{xs:List α}(h:RowD e w F (.slice (some ⟨g,0,none⟩) n cap) xs){j:Nat}{x:α}(hj:xs[j]? =some x) :
 ∃cs,e.C w (fun b=>F b∨b=g) x cs∧(∀r,r<e.s→w.cell? ⟨g,j*e.s+r,none⟩=cs[r]?)∧n=xs.length∧g<w.heap.size:=by
 obtain⟨css,h1,h2,h3,h4⟩:=h;have hjl:j<css.length:=by rw[h1]; exact(List.getElem?_eq_some_iff.1 hj).1
 have hcj:=List.getElem?_eq_getElem hjl;have hC:=h3 j _ x hcj hj;have hlen:=dI he h1 h3;rcases h2.2 with ⟨e0,_⟩ | ⟨g',cap',cur,e0,hb,hg,hnc,hc,hsz,htake⟩
 ·cases e0
 injection e0 with e1 e2 e3;injection e1 with e1;injection e1 with e1 _ _;subst e1;subst e3;have hB:Blk w g cur.toList e.E:=by show _=_; rw[hg]
 refine⟨css[j],he.go (G:=fun _=>False) hC Upd.refl fun b _ h=>?_,fun r hr=>?_,e2,hB.lt⟩
 ·rcases h with h | h | h
  ·exact h.elim
  ·exact .inl h
  ·exact .inr (by subst h; rfl)
 ·have hfl:=cP hlen;have hfa:=dY hlen hcj r hr;rw[hB.cell,←hfa,←htake,List.getElem?_take_of_lt];have:(j+1)*e.s≤xs.length*e.s:=Nat.mul_le_mul_right _ (by omega);rw[Nat.succ_mul] at this;omega
def SR (F:Nat→Prop)(g n cap:Nat)(w:World):Prop:=∃xs:List Cmd,xs.length=n∧(∀x,x∈xs→(encC x).length≤80000000)∧RowD eC w F (.slice (some ⟨g,0,none⟩) n cap) xs
section
variable {F : Nat → Prop} {g n cap : Nat} {w : World}
theorem SR.go {F' G:Nat→Prop}{w':World}(h:SR F g n cap w)(hu:Upd G w w')(hG : ∀b,b<w.heap.size→G b∨F' b→F b):SR F' g n cap w':=by
 obtain⟨xs,h1,h2,h3⟩:=h;exact⟨xs,h1,h2,h3.go aA hu hG⟩
theorem SR.q {w':World}(h:SR F g n cap w)(hu:Upd NoB w w'):SR F g n cap w':=h.go hu fun b _ h=>h.elim (fun h=>h.elim) id
theorem SR.drew (h:SR F g n cap w):SR F g n cap w.drew:=h.q Upd.drew
theorem SR.ld (h:SR F g n cap w){i:Nat}(hi:i<n) : ∃(x:Cmd) (cs:List Value),(encC x).length≤80000000∧eC.C w (fun b=>F b∨b=g) x cs∧
 ∀{w':World},Upd NoB w w'→ldS Tryz.prog 76 (.pointer (some ⟨g,i*6,none⟩)) w'=some (.agg cs.toArray,w'):=by
 obtain⟨xs,h1,h2,h3⟩:=h;have hx:=List.getElem?_eq_getElem (l:=xs) (i:=i) (by omega);obtain⟨cs,k1,k2,_,k4⟩:=h3.at_ aA hx;exact⟨_,cs,h2 _ (List.mem_of_getElem? hx),k1,fun hu=>ldC (aA.q k1 hu) (SlD.old (e:=eC) k4 hu (fun h=>h) k2)⟩
theorem SR.st (h:SR F g n cap w){i:Nat}(hi:i<n){x:Cmd}{cs:List Value}(hl:(encC x).length≤80000000)(hx:eC.C w (fun b=>F b∨b=g) x cs) :
 ∃w',stS Tryz.prog 76 (.pointer (some ⟨g,i*6,none⟩)) (.agg cs.toArray) w=some (undef,w')∧SR F g n cap w'∧Upd (fun b=>b=g) w w':=by
 obtain⟨xs,h1,h2,h3⟩:=h;obtain⟨w',k1,k2,k3,_⟩:=eY aA (P:=Tryz.prog) (by kernel_rfl) h3 (i:=i) (by omega) h1.symm hx;refine⟨w',k1,⟨_,by simp[h1],fun y hy=>?_,k2⟩,k3⟩;rcases List.mem_or_eq_of_mem_set hy with hy | rfl
 ·exact h2 y hy
 ·exact hl
theorem SR.swap (h:SR F g n cap w){i j:Nat}(hi:i<n)(hj:j<n) : ∃(cs ds:List Value) (w1 w2:World),
 ldS Tryz.prog 76 (.pointer (some ⟨g,i*6,none⟩)) w.drew=some (.agg cs.toArray,w.drew)∧
 ldS Tryz.prog 76 (.pointer (some ⟨g,j*6,none⟩)) w.drew=some (.agg ds.toArray,w.drew)∧
 stS Tryz.prog 76 (.pointer (some ⟨g,i*6,none⟩)) (.agg ds.toArray) w.drew=some (undef,w1)∧
 stS Tryz.prog 76 (.pointer (some ⟨g,j*6,none⟩)) (.agg cs.toArray) w1=some (undef,w2)∧SR F g n cap w2∧Upd (fun b=>b=g) w w2:=by
 obtain⟨x,cs,hx,hcx,lx⟩:=h.ld hi;obtain⟨y,ds,hy,hcy,ly⟩:=h.ld hj;have keep : ∀{c:Cmd} {zs:List Value} {w1 w2:World} {G:Nat→Prop},eC.C w1 (fun b=>F b∨b=g) c zs→Upd G w1 w2→(∀b,G b→b=g)→eC.C w2 (fun b=>F b∨b=g) c zs:=fun hc hu hG=>aA.go hc hu fun b _ h=>h.elim (fun h=>.inr (hG b h)) id;obtain⟨w1,s1,r1,u1⟩:=h.drew.st hi hy (keep hcy (Upd.drew (F:=NoB)) fun _ h=>h.elim);have hcx1:=keep (keep hcx (Upd.drew (F:=NoB)) fun _ h=>h.elim) u1 fun _ h=>h;obtain⟨w2,s2,r2,u2⟩:=r1.st hj hx hcx1;exact⟨cs,ds,w1,w2,lx Upd.drew,ly Upd.drew,s1,s2,r2,((Upd.drew (F:=fun b=>b=g)).trans u1 fun _ _ h=>h).trans u2 fun _ _ h=>h⟩
end
theorem aZ {g:Nat}{w w':World}(h:Upd NoB w w'):Upd (fun b=>b=g) w w':=h.mono fun _ _ h=>h.elim
set_option maxHeartbeats 4000000 in
theorem YU {F:Nat→Prop}{g n cap:Nat}{w:World}(hn:n≤1000000000){a b:Nat}(hab:a≤b)(hb:b≤n)(h:SR F g n cap w) :
 Ok (den Tryz.prog 174 #[.slice (some ⟨g,0,none⟩) n cap,.int .i64 (a:Int),.int .i64 (b:Int),.func (.func 118) #[] #[]] w) fun u w'=>u = .tuple #[]∧SR F g n cap w'∧Upd (fun b=>b=g) w w':=by
 refine aB (args:=[.slice (some ⟨g,0,none⟩) n cap,.int .i64 (a:Int),.int .i64 (b:Int),.func (.func 118) #[] #[]]) rs174 Tryz.func174 rfl mixed (by kernel_rfl) YG rfl ?_;simp(disch:=omega)only[push_cast,seval];refine aG (I:=fun k st w'=>Bx (∃i:Nat,a+1≤i∧k=b-i∧st = [.int .i64 (i:Int)]∧SR F g n cap w'∧Upd (fun b=>b=g) w w') ⟨⟩) ?_ (b-(a+1)) ⟨a+1,by omega,rfl,by simp,h,Upd.refl⟩;rintro k st w1 ⟨i,hi,rfl,rfl,h1,u1⟩;by_cases hib:b≤i
 ·simp(disch:=omega)only[push_cast,seval];exact⟨h1,u1⟩
 simp(disch:=omega)only[push_cast,seval];refine aG (I:=fun k st w'=>Bx (∃j:Nat,a≤j∧j≤i∧k=j∧st = [.int .i64 (j:Int)]∧SR F g n cap w'∧Upd (fun b=>b=g) w w') ⟨⟩) ?_ i ⟨i,by omega,by omega,rfl,rfl,h1,u1⟩;rintro k st w2 ⟨j,hj,hji,rfl,rfl,h2,u2⟩;have ut : ∀{w3:World},Upd NoB w2 w3→Upd (fun b=>b=g) w w3:=fun u=>u2.trans (aZ u) fun _ _ h=>h;by_cases hja:k≤a
 ·simp(disch:=omega)only[push_cast,seval];exact⟨b-(i+1),by omega,i+1,by omega,rfl,by simp,h2.drew,ut Upd.drew⟩
 obtain⟨l,rfl⟩ : ∃l,k=l+1:=⟨k-1,by omega⟩;obtain⟨x,cs,hx,hcx,lx⟩:=h2.ld (i:=l+1) (by omega);obtain⟨y,ds,hy,hcy,ly⟩:=h2.ld (i:=l) (by omega);have e1:((l:Int)+1).toNat=l+1:=by omega
 have e2:((l:Int)+1-1).toNat=l:=by omega
 simp(maxSteps:=3000000)(disch:=omega)only[push_cast,seval,e1,e2,lx Upd.drew,ly Upd.drew];refine Ok.use (aY (aA.q hcx Upd.drew) (aA.q hcy Upd.drew) hx hy) ?_;rintro u w3 ⟨rfl,u3⟩;have v3:Upd NoB w2 w3:=Upd.drew.trans u3 fun _ _ h=>h;by_cases hlt:cmpC x y<0
 ·obtain⟨cs',ds',w4,w5,s1,s2,s3,s4,h5,u5⟩:=(h2.q v3).swap (i:=l+1) (j:=l) (by omega) (by omega);simp(maxSteps:=3000000)(disch:=omega)only[push_cast,seval,e1,e2,lx Upd.drew,ly Upd.drew,lx v3,ly v3,hlt,s1,s2,s3,s4];exact⟨l,by omega,l,by omega,by omega,rfl,by simp,h5,(ut v3).trans u5 fun _ _ h=>h⟩
 ·simp(maxSteps:=3000000)(disch:=omega)only[push_cast,seval,e1,e2,lx Upd.drew,ly Upd.drew,lx v3,ly v3,hlt];exact⟨b-(i+1),by omega,i+1,by omega,rfl,by simp,h2.q v3,ut v3⟩
end Go.Proofs.YtpgigkceoolgeaaGreatDoor.Fd
