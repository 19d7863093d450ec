import Derived.Test.YtpgigkceoolgeaaGreatDoorS006
import Derived.Laws.Entries
import Derived.Laws.BytesString
import Derived.Laws.BytesArg
import Derived.Laws.Slices
import Derived.ArgAppend
import Derived.Deep.AppendSrc
import Derived.Deep.Upon
set_option linter.all false
namespace Go.Proofs.YtpgigkceoolgeaaGreatDoor.Fd
open Go
set_option maxRecDepth 100000
section
variable {P : Program} {D : Den} {w : World} {ty : TypeId} {e : Operand → Value}
def cnvS (P:Program)(src dst:TypeId)(v:Value)(w:World):Option (Value×World):=lift ((convert src dst v).run P w)
theorem TI {src dst:TypeId}{x:Operand}:opX P D (.convert src dst x) ty e w=cnvS P src dst (e x) w:=by
 simp only[opX,opS,execOp,cnvS,lift];rw[Sem.run_bind];cases Sem.run P (convert src dst (e x)) w <;> rfl
attribute [push_cast] TI
theorem bK {src dst:TypeId}{k:IntKind}{n:Int}(hs:(P.underlying src).isSome=true)(hd:P.underlying dst=some (.int (P.intKind dst))):cnvS P src dst (.int k n) w=some (.int (P.intKind dst) ((P.intKind dst).wrap n),w):=by
 unfold cnvS;rw[run_convert_int w src dst k n hs hd];rfl
end
open Go
set_option maxRecDepth 100000
section
variable {P : Program} {D : Den} {w : World} {ty : TypeId} {e : Operand → Value}
theorem pV : ∀(l:List Int) (r:ByteArray),l.foldl (fun r n=>r.push (UInt8.ofNat n.toNat)) r=⟨r.data ++ (l.map fun n=>UInt8.ofNat n.toNat).toArray⟩
 | [],r=>by simp
 | b :: l,r=>by
  simp only[List.foldl_cons];rw[pV l];simp[ByteArray.push]
theorem TJ {src dst el:TypeId}(hs:P.underlying src=some (.slice el))(he:P.underlying el=some (.int .u8))(hd:P.underlying dst=some .string){F:Nat→Prop}{v:Value}{l:List Int}(h:SlB w F v l) :
 cnvS P src dst v w=some (.string (strOfNums l),w):=by
 obtain⟨a,c,rfl,hl⟩:=h;unfold cnvS;rw[run_convert_bytes_string w src dst el a l.length c hs he hd];by_cases h0:l = []
 ·subst h0;cases a <;> simp[Conv.bytesToString,lift,strOfNums,Sem.run_pure] <;> rfl
 ·obtain⟨b,o,rfl,hli,_⟩:=hl h0;have hlc:=run_loadCells_list (P:=P) w ⟨b,o,none⟩ (by8 l) (fun j u hj=>by
   have hj':j<(by8 l).length:=(List.getElem?_eq_some_iff.1 hj).1;rw[←hj,←hli j hj'];unfold Addr.add;by_cases h0:j=0
   ·subst h0; rfl
   ·simp[h0])
  rw[aQ] at hlc;rw[run_bytesToString w ⟨b,o,none⟩ l.length c l hlc,pV];have he0:ByteArray.empty.data = #[]:=_root_.id rfl;rw[he0];simp[lift,strOfNums]
end
def Buf (w:World)(g n:Nat):Prop:=∃cs,Blk w g cs 5∧∀j,j<n→∃x,cs[j]? =some (.int .u8 x)
theorem Buf.of_own {w:World}{B:Nat}{v:Value}{l:List Int}(h:w.ownsRow B 5 1 v l.length (by8 l))(h0:0<l.length) :
 ∃g c,v = .slice (some ⟨g,0,none⟩) l.length c∧v.ownBlock=some g∧Buf w g l.length∧Lies w g 0 l:=by
 rcases h.2 with ⟨rfl,h1⟩ | ⟨g,cap,cur,hv,_,hg,_,_,hsz,htk⟩
 ·omega
 ·have hB:Blk w g cur.toList 5:=by show _=_; rw[hg]
  rw[Nat.mul_one] at htk;have hget : ∀j,j<l.length→cur.toList[j]? =(by8 l)[j]? :=fun j hj=>by rw[←htk,List.getElem?_take_of_lt hj]
  refine⟨g,cap,hv,by rw[hv]; rfl,⟨_,hB,fun j hj=>⟨l[j],by rw[hget j hj]; simp[by8,hj]⟩⟩,fun j hj=>?_⟩;rw[Nat.zero_add,hB.cell];rw[aQ] at hj;exact hget j hj
theorem TK (w:World):bslS Tryz.prog 55 0 #[] w=some (.slice (some ⟨w.heap.size,0,none⟩) 0 0,w.alloc (.cells #[] 5 (0,0))):=by kernel_rfl
attribute [push_cast] TK
open Go
set_option maxRecDepth 100000
theorem TL {w:World}{b o b' o':Nat}{v:Value}(h:b'≠b):(w.setCell ⟨b,o,none⟩ v).cell? ⟨b',o',none⟩=w.cell? ⟨b',o',none⟩:=by
 rw[pE,if_neg (fun e=>h e.1)]
attribute [push_cast 2000] TL
section
variable {P : Program}
theorem TM {t:TypeId}{a:Addr}{w:World}:ldS P t (.pointer (some a)) w=lift ((loadVar t a).run P w):=by
 simp[ldS,lift,Instr.loadAt,Instr.sureAddr]
def ptrK (v:Value)(A:Prop):Prop:=
 match v with
 | .pointer (some _)=>A
 | _=>False
theorem TN {a:Addr}{A:Prop}:ptrK (.pointer (some a)) A=A:=_root_.id rfl
theorem TO {v v':Value}{A:Prop}(h:v=v'):ptrK v A=ptrK v' A:=by rw [h]
theorem pW {v:Value}{A:Prop}(h:ptrK v A):(∃x,v = .pointer (some x))∧A:=by
 unfold ptrK at h;split at h
 ·exact⟨⟨_,rfl⟩,h⟩
 ·exact h.elim
def KC (K:Value→World→Prop)(w:World)(x:Value×World):Prop:=x.2=w∧K x.1 w
theorem TP {K:Value→World→Prop}{w w':World}{v:Value}:KC K w (v,w')=(w'=w∧K v w):=_root_.id rfl
def retC1 (P:Program)(a:Nat)(t:TypeId)(K:Value→World→Prop):Out→Prop
 | (.normal,ρ,w)=>ptrK (ρ a) (Okk (ldS P t (ρ a) w) (KC K w))
 | (.ret,ρ,w)=>ptrK (ρ a) (Okk (ldS P t (ρ a) w) (KC K w))
 | _=>False
theorem TQ {a:Nat}{t:TypeId}{K:Value→World→Prop}{ρ:Env}{w:World}:retC1 P a t K (.ret,ρ,w)=ptrK (ρ a) (Okk (ldS P t (ρ a) w) (KC K w)):=_root_.id rfl
def pairK (K:Value→World→Prop)(u v:Value)(w:World):Prop:=K (.tuple #[v,u]) w
theorem TR {K:Value→World→Prop}{u v:Value}{w:World}:pairK K u v w=K (.tuple #[v,u]) w:=_root_.id rfl
def retC2 (P:Program)(a:Nat)(t:TypeId)(u:Nat)(K:Value→World→Prop):Out→Prop
 | (.normal,ρ,w)=>ptrK (ρ a) (Okk (ldS P t (ρ a) w) (KC (pairK K (ρ u)) w))
 | (.ret,ρ,w)=>ptrK (ρ a) (Okk (ldS P t (ρ a) w) (KC (pairK K (ρ u)) w))
 | _=>False
theorem TS {a u:Nat}{t:TypeId}{K:Value→World→Prop}{ρ:Env}{w:World}:retC2 P a t u K (.ret,ρ,w)=ptrK (ρ a) (Okk (ldS P t (ρ a) w) (KC (pairK K (ρ u)) w)):=_root_.id rfl
theorem pX {ρ:Env}{a:Nat}{t:TypeId}{w:World}{v:Value}(h:ldS P t (ρ a) w=some (v,w))(hp : ∃x,ρ a = .pointer (some x)):(resS ρ (.cell a t)).run P w = .ok v w:=by
 obtain⟨x,hx⟩:=hp;rw[hx,TM] at h;unfold lift at h;have e:(resS ρ (.cell a t)).run P w=(loadVar t x).run P w:=by
  simp[resS,hx,asAddr]
 rw[e];split at h
 ·rename_i h2;rw[h2];simp only[Option.some.injEq,Prod.mk.injEq] at h;rw[h.1,h.2]
 ·cases h
theorem bZ {f:FuncId}{fn:Func}{c:Code}{p:Plan}{args:List Value}{w:World}(a:Nat)(t:TypeId){K:Value→World→Prop}
 (hf:P.funcs[f]? =some fn) (hb:fn.body=some c) (hm:P.follows .mixedOrders=true) (hi:P.inits.idxOf? f=none)
 (hok:okFn fn c p args.length=true) (hr:fn.results = #[.cell a t])
 (h:W P (den P) c p (env0 args) w (retC1 P a t K)):Ok (den P f args.toArray w) K:=by
 obtain⟨⟨e,ρ,w1⟩,h1,h2⟩:=h;have fin:(e = .normal∨e = .ret)→ptrK (ρ a) (Okk (ldS P t (ρ a) w1) (KC K w1))→Ok (den P f args.toArray w) K:=by
  intro he h3;obtain⟨h4,⟨v,w2⟩,h5,h6,h7⟩:=pW h3;dsimp only at h6 h7;subst h6;refine⟨(v,w2),kQ hf hb hm hi hok ?_,h7⟩;unfold runFn;rw[h1];have hres:(resE fn ρ).run P w2 = .ok v w2:=by
   unfold resE;rw[hr,Array.mapM_eq_mapM_toList];simp only[List.mapM_cons,List.mapM_nil];simp[pX h5 h4]
  rcases he with rfl | rfl <;> simp[resK,hres,grd]
 cases e with
 | normal=>exact fin (.inl rfl) h2
 | ret=>exact fin (.inr rfl) h2
 | _=>exact h2.elim
theorem iP {f:FuncId}{fn:Func}{c:Code}{p:Plan}{args:List Value}{w:World}(a:Nat)(t:TypeId)(u:Nat){K:Value→World→Prop}
 (hf:P.funcs[f]? =some fn) (hb:fn.body=some c) (hm:P.follows .mixedOrders=true) (hi:P.inits.idxOf? f=none)
 (hok:okFn fn c p args.length=true) (hr:fn.results = #[.cell a t,.tmp u])
 (h:W P (den P) c p (env0 args) w (retC2 P a t u K)):Ok (den P f args.toArray w) K:=by
 obtain⟨⟨e,ρ,w1⟩,h1,h2⟩:=h;have fin:(e = .normal∨e = .ret)→ptrK (ρ a) (Okk (ldS P t (ρ a) w1) (KC (pairK K (ρ u)) w1))→Ok (den P f args.toArray w) K:=by
  intro he h3;obtain⟨h4,⟨v,w2⟩,h5,h6,h7⟩:=pW h3;dsimp only at h6 h7;subst h6;refine⟨(.tuple #[v,ρ u],w2),kQ hf hb hm hi hok ?_,h7⟩;unfold runFn;rw[h1];have hres:(resE fn ρ).run P w2 = .ok (.tuple #[v,ρ u]) w2:=by
   unfold resE;rw[hr,Array.mapM_eq_mapM_toList];simp only[List.mapM_cons,List.mapM_nil];have hu:resS ρ (.tmp u)=pure (ρ u):=_root_.id rfl;simp[pX h5 h4,hu]
  rcases he with rfl | rfl <;> simp[resK,hres,grd]
 cases e with
 | normal=>exact fin (.inl rfl) h2
 | ret=>exact fin (.inr rfl) h2
 | _=>exact h2.elim
end
theorem aJ {P:Program}{w:World}{b:Nat}{cs:List Value}{E t:TypeId}(h:Blk w b cs E)(hk:knd P t=some true)(hs:siz P t=some cs.length):ldS P t (.pointer (some ⟨b,0,none⟩)) w=some (.agg cs.toArray,w):=by
 refine kR hk hs fun j hj=>?_;rw[←h.cell j];unfold Addr.add;by_cases h0:j=0
 ·subst h0; rfl
 ·simp[h0]
theorem pY {w:World}{b:Nat}{cs:List Value}{E:TypeId}(h:Blk w b cs E):w.setRow b cs.toArray=w:=by
 unfold Blk at h;obtain⟨hp,tp,dr,os,out⟩:=w;unfold World.setRow;congr 1;apply Array.ext_getElem?;intro i;simp only[Array.getElem?_modify];by_cases hi:b=i
 ·subst hi; rw[show hp[b]? =_ from h]; simp
 ·simp[hi]
theorem pZ {w:World}{b o:Nat}{v:Value}{cs:Array Value}:(w.setCell ⟨b,o,none⟩ v).setRow b cs=w.setRow b cs:=by
 unfold World.setRow World.setCell;congr 1;apply Array.ext_getElem?;intro i;simp only[Array.getElem?_modify];by_cases hi:b=i
 ·subst hi;cases w.heap[b]? with
  | none=>simp
  | some ob=>cases ob <;> simp
 ·simp[hi]
theorem TT {b:Nat}{E:TypeId} : ∀{l:List Value} {w:World} {cs:List Value} {o:Nat},Blk w b cs E→o+l.length=cs.length→(∀u∈l,u.oneCell'=true)→putAt w b o l=some (w.setRow b (cs.take o ++ l).toArray):=by
 intro l;induction l with
 | nil=>
  intro w cs o h hl _;have:cs.take o=cs:=List.take_of_length_le (by simp at hl; omega);rw[List.append_nil,this,pY h];rfl
 | cons v r ih=>
  intro w cs o h hl h1;simp only[List.length_cons] at hl;have hc:w.cell? ⟨b,o,none⟩=some cs[o]:=by rw[h.cell,List.getElem?_eq_getElem]
  rw[kY,hc,h.free,h1 v (by simp),kX,bX,bU,ih (h.set o v) (by simp; omega) (fun u hu=>h1 u (by simp[hu])),pZ];congr 3;rw[List.take_set,List.take_succ_eq_append_getElem (by omega),List.set_append_right _ _ (by rw[List.length_take]; omega)];simp[show o≤cs.length by omega]
theorem aP {P:Program}{w:World}{b:Nat}{cs cs':List Value}{E t:TypeId}(h:Blk w b cs E)(hs:siz P t=some cs'.length)(hl:cs'.length=cs.length)(h1 : ∀u∈cs',u.oneCell'=true) :
 stS P t (.pointer (some ⟨b,0,none⟩)) (.agg cs'.toArray) w=some (undef,w.setRow b cs'.toArray):=by
 refine fX (by simpa[Value.cells] using hs) ?_;have:=TT (l:=cs') (o:=0) h (by omega) h1;simpa[Value.cells] using this
attribute [congr] TO
attribute [push_cast] TQ TS TN TP TR
open Go
set_option maxRecDepth 100000
section
variable {P : Program} {D : Den} {w : World} {ty : TypeId} {e : Operand → Value} {t : TypeId}
def slcS (P:Program)(t:TypeId)(x:Value)(lo hi:Option Value)(w:World):Option (Value×World):=lift ((Instr.sliceAt t x lo hi none).run P w)
theorem TU {x h:Operand}:opX P D (.slice t x none (some h) none) ty e w=slcS P t (e x) none (some (e h)) w:=by
 simp only[opX,opS,execOp,slcS,lift];simp;generalize Instr.sliceAt t (e x) none (some (e h)) none=s;cases s.run P w <;> simp
theorem TV {x l:Operand}:opX P D (.slice t x (some l) none none) ty e w=slcS P t (e x) (some (e l)) none w:=by
 simp only[opX,opS,execOp,slcS,lift];simp;generalize Instr.sliceAt t (e x) (some (e l)) none none=s;cases s.run P w <;> simp
theorem gB {el:TypeId}(ht:elt P t=some el):P.underlying t=some (.slice el):=by
 unfold elt at ht;split at ht
 ·rename_i e h; cases ht; exact h
 ·cases ht
theorem dE {el:TypeId}{s:Nat}(hs:siz P el=some s):(sizeOf el).run P w = .ok s w:=by
 unfold siz at hs;cases hi:P.info? el with
 | none=>rw[hi] at hs; cases hs
 | some i=>
  rw[hi] at hs;simp only[Option.map_some,Option.some.injEq] at hs;subst hs;simp[sizeOf,typeInfo,hi]
def slcFar (P:Program)(t:TypeId)(x:Value)(lo hi:Option Value)(w:World):Option (Value×World):=slcS P t x lo hi w
theorem dF {b o n c:Nat}{k:IntKind}{h:Int}(h0:0≤h)(h1:h≤c):slcS P t (.slice (some ⟨b,o,none⟩) n c) none (some (.int k h)) w =
 orK (elt P t) (fun el=>orK (siz P el) (fun _=>some (.slice (some ⟨b,o,none⟩) h.toNat c,w)) (slcFar P t (.slice (some ⟨b,o,none⟩) n c) none (some (.int k h)) w)) (slcFar P t (.slice (some ⟨b,o,none⟩) n c) none (some (.int k h)) w):=by
 cases ht:elt P t with
 | none=>rfl
 | some el=>
  simp only[orK];cases hs:siz P el with
  | none=>rfl
  | some s=>
   dsimp only;have hu:=gB ht;have he:P.elem t=el:=by simp[Program.elem,hu]
   have hu':P.underlying t=some (.slice (P.elem t)):=by rw[he]; exact hu
   unfold slcS lift;rw[run_sliceAt_slice w t _ _ _ _ hu',run_slice_h w t _ _ _ hu' _ _ h0 h1,he,dE hs];have ha:(⟨b,o,none⟩:Addr).add 0=⟨b,o,none⟩:=rfl;simp[sliced,ha]
theorem qC {b o n c:Nat}{k:IntKind}{l:Int}(h0:0≤l)(h1:l≤n):slcS P t (.slice (some ⟨b,o,none⟩) n c) (some (.int k l)) none w =
 orK (elt P t) (fun el=>orK (siz P el) (fun s=>some (.slice (some ⟨b,if c=l.toNat then o else o+l.toNat*s,none⟩) (n-l.toNat) (c-l.toNat),w)) (slcFar P t (.slice (some ⟨b,o,none⟩) n c) (some (.int k l)) none w)) (slcFar P t (.slice (some ⟨b,o,none⟩) n c) (some (.int k l)) none w):=by
 cases ht:elt P t with
 | none=>rfl
 | some el=>
  simp only[orK];cases hs:siz P el with
  | none=>rfl
  | some s=>
   dsimp only;have hu:=gB ht;have he:P.elem t=el:=by simp[Program.elem,hu]
   have hu':P.underlying t=some (.slice (P.elem t)):=by rw[he]; exact hu
   unfold slcS lift;rw[run_sliceAt_slice w t _ _ _ _ hu',run_slice_l w t _ _ _ hu' _ _ h0 h1,he,dE hs];have ha:(⟨b,o,none⟩:Addr).add (l.toNat*s)=⟨b,o+l.toNat*s,none⟩:=by
    unfold Addr.add;by_cases h0:l.toNat*s=0
    ·simp[h0]
    ·simp[h0]
   by_cases hc:c=l.toNat
   ·simp[sliced,hc]
   ·simp[sliced,ha,hc]
end
attribute [push_cast] TU TV dF qC
open Go
set_option maxRecDepth 100000
open Go
set_option maxRecDepth 100000
section
variable {P : Program} {D : Den} {w : World} {ty : TypeId} {e : Operand → Value} {t : TypeId}
theorem TW {x l h:Operand}:opX P D (.slice t x (some l) (some h) none) ty e w=slcS P t (e x) (some (e l)) (some (e h)) w:=by
 simp only[opX,opS,execOp,slcS,lift];simp;generalize Instr.sliceAt t (e x) (some (e l)) (some (e h)) none=s;cases s.run P w <;> simp
theorem TX {b o n c:Nat}{k k':IntKind}{l h:Int}(h0:0≤l)(h1:l≤h)(h2:h≤c):slcS P t (.slice (some ⟨b,o,none⟩) n c) (some (.int k l)) (some (.int k' h)) w =
 orK (elt P t) (fun el=>orK (siz P el) (fun s=>some (.slice (some ⟨b,if c=l.toNat then o else o+l.toNat*s,none⟩) (h.toNat-l.toNat) (c-l.toNat),w)) (slcFar P t (.slice (some ⟨b,o,none⟩) n c) (some (.int k l)) (some (.int k' h)) w)) (slcFar P t (.slice (some ⟨b,o,none⟩) n c) (some (.int k l)) (some (.int k' h)) w):=by
 cases ht:elt P t with
 | none=>rfl
 | some el=>
  simp only[orK];cases hs:siz P el with
  | none=>rfl
  | some s=>
   dsimp only;have hu:=gB ht;have he:P.elem t=el:=by simp[Program.elem,hu]
   have hu':P.underlying t=some (.slice (P.elem t)):=by rw[he]; exact hu
   unfold slcS lift;rw[run_sliceAt_slice w t _ _ _ _ hu',run_slice_lh w t _ _ _ hu' _ _ _ _ h0 h1 h2,he,dE hs];have ha:(⟨b,o,none⟩:Addr).add (l.toNat*s)=⟨b,o+l.toNat*s,none⟩:=by
    unfold Addr.add;by_cases h0:l.toNat*s=0
    ·simp[h0]
    ·simp[h0]
   by_cases hc:c=l.toNat
   ·simp[sliced,hc]
   ·simp[sliced,hc,ha]
end
attribute [push_cast] TW TX
theorem gC {w:World}{F:Nat→Prop}{b o c:Nat}{d:List Int}(h:SlB w F (.slice (some ⟨b,o,none⟩) d.length c) d){l n:Nat}(hln:l+n≤d.length)(hc:d.length≤c) :
 SlB w F (.slice (some ⟨b,if c=l then o else o+l,none⟩) n (c-l)) ((d.drop l).take n):=by
 obtain⟨a',c',hv,hl⟩:=h;injection hv with e1 e2 e3;subst e1;have hlen:((d.drop l).take n).length=n:=by rw[List.length_take,List.length_drop]; omega
 refine⟨_,c-l,by rw[hlen],fun h0=>?_⟩;have hn:0<n:=by
  rcases Nat.eq_zero_or_pos n with e | e
  ·subst e; simp at h0
  ·exact e
 obtain⟨b',o',h1,h2,h3⟩:=hl (by intro e; rw[e] at hln; simp at hln; omega);injection h1 with h1;injection h1 with h1 h1';subst h1;subst h1';refine⟨b,o+l,by rw[if_neg (by omega)],fun j hj=>?_,h3⟩;rw[aQ,hlen] at hj;have:=h2 (l+j) (by rw[aQ]; omega);rw[Nat.add_assoc,this];unfold by8;rw[List.getElem?_map,List.getElem?_map,List.getElem?_take_of_lt hj,List.getElem?_drop]
theorem Blk.setCells {b:Nat}{E:TypeId} : ∀{news:List Value} {w:World} {cs:List Value} {o:Nat},Blk w b cs E→o+news.length≤cs.length→Blk (w.setCells b o news) b (cs.take o ++ news ++ cs.drop (o+news.length)) E∧Upd (fun x=>x=b) w (w.setCells b o news)
 | [],w,cs,o,h,_=>by
  refine⟨?_,Upd.refl⟩;show Blk w b _ E;simpa using h
 | v :: news,w,cs,o,h,hl=>by
  simp only[List.length_cons] at hl;obtain⟨h1,h2⟩:=Blk.setCells (news:=news) (o:=o+1) (h.set o v) (by rw[List.length_set]; omega);refine⟨?_,(Upd.set (F:=fun x=>x=b) rfl).trans h2 (fun _ _ h=>h)⟩;have e:(cs.set o v).take (o+1) ++ news ++ (cs.set o v).drop (o+1+news.length)=cs.take o ++ v :: news ++ cs.drop (o+(v :: news).length):=by
   rw[List.take_add_one,List.getElem?_set_self (by omega),List.take_set_of_le (by omega),List.drop_set_of_lt (by omega)];simp[Nat.add_assoc,Nat.add_comm,Nat.add_left_comm]
  rw[e] at h1;exact h1
theorem iQ {P:Program}{w:World}{t tx ty el:TypeId}{by_ s:Nat}{z:Value}(ht:elt P t=some el)(hs:siz P el=some s)(hb:byt P el=some by_)(hz:zer P el=some z)(hzs:z.cells.size=s)(hs0:0<s)
 {v:Value} {n:Nat} {xs:List Value} (hown:w.ownsRow 0 el s v n xs) {x:Value} {m:Nat} {news:List Value} (src:Src P s tx x m news w) (hbytes:(n+m)*by_≤140737488355328) (h63:n+m≤maxLen)
 {K:Value×World→Prop} (hk : ∀v' w',w'.ownsRow 0 el s v' (n+m) (xs ++ news)→Upd (fun b=>v.ownBlock=some b) w w'→(∀g,v'.ownBlock=some g→v.ownBlock=some g∨(w.heap.size≤g∧g<w'.heap.size))→K (v',w')) :
 Okk (appS P #[t,tx] ty v x w) K:=by
 have hu:=gB ht;unfold siz at hs;unfold byt at hb;unfold zer at hz;cases hi:P.info? el with
 | none=>rw[hi] at hs; cases hs
 | some i=>
  rw[hi] at hb hz hs;simp only[Option.map_some,Option.some.injEq,Option.bind_some] at hb hz hs;subst hs;subst hb;have hsmall:n+m≤9223372036854775807:=by simp only[maxLen] at h63; omega
  have hl:=src.newsLen;have hlen:(xs ++ news).length=(n+m)*i.size:=by rw[List.length_append,hown.1,hl,Nat.add_mul]
  have grown : ∀(old:Nat),old<n+m→∀c',c'=grownCap w (n+m) old el→
   (w.drew.alloc (.cells ((xs ++ news).toArray ++ Builtin.zeroCells z.cells (c'-(n+m))) el)).ownsRow 0 el i.size (.slice (some ⟨w.heap.size,0,none⟩) (n+m) c') (n+m) (xs ++ news):=by
   rintro old ho c' rfl;have hge:=grownCap_ge w (n+m) old el;have hcm:grownCap w (n+m) old el≤maxLen:=grownCap_le_maxLen w (n+m) old el h63;refine⟨hlen,.inr ⟨w.heap.size,_,_,rfl,Nat.zero_le _,heap_alloc_new w.drew _,hge,hcm,?_,?_⟩⟩
   ·simp only[Array.size_append,List.size_toArray,size_zeroCells,hzs,hlen];rw[←Nat.add_mul];congr 1;omega
   ·simp only[Array.toList_append];rw[←hlen];exact List.take_left
  have hfresh : ∀(ob:Obj) (c':Nat) (g:Nat),(Value.slice (some ⟨w.heap.size,0,none⟩) (n+m) c').ownBlock=some g→v.ownBlock=some g∨(w.heap.size≤g∧g<(w.drew.alloc ob).heap.size):=by
   intro ob c' g hg;have hg:w.heap.size=g:=Option.some.inj hg;have:(w.drew.alloc ob).heap.size=w.heap.size+1:=aI;exact .inr ⟨by omega,by omega⟩
  rcases hown.2 with ⟨rfl,rfl⟩ | ⟨g,cap,cur,rfl,hbg,hg,hnc,hcm,hcs,htake⟩
  ·have hx:xs = []:=List.eq_nil_of_length_eq_zero (by simpa using hown.1);subst hx;by_cases hm:m=0
   ·subst hm;have hn:news = []:=List.eq_nil_of_length_eq_zero (by simpa using hl);subst hn;have hr:=run_append_nothing w t tx ty el i hu hi none 0 0 (Nat.le_refl _) x src;refine⟨_,by unfold appS lift; rw[hr],hk _ _ hown Upd.refl fun g h=>.inl h⟩
   ·have hr:=run_append_grow_src w t tx ty el i z hu hi hz none 0 0 [] (run_firstCells_none w.drew i.size 0 0 0) x m news src (by omega) (by omega) (growslice_fits (by omega) hbytes);exact⟨_,by unfold appS lift; rw[hr],hk _ _ (grown 0 (by omega) _ rfl) (Upd.drew.trans Upd.alloc (fun _ _ h=>h)) (hfresh _ _)⟩
  ·have hB:Blk w g cur.toList el:=by show _=_; rw[hg]
   have hcl:cur.toList.length=cap*i.size:=hcs;by_cases hroom:n+m≤cap
   ·have hfit:n*i.size+news.length≤cur.toList.length:=by
     have:(n+m)*i.size≤cap*i.size:=Nat.mul_le_mul_right _ hroom;rw[Nat.add_mul] at this;rw[hcl,hl];exact this
    have hr:=run_append_room_src w t tx ty el i hu hi g 0 n cap x m news src hroom (fun j hj=>by rw[hB.cell,List.getElem?_eq_getElem (by omega)]; rfl) (fun j _=>hB.free _);rw[Nat.zero_add] at hr;obtain⟨h1,h2⟩:=Blk.setCells (news:=news) (o:=n*i.size) hB hfit;refine⟨_,by unfold appS lift; rw[hr],hk _ _ ⟨hlen,.inr ⟨g,cap,_,rfl,hbg,h1,hroom,hcm,?_,?_⟩⟩ (h2.mono fun b _ e=>by rw[e]; rfl) fun _ h=>.inl h⟩
    ·simp only[List.size_toArray,List.length_append,List.length_take,List.length_drop];rw[hcl] at hfit ⊢;rw[Nat.min_eq_left (by omega)];omega
    ·show((cur.toList.take (n*i.size) ++ news) ++ _).take _=_;rw[htake,←hlen];exact List.take_left
   ·have hr:=run_append_grow_src w t tx ty el i z hu hi hz (some ⟨g,0,none⟩) n cap xs (run_firstCells_some w.drew i.size n ⟨g,0,none⟩ n cap xs hown.1 (by simpa using hown.cells (g:=g) rfl)) x m news src (by omega) (by omega) (growslice_fits (by omega) hbytes);exact⟨_,by unfold appS lift; rw[hr],hk _ _ (grown cap (by omega) _ rfl) (Upd.drew.trans Upd.alloc (fun _ _ h=>h)) (hfresh _ _)⟩
theorem SlB.src {w:World}{F:Nat→Prop}{y:Value}{m:List Int}(hy:SlB w F y m):Src Tryz.prog 1 55 y m.length (by8 m) w:=by
 obtain⟨a,c,rfl,hl⟩:=hy;have hk:Tryz.prog.underlying 55=some (.slice 5):=Tryz.underlying55;by_cases h0:m = []
 ·subst h0;cases a with
  | none=>exact Src.ofNil w hk c
  | some a=>exact Src.ofSlice w hk a 0 c [] rfl (by simp) (by simp)
 ·obtain⟨b,o,rfl,h1,_⟩:=hl h0;refine Src.ofSlice w hk ⟨b,o,none⟩ m.length c (by8 m) (by rw[aQ,Nat.mul_one]) (fun j u hj=>?_) dD;have hlt:j<(by8 m).length:=(List.getElem?_eq_some_iff.1 hj).1;rw[←hj,←h1 j hlt];congr 1;unfold Addr.add;split
  ·rename_i h0; rw[h0]; rfl
  ·rfl
def Bow (w:World)(v:Value)(l:List Int):Prop:=w.ownsRow 0 5 1 v l.length (by8 l)
theorem cH {l m:List Int}:by8 (l ++ m)=by8 l ++ by8 m:=by simp [by8]
theorem bH {w:World}{v:Value}{l:List Int}(hown:Bow w v l){F:Nat→Prop}{y:Value}{m:List Int}(hy:SlB w F y m)(hlen:l.length+m.length≤140737488355328){ty:TypeId}
 {K:Value×World→Prop} (hk : ∀v' w',Bow w' v' (l ++ m)→Upd (fun b=>v.ownBlock=some b) w w'→(∀g,v'.ownBlock=some g→v.ownBlock=some g∨(w.heap.size≤g∧g<w'.heap.size))→K (v',w')) :
 Okk (appS Tryz.prog #[55,55] ty v y w) K:=by
 refine iQ (by_:=1) cG bJ fY fZ rfl (by omega) hown hy.src (by omega) (by unfold maxLen; omega) ?_;intro v' w' h1 h2 h3;refine hk v' w' ?_ h2 h3;unfold Bow;rw[List.length_append,cH];exact h1
def strL (s:ByteArray):List Int:=s.data.toList.map fun b=>(b.toNat:Int)
theorem TY {s:ByteArray}:byteCells s=by8 (strL s):=by simp [byteCells,by8,strL]
theorem qD {w:World}{v:Value}{l:List Int}(hown:Bow w v l){s:ByteArray}(hlen:l.length+s.size≤1000000000){ty:TypeId}
 {K:Value×World→Prop} (hk : ∀v' w',Bow w' v' (l ++ strL s)→Upd (fun b=>v.ownBlock=some b) w w'→(∀g,v'.ownBlock=some g→v.ownBlock=some g∨(w.heap.size≤g∧g<w'.heap.size))→K (v',w')) :
 Okk (appS Tryz.prog #[55,9] ty v (.string s) w) K:=by
 have hsl:(strL s).length=s.size:=by simp[strL]
 refine iQ (by_:=1) cG bJ fY fZ rfl (by omega) hown (Src.ofString w Tryz.underlying9 s) (by omega) (by unfold maxLen; omega) ?_;intro v' w' h1 h2 h3;refine hk v' w' ?_ h2 h3;unfold Bow;rw[List.length_append,cH,hsl,←TY];exact h1
theorem Bow.slb {w:World}{v:Value}{l:List Int}(h:Bow w v l){F:Nat→Prop}(hF : ∀g,v.ownBlock=some g→¬F g):SlB w F v l:=by
 rcases Nat.eq_zero_or_pos l.length with h0 | h0
 ·obtain⟨a,c,hv⟩:=bY h;obtain rfl:l = []:=List.eq_nil_of_length_eq_zero h0;exact⟨a,c,hv,fun h=>absurd rfl h⟩
 ·obtain⟨g,c,hv,hg,_,hl⟩:=Buf.of_own h h0;exact⟨some ⟨g,0,none⟩,c,hv,fun _=>⟨g,0,rfl,hl,hF g hg⟩⟩
theorem Bow.nil {w:World}:Bow w (.slice none 0 0) []:=World.ownsRow_nil _ _ _ _
theorem Bow.empty {w:World}{g:Nat}(h:Blk w g [] 5):Bow w (.slice (some ⟨g,0,none⟩) 0 0) []:=⟨rfl,.inr ⟨g,0,#[],rfl,Nat.zero_le _,h,Nat.le_refl _,Nat.zero_le _,rfl,rfl⟩⟩
theorem Bow.upd {w w':World}{F:Nat→Prop}{v:Value}{l:List Int}(h:Bow w v l)(hu:Upd F w w')(hF : ∀g,v.ownBlock=some g→¬F g):Bow w' v l:=cO h hu hF
theorem Bow.form {w:World}{v:Value}{l:List Int}(h:Bow w v l) : ∃a c,v = .slice a l.length c∧l.length≤c:=by
 rcases h.2 with ⟨rfl,h0⟩ | ⟨g,cap,cur,rfl,_,_,h1,_⟩
 ·exact⟨none,0,by rw[h0],by omega⟩
 ·exact⟨_,cap,rfl,h1⟩
theorem Bow.lt {w:World}{v:Value}{l:List Int}(h:Bow w v l){g:Nat}(hg:v.ownBlock=some g):g<w.heap.size:=(World.ownsRow.lt h g hg).2
theorem TZ {w:World}{k k':IntKind}{n:Int}(h0:0≤n)(h1:n≤1000000000) : ∃w',mkS Tryz.prog 55 (.int k 0) (.int k' n) w=some (.slice (some ⟨w.heap.size,0,none⟩) 0 n.toNat,w')∧Bow w' (.slice (some ⟨w.heap.size,0,none⟩) 0 n.toNat) []∧Upd (fun _=>False) w w'∧w'.heap.size=w.heap.size+1:=by
 have hi : ∃i,Tryz.prog.info? 5=some i∧i.size=1∧i.bytes=1∧i.zero=some (.int .u8 0):=by
  have hs:=bJ;have hb:=fY;have hz:=fZ;unfold siz at hs;unfold byt at hb;unfold zer at hz;cases hi:Tryz.prog.info? 5 with
  | none=>rw[hi] at hs; cases hs
  | some i=>
   rw[hi] at hb hz hs;simp only[Option.map_some,Option.some.injEq,Option.bind_some] at hb hz hs;exact⟨i,rfl,hs,hb,hz⟩
 obtain⟨i,hi,hs,hb,hz⟩:=hi;have hr:=run_make (P:=Tryz.prog) w 55 5 i _ Tryz.underlying55 hi hz k k' 0 n (Int.le_refl _) h0 (by rw[hb]; omega) (by omega);refine⟨w.alloc (.cells (madeCells (Value.int .u8 0).cells (n.toNat*i.size)) 5),by unfold mkS lift; rw[hr]; rfl,World.ownsRow_made w _ n.toNat (Nat.zero_le _) (by unfold maxLen; omega) (by rw[size_madeCells,hs]),Upd.alloc,aI⟩
section
variable {P : Program} {D : Den} {w : World} {ty : TypeId} {e : Operand → Value}
def minK (P:Program)(D:Den)(x y:Operand)(ats:Array TypeId)(ty:TypeId)(e:Operand→Value)(u v:Value)(w:World):Option (Value×World):=
 match u,v with
 | .int k a,.int _ b=>some (.int k (min a b),w)
 | _,_=>opX P D (.call ⟨.builtin .min,#[x,y],ats⟩) ty e w
theorem T4 {x y:Operand}{ats:Array TypeId}:opX P D (.call ⟨.builtin .min,#[x,y],ats⟩) ty e w=minK P D x y ats ty e (e x) (e y) w:=by
 unfold minK;split
 ·rename_i k a k' b hx hy;have:(if b<a then b else a)=min a b:=by rw[Int.min_def]; split <;> split <;> omega
  simp[opX,opS,execOp,resolve,invoke,builtin,Builtin.min_,Builtin.min2,hx,hy,this]
 ·rfl
theorem T5 {x y:Operand}{ats:Array TypeId}{k k':IntKind}{a b:Int}:minK P D x y ats ty e (.int k a) (.int k' b) w=some (.int k (min a b),w):=_root_.id rfl
theorem T6 {x y:Operand}{ats:Array TypeId}{u u' v v':Value}{w':World}(h1:u=u')(h2:v=v')(h3:w=w'):minK P D x y ats ty e u v w=minK P D x y ats ty e u' v' w':=by rw [h1,h2,h3]
end
attribute [congr] T6
attribute [push_cast] T4 T5
theorem dV {n:Nat}{k:Nat}:BitVec.ofInt k (n:Int)=BitVec.ofNat k n:=by simp
theorem T8 {a:Nat}(h:a<256):IntKind.u8.wrap ((BitVec.ofInt IntKind.u8.bits (a:Int) ||| BitVec.ofInt IntKind.u8.bits 128).toNat:Int)=((a%128+128:Nat):Int):=by
 have e : ∀a:Fin 256,IntKind.u8.wrap ((BitVec.ofInt IntKind.u8.bits ((a.val:Nat):Int) ||| BitVec.ofInt IntKind.u8.bits 128).toNat:Int)=((a.val%128+128:Nat):Int):=by decide +kernel
 exact e ⟨a,h⟩
theorem T9 {a:Nat}(h:a<256):IntKind.u8.wrap ((BitVec.ofInt IntKind.u8.bits (a:Int) &&& BitVec.ofInt IntKind.u8.bits 127).toNat:Int)=((a%128:Nat):Int):=by
 have e : ∀a:Fin 256,IntKind.u8.wrap ((BitVec.ofInt IntKind.u8.bits ((a.val:Nat):Int) &&& BitVec.ofInt IntKind.u8.bits 127).toNat:Int)=((a.val%128:Nat):Int):=by decide +kernel
 exact e ⟨a,h⟩
theorem UA {a b i:Nat}(hi:i<64)(ha:a<2 ^ i)(hb:b*2 ^ i<2 ^ 64):IntKind.u64.wrap ((BitVec.ofInt IntKind.u64.bits (a:Int) ||| BitVec.ofInt IntKind.u64.bits ((b*2 ^ i:Nat):Int)).toNat:Int)=((a+b*2 ^ i:Nat):Int):=by
 have h1:=Nat.two_pow_add_eq_or_of_lt ha b;have h3:a+b*2 ^ i<2 ^ 64:=by
  have h4:(2:Nat) ^ 64=2 ^ (64-i)*2 ^ i:=by rw[←Nat.pow_add]; congr 1; omega
  rw[h4] at hb ⊢;have h5:b<2 ^ (64-i):=Nat.lt_of_mul_lt_mul_right hb;have h6:(b+1)*2 ^ i≤2 ^ (64-i)*2 ^ i:=Nat.mul_le_mul_right _ h5;rw[Nat.add_mul] at h6;omega
 have h2:(BitVec.ofInt IntKind.u64.bits (a:Int) ||| BitVec.ofInt IntKind.u64.bits ((b*2 ^ i:Nat):Int)).toNat=a+b*2 ^ i:=by
  rw[dV,dV,BitVec.toNat_or,BitVec.toNat_ofNat,BitVec.toNat_ofNat];show(a%2 ^ 64) ||| (b*2 ^ i%2 ^ 64)=_;rw[Nat.mod_eq_of_lt hb,Nat.mod_eq_of_lt (by omega),Nat.or_comm,Nat.mul_comm b,←h1];omega
 rw[h2,IntKind.wrap_u64];omega
open Go
set_option maxRecDepth 100000
end Go.Proofs.YtpgigkceoolgeaaGreatDoor.Fd
