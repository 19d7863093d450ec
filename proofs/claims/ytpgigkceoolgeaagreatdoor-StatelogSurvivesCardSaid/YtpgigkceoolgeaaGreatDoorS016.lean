import Derived.Test.YtpgigkceoolgeaaGreatDoorS015
import Derived.Shelf.Small.Strs
set_option linter.all false
namespace Go.Proofs.YtpgigkceoolgeaaGreatDoor.Fd
open Go
set_option maxRecDepth 100000
structure RdN (N : Nat) (w : World) (p : Nat) (d : List Int) (at_ : Nat) (v : Value) : Prop where
 rd : ∃item,Rd w p d at_ item 0 v
 fp:p<N
 fv : ∀g,v.ownBlock=some g→g<N
theorem Rd.go {w w':World}{p:Nat}{d:List Int}{at_ item:Nat}{err:Int}{v:Value}{G:Nat→Prop}(h:Rd w p d at_ item err v)(hu:Upd G w w')(hp : ¬G p)(hg : ∀g,v.ownBlock=some g→¬G g):Rd w' p d at_ item err v:=
 ⟨h.head.upd hu hp,h.own.upd hu (fun b hb h=>hg b hb h),h.ne,h.rng,h.len,h.le⟩
theorem RdN.go {N:Nat}{w w':World}{p:Nat}{d:List Int}{at_:Nat}{v:Value}{G:Nat→Prop}(h:RdN N w p d at_ v)(hu:Upd G w w')(hG : ∀b,b<N→¬G b):RdN N w' p d at_ v:=
 ⟨h.rd.elim fun i r=>⟨i,r.go hu (hG p h.fp) fun g hg=>hG g (h.fv g hg)⟩,h.fp,h.fv⟩
theorem RdN.len {N:Nat}{w:World}{p:Nat}{d:List Int}{at_:Nat}{v:Value}(h:RdN N w p d at_ v):d.length≤1000000:=h.rd.elim fun _ r=>r.len
theorem RdN.le {N:Nat}{w:World}{p:Nat}{d:List Int}{at_:Nat}{v:Value}(h:RdN N w p d at_ v):at_≤d.length:=h.rd.elim fun _ r=>r.le
theorem RdN.big {N N':Nat}{w:World}{p:Nat}{d:List Int}{at_:Nat}{v:Value}(h:RdN N w p d at_ v)(hN:N≤N'):RdN N' w p d at_ v:=
 ⟨h.rd,Nat.lt_of_lt_of_le h.fp hN,fun g hg=>Nat.lt_of_lt_of_le (h.fv g hg) hN⟩
theorem eQ {N:Nat}{w:World}{p:Nat}{d:List Int}{at_:Nat}{v:Value}(h:RdN N w p d at_ v){n:Int}(hn:I64 n)(hh:Has d at_ (encI n)) :
 Ok (den Tryz.prog 131 #[.pointer (some ⟨p,0,none⟩)] w) fun u w'=>u = .int .i64 n∧RdN N w' p d (at_+(encI n).length) v∧Upd (fun b=>b=p) w w':=by
 obtain⟨⟨i,r⟩,h2,h3⟩:=h;refine(WH r hn hh).mono ?_;rintro u w' ⟨hr,hi,hu⟩;exact⟨hr,⟨hi,h2,h3⟩,hu⟩
theorem i9 {N:Nat}{w:World}{p:Nat}{d:List Int}{at_:Nat}{v:Value}(h:RdN N w p d at_ v){n:Nat}(hn:n<2 ^ 64)(hh:Has d at_ (encU n)) :
 Ok (den Tryz.prog 82 #[.pointer (some ⟨p,0,none⟩)] w) fun u w'=>u = .int .u64 (n:Int)∧RdN N w' p d (at_+(encU n).length) v∧Upd (fun b=>b=p) w w':=by
 obtain⟨⟨i,r⟩,h2,h3⟩:=h;refine(sP r hn hh).mono ?_;rintro u w' ⟨hr,hi,hu⟩;exact⟨hr,⟨hi,h2,h3⟩,hu⟩
theorem gM {N:Nat}{w:World}{p:Nat}{d:List Int}{at_:Nat}{v:Value}(h:RdN N w p d at_ v){n:Nat}(hn:n<2 ^ 60)(hh:Has d at_ (encU n))(hle:at_+(encU n).length+n≤d.length) :
 Ok (den Tryz.prog 129 #[.pointer (some ⟨p,0,none⟩)] w) fun u w'=>u = .int .i64 (n:Int)∧RdN N w' p d (at_+(encU n).length) v∧Upd (fun b=>b=p) w w':=by
 obtain⟨⟨i,r⟩,h2,h3⟩:=h;refine(WI r hn hh hle).mono ?_;rintro u w' ⟨hr,hi,hu⟩;exact⟨hr,⟨hi,h2,h3⟩,hu⟩
theorem dK {N:Nat}{w:World}{p:Nat}{d:List Int}{at_:Nat}{v:Value}(h:RdN N w p d at_ v){b:List Int}(hb:b.length<2 ^ 64)(hh:Has d at_ (encB b)) :
 Ok (den Tryz.prog 108 #[.pointer (some ⟨p,0,none⟩)] w) fun u w'=>Bow w' u b∧(∀g,u.ownBlock=some g→w.heap.size≤g)∧RdN N w' p d (at_+(encB b).length) v∧Upd (fun b=>b=p) w w':=by
 obtain⟨⟨i,r⟩,h2,h3⟩:=h;refine(WE r hb hh).mono ?_;rintro u w' ⟨hr,hf,hi,hu⟩;exact⟨hr,hf,⟨hi,h2,h3⟩,hu⟩
theorem tA {N:Nat}{w:World}{p:Nat}{d:List Int}{at_:Nat}{v:Value}(h:RdN N w p d at_ v){b:List Int}(hb:b.length<2 ^ 64)(hh:Has d at_ (encB b)) :
 Ok (den Tryz.prog 104 #[.pointer (some ⟨p,0,none⟩)] w) fun u w'=>u = .string (strOfNums b)∧RdN N w' p d (at_+(encB b).length) v∧Upd (fun b=>b=p) w w':=by
 obtain⟨⟨i,r⟩,h2,h3⟩:=h;refine(WF r hb hh).mono ?_;rintro u w' ⟨hr,hi,hu⟩;exact⟨hr,⟨hi,h2,h3⟩,hu⟩
theorem jA {N:Nat}{w:World}{p:Nat}{d:List Int}{at_:Nat}{v:Value}(h:RdN N w p d at_ v):Ok (den Tryz.prog 105 #[.pointer (some ⟨p,0,none⟩)] w) fun u w'=>u = .int .i64 0∧w=w':=by
 obtain⟨⟨i,r⟩,h2,h3⟩:=h;exact eH r
theorem eU {N:Nat}{w:World}{p:Nat}{d:List Int}{v:Value}(h:RdN N w p d d.length v):Ok (den Tryz.prog 81 #[.pointer (some ⟨p,0,none⟩)] w) fun u w'=>u = .int .i64 0∧Upd NoB w w':=by
 obtain⟨⟨i,r⟩,h2,h3⟩:=h;obtain⟨va,vc,rfl,_⟩:=r.own.form;refine aB (args:=[.pointer (some ⟨p,0,none⟩)]) rs81 Tryz.func81 rfl mixed (by kernel_rfl) QW rfl ?_;simp(disch:=omega)only[push_cast,seval,r.head.cell];refine Ok.use (rJ r) ?_;rintro u w1 ⟨rfl,u1⟩;have r1:=r.upd u1;simp(disch:=omega)only[push_cast,seval,r1.head.cell,Int.sub_self];exact u1
theorem jB {w:World}{F:Nat→Prop}{y:Value}{d:List Int}(hy:SlB w F y d)(hr:Rng d)(hl:d.length≤1000000) :
 Ok (den Tryz.prog 77 #[y] w) fun u w'=>∃p v,u = .pointer (some ⟨p,0,none⟩)∧RdN w'.heap.size w' p d 0 v∧w.heap.size≤p∧Upd NoB w w':=by
 refine(lL hy hr hl).mono ?_;rintro u w' ⟨p,v,h1,h2,h3,h4⟩;exact⟨p,v,h1,⟨⟨_,h2⟩,h2.head.lt,fun g hg=>h2.own.lt hg⟩,h3,h4⟩
theorem gN {α:Type}{e:Elt α}(he:EltOk e){P:Program}{t ty:TypeId}{by_:Nat}{z:Value}(hk:P.underlying t=some (.slice e.E))(ht:elt P t=some e.E)(hs:siz P e.E=some e.s)(hb:byt P e.E=some by_)(hz:zer P e.E=some z)(hzs:z.cells.size=e.s)
 {w:World} {F:Nat→Prop} {v:Value} {xs:List α} (hv:RowD e w F v xs) {x:α} {cs:List Value} (hx:e.C w (fun b=>F b∨v.ownBlock=some b) x cs) (hF : ∀b,F b→b<w.heap.size) (hbytes:(xs.length+1)*by_≤140737488355328) (h63:xs.length+1≤maxLen)
 {K:Value×World→Prop} (hK : ∀v' w',RowD e w' F v' (xs ++ [x])→Upd (fun b=>v.ownBlock=some b) w w'→(∀g,v'.ownBlock=some g→v.ownBlock=some g∨(w.heap.size≤g∧g<w'.heap.size))→K (v',w')) :
 Okk (appS P #[t,t] ty v (.slice (some ⟨w.heap.size,0,none⟩) 1 1) (w.alloc (.cells cs.toArray e.E (0,0)))) K:=by
 have u1:Upd NoB w (w.alloc (.cells cs.toArray e.E (0,0))):=Upd.alloc;have hb1:=Blk.new (w:=w) (cs:=cs) (E:=e.E);have hs1:=u1.size;have hv1:=hv.go (F':=F) he u1 fun _ _ h=>h.elim (fun h=>h.elim) id;have hx1:=he.go (F':=fun b=>F b∨v.ownBlock=some b) hx u1 fun _ _ h=>h.elim (fun h=>h.elim) id;refine lI he hk ht hs hb hz hzs hv1 (ys:=[x]) (SlD.single hx1 hb1 (fun h=>?_) (Nat.le_refl _)) (fun b hb=>Nat.lt_of_lt_of_le (hF b hb) hs1) (by simpa using hbytes) (by simpa using h63) ?_
 ·rcases h with h | h
  ·exact absurd (hF _ h) (Nat.lt_irrefl _)
  ·exact absurd (hv.lt h) (Nat.lt_irrefl _)
 intro v' w' h1 h2 h3;refine hK v' w' h1 ((u1.mono fun _ _ h=>h.elim).trans h2 fun _ _ h=>h) fun g hg=>?_;rcases h3 g hg with h | h
 ·exact .inl h
 ·exact .inr ⟨by omega,h.2⟩
theorem Has.cast {d l:List Int}{a b:Nat}(h:Has d a l)(e:a=b):Has d b l:=e ▸ h
theorem Has.flat {α:Type}{f:α→List Int}{l:List α}{d:List Int}{a i:Nat}{x:α}(h:Has d a (l.flatMap f))(hi:l[i]? =some x):Has d (a+((l.take i).flatMap f).length) (f x):=by
 obtain⟨hlt,rfl⟩:=List.getElem?_eq_some_iff.1 hi;have e:l.flatMap f=(l.take i).flatMap f ++ (f l[i] ++ (l.drop (i+1)).flatMap f):=by
  conv=>lhs; rw[←List.take_append_drop i l,List.flatMap_append,List.drop_eq_getElem_cons hlt,List.flatMap_cons]
 rw[e] at h;exact h.right.left
theorem WR (n:Int)(w:World):bldS Tryz.prog 76 #[(0,.int .i64 n)] w=some (.agg #[.int .i64 n,.int .i64 0,.int .i64 0,.slice none 0 0,.int .i64 0,.slice none 0 0],w):=by kernel_rfl
theorem WS (s:ByteArray)(w:World):bldS Tryz.prog 129 #[(0,.string s)] w=some (.agg #[.string s,.slice none 0 0],w):=by kernel_rfl
theorem WT (s:ByteArray)(a:Option Addr)(n c:Nat)(w:World):bslS Tryz.prog 74 1 #[(0,.agg #[.string s,.slice a n c])] w=some (.slice (some ⟨w.heap.size,0,none⟩) 1 1,w.alloc (.cells [.string s,.slice a n c].toArray 129 (0,0))):=by kernel_rfl
theorem tB:zer Tryz.prog 129=some (.agg #[.string ByteArray.empty,.slice none 0 0]):=by kernel_rfl
theorem tC:byt Tryz.prog 129=some 40:=by kernel_rfl
theorem WU {ty:TypeId}{w:World}{F:Nat→Prop}{v:Value}{xs:List Wt}(hv:RowD eW w F v xs){x:Wt}{cs:List Value}(hx:eW.C w (fun b=>F b∨v.ownBlock=some b) x cs)(hF : ∀b,F b→b<w.heap.size)(hl:xs.length≤1000000000)
 {K:Value×World→Prop} (hK : ∀v' w',RowD eW w' F v' (xs ++ [x])→Upd (fun b=>v.ownBlock=some b) w w'→(∀g,v'.ownBlock=some g→v.ownBlock=some g∨(w.heap.size≤g∧g<w'.heap.size))→K (v',w')) :
 Okk (appS Tryz.prog #[74,74] ty v (.slice (some ⟨w.heap.size,0,none⟩) 1 1) (w.alloc (.cells cs.toArray 129 (0,0)))) K:=
 gN (by_:=40) (z:=.agg #[.string ByteArray.empty,.slice none 0 0]) aR (P:=Tryz.prog) (t:=74) (by kernel_rfl) (by kernel_rfl) (by kernel_rfl) tC tB rfl hv hx hF (by omega) (by unfold maxLen; omega) hK
theorem gO:byt Tryz.prog 76=some 80:=by kernel_rfl
theorem mA {ty:TypeId}{w:World}{F:Nat→Prop}{v:Value}{xs:List Cmd}(hv:RowD eC w F v xs){x:Cmd}{cs:List Value}(hx:eC.C w (fun b=>F b∨v.ownBlock=some b) x cs)(hF : ∀b,F b→b<w.heap.size)(hl:xs.length≤1000000000)
 {K:Value×World→Prop} (hK : ∀v' w',RowD eC w' F v' (xs ++ [x])→Upd (fun b=>v.ownBlock=some b) w w'→(∀g,v'.ownBlock=some g→v.ownBlock=some g∨(w.heap.size≤g∧g<w'.heap.size))→K (v',w')) :
 Okk (appS Tryz.prog #[32,32] ty v (.slice (some ⟨w.heap.size,0,none⟩) 1 1) (w.alloc (.cells cs.toArray 76 (0,0)))) K:=
 gN (by_:=80) (z:=.agg #[.int .i64 0,.int .i64 0,.int .i64 0,.slice none 0 0,.int .i64 0,.slice none 0 0]) aA (P:=Tryz.prog) (t:=32) (by kernel_rfl) (by kernel_rfl) (by kernel_rfl) gO bO rfl hv hx hF (by omega) (by unfold maxLen; omega) hK
theorem WV:byt Tryz.prog 175=some 40:=by kernel_rfl
theorem WW {ty:TypeId}{w:World}{F:Nat→Prop}{v:Value}{xs:List Rid}(hv:RowD eR w F v xs){x:Rid}{cs:List Value}(hx:eR.C w (fun b=>F b∨v.ownBlock=some b) x cs)(hF : ∀b,F b→b<w.heap.size)(hl:xs.length≤1000000000)
 {K:Value×World→Prop} (hK : ∀v' w',RowD eR w' F v' (xs ++ [x])→Upd (fun b=>v.ownBlock=some b) w w'→(∀g,v'.ownBlock=some g→v.ownBlock=some g∨(w.heap.size≤g∧g<w'.heap.size))→K (v',w')) :
 Okk (appS Tryz.prog #[83,83] ty v (.slice (some ⟨w.heap.size,0,none⟩) 1 1) (w.alloc (.cells cs.toArray 175 (0,0)))) K:=
 gN (by_:=40) (z:=.agg #[.int .i64 0,.int .i64 0,.slice none 0 0]) aW (P:=Tryz.prog) (t:=83) (by kernel_rfl) (by kernel_rfl) (by kernel_rfl) WV sV rfl hv hx hF (by omega) (by unfold maxLen; omega) hK
theorem WX:byt Tryz.prog 154=some 32:=by kernel_rfl
theorem WY {ty:TypeId}{w:World}{F:Nat→Prop}{v:Value}{xs:List Akk}(hv:RowD eA w F v xs){x:Akk}{cs:List Value}(hx:eA.C w (fun b=>F b∨v.ownBlock=some b) x cs)(hF : ∀b,F b→b<w.heap.size)(hl:xs.length≤1000000000)
 {K:Value×World→Prop} (hK : ∀v' w',RowD eA w' F v' (xs ++ [x])→Upd (fun b=>v.ownBlock=some b) w w'→(∀g,v'.ownBlock=some g→v.ownBlock=some g∨(w.heap.size≤g∧g<w'.heap.size))→K (v',w')) :
 Okk (appS Tryz.prog #[86,86] ty v (.slice (some ⟨w.heap.size,0,none⟩) 1 1) (w.alloc (.cells cs.toArray 154 (0,0)))) K:=
 gN (by_:=32) (z:=.agg #[.int .i64 0,.slice none 0 0]) bF (P:=Tryz.prog) (t:=86) (by kernel_rfl) (by kernel_rfl) (by kernel_rfl) WX l9 rfl hv hx hF (by omega) (by unfold maxLen; omega) hK
theorem WZ:byt Tryz.prog 88=some 152:=by kernel_rfl
theorem W0 {ty:TypeId}{w:World}{F:Nat→Prop}{v:Value}{xs:List Crt}(hv:RowD eT w F v xs){x:Crt}{cs:List Value}(hx:eT.C w (fun b=>F b∨v.ownBlock=some b) x cs)(hF : ∀b,F b→b<w.heap.size)(hl:xs.length≤1000000000)
 {K:Value×World→Prop} (hK : ∀v' w',RowD eT w' F v' (xs ++ [x])→Upd (fun b=>v.ownBlock=some b) w w'→(∀g,v'.ownBlock=some g→v.ownBlock=some g∨(w.heap.size≤g∧g<w'.heap.size))→K (v',w')) :
 Okk (appS Tryz.prog #[33,33] ty v (.slice (some ⟨w.heap.size,0,none⟩) 1 1) (w.alloc (.cells cs.toArray 88 (0,0)))) K:=
 gN (by_:=152) (z:=.agg #[.int .i64 0,.int .i64 0,.int .i64 0,.slice none 0 0,.slice none 0 0,.slice none 0 0,.int .i64 0,.slice none 0 0,.slice none 0 0]) aM (P:=Tryz.prog) (t:=33) (by kernel_rfl) (by kernel_rfl) (by kernel_rfl) WZ lZ rfl hv hx hF (by omega) (by unfold maxLen; omega) hK
set_option maxHeartbeats 4000000 in
theorem W1 {w:World}{F:Nat→Prop}{y:Value}{c:Cmd}(hy:SlB w F y (encC c))(hw:CmdW c)(hl:(encC c).length≤1000000) :
 Ok (den Tryz.prog 161 #[y] w) fun u w'=>∃cs,u = .tuple #[.agg cs.toArray,.int .i64 0]∧eC.C w' (fun b=>b<w.heap.size) c cs∧Upd NoB w w':=by
 have hrg:=bI hw;obtain⟨ya,yc,rfl⟩:=hy.form;refine iP (args:=[.slice ya (encC c).length yc]) 2 76 3 Tryz.func161 rfl mixed (by kernel_rfl) S5 rfl ?_;have hlen:(encC c).length=(encI c.client).length+(encI c.seq).length+(encI c.kind).length+(encU c.ws.length).length+(c.ws.flatMap encW).length+(encI c.rep).length+(encB c.tag).length:=by simp only[encC,encC0,List.length_append]
 have hlt:(encB c.tag).length=(encU c.tag.length).length+c.tag.length:=by simp[encB]
 have hh:Has (encC c) 0 (encC c):=Has.all;have g7:Has (encC c) 0 (encI c.client ++ encI c.seq ++ encI c.kind ++ encU c.ws.length ++ c.ws.flatMap encW ++ encI c.rep ++ encB c.tag):=hh;have g6:=g7.left;have g5:=g6.left;have g4:=g5.left;have g3:=g4.left;have g2:=g3.left;have g1:=g2.left;replace g7:=g7.right;replace g6:=g6.right;replace g5:=g5.right;replace g4:=g4.right;replace g3:=g3.right;replace g2:=g2.right;simp only[List.length_append,Nat.zero_add] at g2 g3 g4 g5 g6 g7;generalize hd:encC c=d at *;obtain⟨i1,i2,i3,i4,hww,hwt⟩:=hw;have hwl:c.ws.length≤(c.ws.flatMap encW).length:=aT fun x=>by have:=aS x.o.length; simp[encW,encB]; omega
 rw[aD];generalize hKs:KS _ _ _ _ _=Ks;simp(disch:=omega)only[push_cast,seval,bO];have b1:=Blk.new (w:=w) (cs:=[.int .i64 0,.int .i64 0,.int .i64 0,.slice none 0 0,.int .i64 0,.slice none 0 0]) (E:=76);have u1:Upd NoB w (w.alloc (.cells #[.int .i64 0,.int .i64 0,.int .i64 0,.slice none 0 0,.int .i64 0,.slice none 0 0] 76 (0,0))):=Upd.alloc;have hy1:=hy.go (F':=F) u1 fun _ _ h=>h.elim (fun h=>h.elim) id;have s1:(w.alloc (.cells #[.int .i64 0,.int .i64 0,.int .i64 0,.slice none 0 0,.int .i64 0,.slice none 0 0] 76 (0,0))).heap.size=w.heap.size+1:=aI;generalize w.alloc (.cells #[.int .i64 0,.int .i64 0,.int .i64 0,.slice none 0 0,.int .i64 0,.slice none 0 0] 76 (0,0))=w1 at *;subst hKs;rw[aC];rw[aD];generalize hKs:KS _ _ _ _ _=Ks;simp(disch:=omega)only[push_cast,seval];refine Ok.use (jB hy1 hrg hl) ?_;rintro u w2 ⟨p,v,rfl,r2,hp,u2⟩;have b2:=b1.upd u2 fun h=>h;have v2:=u1.trans u2 fun _ _ h=>h;have s2:=u2.size;clear hy hy1 b1 u1 u2;simp(disch:=omega)only[push_cast,seval];subst hKs;rw[aC];rw[aD];generalize hKs:KS _ _ _ _ _=Ks;simp(disch:=omega)only[push_cast,seval];refine Ok.use (eQ r2 i1 g1) ?_;rintro u w3 ⟨rfl,r3,u3⟩;have b3:=b2.upd u3 (by omega);have v3:=v2.trans u3 fun b h1 h=>by omega
 have s3:=u3.size;simp(disch:=omega)only[push_cast,seval,WR,bO];have c4:=((((((Blk.new (w:=w3) (cs:=[.int .i64 0,.int .i64 0,.int .i64 0,.slice none 0 0,.int .i64 0,.slice none 0 0]) (E:=76)).set 0 (.int .i64 c.client)).set 1 (.int .i64 0)).set 2 (.int .i64 0)).set 3 (.slice none 0 0)).set 4 (.int .i64 0)).set 5 (.slice none 0 0);have u4:Upd NoB w3 (((((((w3.alloc (.cells #[.int .i64 0,.int .i64 0,.int .i64 0,.slice none 0 0,.int .i64 0,.slice none 0 0] 76 (0,0))).setCell ⟨w3.heap.size,0,none⟩ (.int .i64 c.client)).setCell ⟨w3.heap.size,1,none⟩ (.int .i64 0)).setCell ⟨w3.heap.size,2,none⟩ (.int .i64 0)).setCell ⟨w3.heap.size,3,none⟩ (.slice none 0 0)).setCell ⟨w3.heap.size,4,none⟩ (.int .i64 0)).setCell ⟨w3.heap.size,5,none⟩ (.slice none 0 0)):=(((((Upd.alloc.setNew (Nat.le_refl _)).setNew (Nat.le_refl _)).setNew (Nat.le_refl _)).setNew (Nat.le_refl _)).setNew (Nat.le_refl _)).setNew (Nat.le_refl _);simp only[List.set_cons_succ,List.set_cons_zero] at c4;generalize ((((((w3.alloc (.cells #[.int .i64 0,.int .i64 0,.int .i64 0,.slice none 0 0,.int .i64 0,.slice none 0 0] 76 (0,0))).setCell ⟨w3.heap.size,0,none⟩ (.int .i64 c.client)).setCell ⟨w3.heap.size,1,none⟩ (.int .i64 0)).setCell ⟨w3.heap.size,2,none⟩ (.int .i64 0)).setCell ⟨w3.heap.size,3,none⟩ (.slice none 0 0)).setCell ⟨w3.heap.size,4,none⟩ (.int .i64 0)).setCell ⟨w3.heap.size,5,none⟩ (.slice none 0 0)=w4 at *;have r4:=(r3.go u4 fun _ _ h=>h).big s3;have b4:=b3.upd u4 fun h=>h;have v4:=v3.trans u4 fun _ _ h=>h;have hw3:w.heap.size<w3.heap.size:=b3.lt;have hN:w3.heap.size<w4.heap.size:=c4.lt;have hpc:p<w3.heap.size:=Nat.lt_of_lt_of_le r3.fp s3;clear r2 r3 b2 b3 v2 v3 u3;generalize hcb:w3.heap.size=cb at *;subst hKs;rw[aC];rw[aD];generalize hKs:KS _ _ _ _ _=Ks;simp(disch:=omega)only[push_cast,seval];refine Ok.use (eQ r4 i2 (g2.cast (by omega))) ?_;rintro u w5 ⟨rfl,r5,u5⟩;have c5:=c4.upd u5 (by omega);have b5:=b4.upd u5 (by omega);have v5:=v4.trans u5 fun b h1 h=>by omega
 have s5:=u5.size;simp(disch:=omega)only[push_cast,seval,c5.cell,c5.free];have c6:=c5.set 1 (.int .i64 c.seq);have u6:Upd (fun b=>b=cb) w5 (w5.setCell ⟨cb,1,none⟩ (.int .i64 c.seq)):=Upd.set rfl;have r6:=r5.go u6 fun b h1 h2=>by omega
 have b6:=b5.upd u6 (by omega);have v6:=v5.trans u6 fun b h1 h=>by omega
 simp only[List.set_cons_succ,List.set_cons_zero] at c6;clear c4 c5 b4 b5 r4 r5 u4 u5 v4 v5;generalize w5.setCell ⟨cb,1,none⟩ (.int .i64 c.seq)=w6 at *;have s6:=u6.size;clear u6;subst hKs;rw[aC];rw[aD];generalize hKs:KS _ _ _ _ _=Ks;simp(disch:=omega)only[push_cast,seval];refine Ok.use (eQ r6 i3 (g3.cast (by omega))) ?_;rintro u w7 ⟨rfl,r7,u7⟩;have c7:=c6.upd u7 (by omega);have b7:=b6.upd u7 (by omega);have v7:=v6.trans u7 fun b h1 h=>by omega
 have s7:=u7.size;simp(disch:=omega)only[push_cast,seval,c7.cell,c7.free];have c8:=c7.set 2 (.int .i64 c.kind);have u8:Upd (fun b=>b=cb) w7 (w7.setCell ⟨cb,2,none⟩ (.int .i64 c.kind)):=Upd.set rfl;have r8:=r7.go u8 fun b h1 h2=>by omega
 have b8:=b7.upd u8 (by omega);have v8:=v7.trans u8 fun b h1 h=>by omega
 simp only[List.set_cons_succ,List.set_cons_zero] at c8;clear c6 c7 b6 b7 r6 r7 v6 v7 u7;generalize w7.setCell ⟨cb,2,none⟩ (.int .i64 c.kind)=w8 at *;have s8:=u8.size;clear u8;subst hKs;rw[aC];rw[aD];generalize hKs:KS _ _ _ _ _=Ks;simp(disch:=omega)only[push_cast,seval];refine Ok.use (gM r8 (n:=c.ws.length) (by omega) (g4.cast (by omega)) (by omega)) ?_;rintro u w9 ⟨rfl,r9,u9⟩;have c9:=c8.upd u9 (by omega);have b9:=b8.upd u9 (by omega);have v9:=v8.trans u9 fun b h1 h=>by omega
 have s9:=u9.size;clear c8 b8 r8 v8 u9;simp(disch:=omega)only[push_cast,seval];refine aG (I:=fun k st w'=>Bx (∃(i:Nat) (wv:Value),k+i=c.ws.length∧st = [.int .i64 (i:Int)]∧RdN cb w' p d (0+(encI c.client).length+(encI c.seq).length+(encI c.kind).length+(encU c.ws.length).length+((c.ws.take i).flatMap encW).length) v∧Blk w' cb [.int .i64 c.client,.int .i64 c.seq,.int .i64 c.kind,wv,.int .i64 0,.slice none 0 0] 76∧RowD eW w' (fun b=>b≤cb) wv (c.ws.take i)∧Blk w' w.heap.size [.int .i64 0,.int .i64 0,.int .i64 0,.slice none 0 0,.int .i64 0,.slice none 0 0] 76∧Upd NoB w w'∧w9.heap.size≤w'.heap.size) ⟨⟩) ?_ c.ws.length ⟨0,.slice none 0 0,rfl,rfl,by simpa using r9,c9,.nil,b9,v9,Nat.le_refl _⟩;clear r9 c9 b9 v9;rintro k st wa ⟨i,wv,hk,rfl,ra,ca,hra,ba,va,sa⟩;obtain⟨wva,wvc,rfl⟩:=hra.form;by_cases hk0:k=0
 ·obtain rfl:i=c.ws.length:=by omega
  rw[List.take_length] at *;simp(disch:=omega)only[push_cast,seval];subst hKs;rw[aC];rw[aD];generalize hKs:KS _ _ _ _ _=Ks;simp(disch:=omega)only[push_cast,seval];refine Ok.use (eQ ra i4 (g6.cast (by omega))) ?_;rintro u wb ⟨rfl,rb,ub⟩;have cb1:=ca.upd ub (by omega);have bb:=ba.upd ub (by omega);have hrb:=hra.go (F':=fun b=>b≤cb) aR ub fun b _ h=>h.elim (fun h=>by omega) id;have vb:=va.trans ub fun b h1 h=>by omega
  simp(disch:=omega)only[push_cast,seval,cb1.cell,cb1.free];have cc:=cb1.set 4 (.int .i64 c.rep);have uc:Upd (fun b=>b=cb) wb (wb.setCell ⟨cb,4,none⟩ (.int .i64 c.rep)):=Upd.set rfl;have rc:=rb.go uc fun b h1 h2=>by omega
  have bc:=bb.upd uc (by omega);have hrc:=hrb.go (F':=fun b=>b≤cb) aR uc fun b _ h=>h.elim (fun h=>by omega) id;have vc:=vb.trans uc fun b h1 h=>by omega
  simp only[List.set_cons_succ,List.set_cons_zero] at cc;generalize wb.setCell ⟨cb,4,none⟩ (.int .i64 c.rep)=wc at *;subst hKs;rw[aC];rw[aD];generalize hKs:KS _ _ _ _ _=Ks;simp(disch:=omega)only[push_cast,seval];refine Ok.use (dK rc (b:=c.tag) (by omega) (g7.cast (by omega))) ?_;rintro u wd ⟨hbd,hfd,rd,ud⟩;have cd:=cc.upd ud (by omega);have bd:=bc.upd ud (by omega);have hrd:=hrc.go (F':=fun b=>b≤cb) aR ud fun b _ h=>h.elim (fun h=>by omega) id;have vd:=vc.trans ud fun b h1 h=>by omega
  obtain⟨da,dc,rfl,_⟩:=hbd.form;simp(disch:=omega)only[push_cast,seval,cd.cell,cd.free];have ce:=cd.set 5 (.slice da c.tag.length dc);have ue:Upd (fun b=>b=cb) wd (wd.setCell ⟨cb,5,none⟩ (.slice da c.tag.length dc)):=Upd.set rfl;have re:=rd.go ue fun b h1 h2=>by omega
  have be:=bd.upd ue (by omega);have hre:=hrd.go (F':=fun b=>b≤cb) aR ue fun b _ h=>h.elim (fun h=>by omega) id;have ve:=vd.trans ue fun b h1 h=>by omega
  have scc:=cc.lt;have hbe:=(hbd.upd ue fun b h1 h2=>by have:=hfd b h1; omega).slb (F:=fun b=>b≤cb) fun g hg h=>by have:=hfd g hg; omega
  simp only[List.set_cons_succ,List.set_cons_zero] at ce;generalize wd.setCell ⟨cb,5,none⟩ (.slice da c.tag.length dc)=we at *;have ee:0+(encI c.client).length+(encI c.seq).length+(encI c.kind).length+(encU c.ws.length).length+(c.ws.flatMap encW).length+(encI c.rep).length+(encB c.tag).length=d.length:=by omega
  rw[ee] at re;subst hKs;rw[aC];rw[aD];generalize hKs:KS _ _ _ _ _=Ks;simp(disch:=omega)only[push_cast,seval];refine Ok.use (eU re) ?_;rintro u wf ⟨rfl,uf⟩;have cf:=ce.upd uf fun h=>h;have bf:=be.upd uf fun h=>h;have hrf:=hre.go (F':=fun b=>b≤cb) aR uf fun b _ h=>h.elim (fun h=>h.elim) id;have vf:=ve.trans uf fun b _ h=>h;have hbf:=hbe.go (F':=fun b=>b≤cb) uf fun b _ h=>h.elim (fun h=>h.elim) id;simp(disch:=omega)only[push_cast,seval];subst hKs;rw[aC];have ba':=bf.setRow (cs':=[.int .i64 c.client,.int .i64 c.seq,.int .i64 c.kind,.slice wva c.ws.length wvc,.int .i64 c.rep,.slice da c.tag.length dc]);have ua:Upd (fun b=>b=w.heap.size) wf (wf.setRow w.heap.size [.int .i64 c.client,.int .i64 c.seq,.int .i64 c.kind,.slice wva c.ws.length wvc,.int .i64 c.rep,.slice da c.tag.length dc].toArray):=Upd.setRow rfl;simp(maxSteps:=3000000)(disch:=omega)only[push_cast,seval,aJ (P:=Tryz.prog) (t:=76) cf (by kernel_rfl) (by kernel_rfl),aP (P:=Tryz.prog) (t:=76) (cs':=[.int .i64 c.client,.int .i64 c.seq,.int .i64 c.kind,.slice wva c.ws.length wvc,.int .i64 c.rep,.slice da c.tag.length dc]) bf (by kernel_rfl) rfl (by simp[Value.oneCell']),aJ (P:=Tryz.prog) (t:=76) ba' (by kernel_rfl) (by kernel_rfl)];have hk1:=(hrf.slD aR).go (F':=fun b=>b<w.heap.size) aR ua fun b _ h=>by omega
  have hk2:=hbf.go (F':=fun b=>b<w.heap.size) ua fun b _ h=>by omega
  exact⟨[.int .i64 c.client,.int .i64 c.seq,.int .i64 c.kind,.slice wva c.ws.length wvc,.int .i64 c.rep,.slice da c.tag.length dc],rfl,⟨_,_,rfl,hk1,hk2,i1,i2,i3,i4,hww,hwt⟩,vf.trans ua fun b h1 h=>by omega⟩
 have hi:i<c.ws.length:=by omega
 have hxi:=List.getElem?_eq_getElem hi;have hwx:=hww _ (List.getElem_mem hi);generalize c.ws[i]=x at *;have hle:=aV (f:=encW) hxi;have htk:=bE (f:=encW) hxi;have gx:=(g5.cast (b:=(encI c.client).length+(encI c.seq).length+(encI c.kind).length+(encU c.ws.length).length) (by omega)).flat hxi;have hlx:(encW x).length=(encB x.o).length+(encB x.d).length:=by simp[encW]
 have hlo:(encB x.o).length=(encU x.o.length).length+x.o.length:=by simp[encB]
 have hld:(encB x.d).length=(encU x.d.length).length+x.d.length:=by simp[encB]
 simp(disch:=omega)only[push_cast,seval];refine Ok.use (tA ra (b:=x.o) (by omega) (gx.left.cast (by omega))) ?_;rintro u wb ⟨rfl,rb,ub⟩;have cb1:=ca.upd ub (by omega);have bb:=ba.upd ub (by omega);have hrb:=hra.go (F':=fun b=>b≤cb) aR ub fun b _ h=>h.elim (fun h=>by omega) id;have vb:=va.trans ub fun b h1 h=>by omega
 have sb:=ub.size;simp(disch:=omega)only[push_cast,seval,WS];have dc:=((Blk.new (w:=wb) (cs:=[.string ByteArray.empty,.slice none 0 0]) (E:=129)).set 0 (.string (strOfNums x.o))).set 1 (.slice none 0 0);have uc:Upd NoB wb (((wb.alloc (.cells #[.string ByteArray.empty,.slice none 0 0] 129 (0,0))).setCell ⟨wb.heap.size,0,none⟩ (.string (strOfNums x.o))).setCell ⟨wb.heap.size,1,none⟩ (.slice none 0 0)):=(Upd.alloc.setNew (Nat.le_refl _)).setNew (Nat.le_refl _);simp only[List.set_cons_succ,List.set_cons_zero] at dc;generalize ((wb.alloc (.cells #[.string ByteArray.empty,.slice none 0 0] 129 (0,0))).setCell ⟨wb.heap.size,0,none⟩ (.string (strOfNums x.o))).setCell ⟨wb.heap.size,1,none⟩ (.slice none 0 0)=wc at *;have hbx:cb<wb.heap.size:=cb1.lt;have rc:=rb.go uc fun _ _ h=>h;have cc:=cb1.upd uc fun h=>h;have bc:=bb.upd uc fun h=>h;have hrc:=hrb.go (F':=fun b=>b≤cb∨b=wb.heap.size) aR uc fun b hb h=>h.elim (fun h=>h.elim) fun h=>h.elim id fun h=>by omega
 have vc:=vb.trans uc fun b h1 h=>h;have sc:=uc.size;have hxc:wb.heap.size<wc.heap.size:=dc.lt;have hownc : ∀g,(Value.slice wva (c.ws.take i).length wvc).ownBlock=some g→g<wb.heap.size:=fun g hg=>hrb.lt hg;refine Ok.use (dK rc (b:=x.d) (by omega) (gx.right.cast (by omega))) ?_;rintro u wd ⟨hbd,hfd,rd,ud⟩;have cd:=cc.upd ud (by omega);have bd:=bc.upd ud (by omega);have dd:=dc.upd ud (by omega);have hrd:=hrc.go (F':=fun b=>b≤cb∨b=wb.heap.size) aR ud fun b _ h=>h.elim (fun h=>.inl (by omega)) id;have vd:=vc.trans ud fun b h1 h=>by omega
 have sd:=ud.size;obtain⟨da,dc',rfl,_⟩:=hbd.form;clear ra ca hra ba va rb cb1 bb hrb vb rc cc bc hrc vc;generalize hxb:wb.heap.size=xb at *;have de:=dd.set 1 (.slice da x.d.length dc');have ue:Upd (fun b=>b=xb) wd (wd.setCell ⟨xb,1,none⟩ (.slice da x.d.length dc')):=Upd.set rfl;have re:=rd.go ue fun b h1 h2=>by omega
 have ce:=cd.upd ue (by omega);have be:=bd.upd ue (by omega);have hre:=hrd.go (F':=fun b=>b≤cb∨b=xb) aR ue fun b _ h=>h.elim .inr id;have ve:=vd.trans ue fun b h1 h=>by omega
 have hbe:=(hbd.upd ue fun b h1 h2=>by have:=hfd b h1; omega).slb (F:=fun b=>(b≤cb∨b=xb)∨(Value.slice wva (c.ws.take i).length wvc).ownBlock=some b) fun g hg h=>by
  have:=hfd g hg;rcases h with (h | h) | h
  ·omega
  ·omega
  ·have:=hownc g h; omega
 have se:(wd.setCell ⟨xb,1,none⟩ (.slice da x.d.length dc')).heap.size=wd.heap.size:=bA;simp only[List.set_cons_succ,List.set_cons_zero] at de;simp(disch:=omega)only[push_cast,seval,dd.cell,dd.free,cd.cell,WT];generalize wd.setCell ⟨xb,1,none⟩ (.slice da x.d.length dc')=we at *;rw[←se];refine WU (x:=x) (cs:=[.string (strOfNums x.o),.slice da x.d.length dc']) hre ⟨_,rfl,hbe,hwx⟩ (fun b h=>by omega) (by simp; omega) ?_;intro v' wf hrf uf ff;have htl:c.ws.take i ++ [x]=c.ws.take (i+1):=by rw[List.take_add_one,hxi]; rfl
 rw[htl] at hrf;obtain⟨va,vc',rfl⟩:=hrf.form;have hof : ∀b,(Value.slice wva (c.ws.take i).length wvc).ownBlock=some b→b≠cb∧¬b<cb∧b≠w.heap.size:=fun b hb=>by have:=hre.free hb; omega
 have rf:=re.go uf fun b h1 h2=>(hof b h2).2.1 h1;have cf:=ce.upd uf fun h=>(hof _ h).1 rfl;have bf:=be.upd uf fun h=>(hof _ h).2.2 rfl;have sf:=uf.size;have vf:=ve.trans uf fun b h1 h2=>by have:=hre.free h2; omega
 simp(disch:=omega)only[push_cast,seval,cf.cell,cf.free];have cg:=cf.set 3 (.slice va (c.ws.take (i+1)).length vc');have ug:Upd (fun b=>b=cb) wf (wf.setCell ⟨cb,3,none⟩ (.slice va (c.ws.take (i+1)).length vc')):=Upd.set rfl;have rg:=rf.go ug fun b h1 h2=>by omega
 have bg:=bf.upd ug (by omega);have hrg':=hrf.go (F':=fun b=>b≤cb) aR ug fun b _ h=>h.elim (fun h=>.inl (by omega)) .inl;have vg:=vf.trans ug fun b h1 h=>by omega
 have sg:=ug.size;simp only[List.set_cons_succ,List.set_cons_zero] at cg;have e:0+(encI c.client).length+(encI c.seq).length+(encI c.kind).length+(encU c.ws.length).length+((c.ws.take i).flatMap encW).length+(encB x.o).length+(encB x.d).length=0+(encI c.client).length+(encI c.seq).length+(encI c.kind).length+(encU c.ws.length).length+((c.ws.take (i+1)).flatMap encW).length:=by rw[htk,List.length_append]; omega
 rw[e] at rg;exact⟨k-1,by omega,i+1,_,by omega,by simp,rg,cg,hrg',bg,vg,by omega⟩
open Go
set_option maxRecDepth 100000
theorem RdN.here {N:Nat}{w:World}{p:Nat}{d:List Int}{at_:Nat}{v:Value}(h:RdN N w p d at_ v):RdN w.heap.size w p d at_ v:=
 ⟨h.rd,h.rd.elim fun _ r=>r.head.lt,fun g hg=>h.rd.elim fun _ r=>r.own.lt hg⟩
theorem RdN.back {N M:Nat}{w w':World}{p:Nat}{d:List Int}{at_ a2:Nat}{v:Value}(h:RdN N w p d at_ v)(h2:RdN M w' p d a2 v):RdN N w' p d a2 v:=⟨h2.rd,h.fp,h.fv⟩
theorem W2 {w:World}{F:Nat→Prop}(hF : ¬F w.heap.size) : ∃w',mkS Tryz.prog 32 (.int .i64 0) (.int .i64 8) w=some (.slice (some ⟨w.heap.size,0,none⟩) 0 8,w')∧RowD eC w' F (.slice (some ⟨w.heap.size,0,none⟩) 0 8) []∧Upd NoB w w'∧w'.heap.size=w.heap.size+1:=by
 have hi : ∃i,Tryz.prog.info? 76=some i∧i.size=6∧i.bytes=80∧i.zero=some (.agg #[.int .i64 0,.int .i64 0,.int .i64 0,.slice none 0 0,.int .i64 0,.slice none 0 0]):=by
  have hs:siz Tryz.prog 76=some 6:=by kernel_rfl
  have hb:=gO;have hz:=bO;unfold siz at hs;unfold byt at hb;unfold zer at hz;cases hi:Tryz.prog.info? 76 with
  | none=>rw[hi] at hs; cases hs
  | some i=>
   rw[hi] at hb hz hs;simp only[Option.map_some,Option.some.injEq,Option.bind_some] at hb hz hs;exact⟨i,rfl,hs,hb,hz⟩
 obtain⟨i,hi,hs,hb,hz⟩:=hi;have hu:Tryz.prog.underlying 32=some (.slice 76):=by kernel_rfl
 have hr:=run_make (P:=Tryz.prog) w 32 76 i _ hu hi hz .i64 .i64 0 8 (Int.le_refl _) (by decide) (by rw[hb]; decide) (by decide);have u1:Upd NoB w (w.alloc (.cells (madeCells (Value.agg #[.int .i64 0,.int .i64 0,.int .i64 0,.slice none 0 0,.int .i64 0,.slice none 0 0]).cells (8*i.size)) 76)):=Upd.alloc;refine⟨_,by unfold mkS lift; rw[hr]; rfl,⟨[],rfl,World.ownsRow_made w _ 8 (Nat.zero_le _) (by unfold maxLen; omega) (by rw[size_madeCells,hs]; rfl),fun j cs x hc=>by simp at hc,fun g hg=>?_⟩,u1,aI⟩;have e:w.heap.size=g:=Option.some.inj hg;rw[←e];exact hF
theorem W3 (a b c:Int)(x:Option Addr)(n m:Nat)(e:Int)(y:Option Addr)(k j:Nat)(w:World):bslS Tryz.prog 32 1 #[(0,.agg #[.int .i64 a,.int .i64 b,.int .i64 c,.slice x n m,.int .i64 e,.slice y k j])] w =
 some (.slice (some ⟨w.heap.size,0,none⟩) 1 1,w.alloc (.cells #[.int .i64 a,.int .i64 b,.int .i64 c,.slice x n m,.int .i64 e,.slice y k j] 76 (0,0))):=by kernel_rfl
theorem mB {w w':World}{F:Nat→Prop}{x:Cmd}{cs:List Value}(h:eC.C w F x cs):bslS Tryz.prog 32 1 #[(0,.agg cs.toArray)] w'=some (.slice (some ⟨w'.heap.size,0,none⟩) 1 1,w'.alloc (.cells cs.toArray 76 (0,0))):=by
 obtain⟨wv,tv,rfl,h1,h2,_⟩:=h;obtain⟨wa,wc,rfl,_⟩:=h1.form;obtain⟨ta,tc,rfl⟩:=h2.form;exact W3 _ _ _ _ _ _ _ _ _ _ _
set_option maxHeartbeats 4000000 in
theorem mC {N:Nat}{w:World}{p:Nat}{d:List Int}{at_:Nat}{v:Value}(h:RdN N w p d at_ v){l:List Cmd}(hl : ∀x,x∈l→CmdW x)(hh:Has d at_ (encL l)) :
 Ok (den Tryz.prog 132 #[.pointer (some ⟨p,0,none⟩)] w) fun u w'=>RowD eC w' (fun b=>b<w.heap.size) u l∧RdN N w' p d (at_+(encL l).length) v∧Upd (fun b=>b=p) w w':=by
 have hd:=h.len;have hle:=hh.le h.le;have hlen:=cJ (l:=l);have hge:l.length≤(l.flatMap fun c=>encB (encC c)).length:=aT fun x=>by have:=aS (encC x).length; simp[encB]; omega
 have r0:=h.here;suffices hs:Ok (den Tryz.prog 132 #[.pointer (some ⟨p,0,none⟩)] w) fun u w'=>RowD eC w' (fun b=>b<w.heap.size) u l∧RdN w.heap.size w' p d (at_+(encL l).length) v∧Upd (fun b=>b=p) w w' by
  refine hs.mono ?_;rintro u w' ⟨h1,h2,h3⟩;exact⟨h1,h.back h2,h3⟩
 clear h;obtain⟨wm,hmk,hm,um,sm⟩:=W2 (w:=w) (F:=fun b=>b<w.heap.size) (by omega);have rm:=r0.go um fun _ _ h=>h;clear r0;refine aB (args:=[.pointer (some ⟨p,0,none⟩)]) rs132 Tryz.func132 rfl mixed (by kernel_rfl) SB rfl ?_;simp(disch:=omega)only[push_cast,seval,hmk];refine Ok.use (gM rm (n:=l.length) (by omega) hh.left (by omega)) ?_;rintro u w1 ⟨rfl,r1,u1⟩;have hm1:=hm.go (F':=fun b=>b<w.heap.size) aA u1 fun b _ h=>h.elim (fun h=>by have:=rm.fp; omega) id;have v1:=(um.mono (G:=fun b=>b=p) fun _ _ h=>h.elim).trans u1 fun _ _ h=>h;simp(disch:=omega)only[push_cast,seval];have hsz:w.heap.size≤w1.heap.size:=v1.size;refine aG (I:=fun k st w'=>Bx (∃(i:Nat) (ov:Value),k+i=l.length∧st = [ov,.int .i64 (k:Int)]∧RdN w.heap.size w' p d (at_+(encU l.length).length+((l.take i).flatMap fun c=>encB (encC c)).length) v∧RowD eC w' (fun b=>b<w.heap.size) ov (l.take i)∧Upd (fun b=>b=p) w w') ⟨⟩) ?_ l.length ⟨0,_,rfl,rfl,by simpa using r1,hm1,v1⟩;clear r1 hm1 v1 u1 hm hmk um rm;rintro k st w2 ⟨i,ov,hk,rfl,r2,hm2,v2⟩;have hp:=r2.fp;have s2:=v2.size;obtain⟨oa,oc,rfl⟩:=hm2.form;by_cases hk0:k=0
 ·subst hk0;obtain rfl:i=l.length:=by omega
  rw[List.take_length] at *;simp(disch:=omega)only[push_cast,seval];have e:at_+(encU l.length).length+(l.flatMap fun c=>encB (encC c)).length=at_+(encL l).length:=by rw[hlen]; omega
  rw[e] at r2;exact⟨hm2,r2,v2⟩
 have hi:i<l.length:=by omega
 have hx:=List.getElem?_eq_getElem hi;have hwx:=hl _ (List.getElem_mem hi);generalize l[i]=x at *;have hle2:=aV (f:=fun c=>encB (encC c)) hx;have htk:=bE (f:=fun c=>encB (encC c)) hx;have htl:l.take i ++ [x]=l.take (i+1):=by rw[List.take_add_one,hx]; rfl
 have hlb:(encB (encC x)).length=(encU (encC x).length).length+(encC x).length:=by simp[encB]
 have gx:=hh.right.flat hx;have ek : ¬(k:Int)≤0:=by omega
 simp(disch:=omega)only[push_cast,seval,ek];refine Ok.use (jA r2) ?_;rintro u w3 ⟨rfl,rfl⟩;simp(disch:=omega)only[push_cast,seval];refine Ok.use (dK r2 (b:=encC x) (by omega) gx) ?_;rintro u w3 ⟨hb3,hf3,r3,u3⟩;have hm3:=hm2.go (F':=fun b=>b<w.heap.size) aA u3 fun b _ h=>h.elim (fun h=>by omega) id;have v3:=v2.trans u3 fun _ _ h=>h;have s3:=u3.size;obtain⟨ba,bc,rfl,_⟩:=hb3.form;simp(disch:=omega)only[push_cast,seval];refine Ok.use (W1 (hb3.slb (F:=fun b=>b<w.heap.size) fun g hg h=>by have:=hf3 g hg; omega) hwx (by omega)) ?_;rintro u w4 ⟨cs,rfl,hc4,u4⟩;have kc:=aA.len hc4;have es:eC.s=6:=rfl;rw[es] at kc;have r4:=r3.go u4 fun _ _ h=>h;have hown : ∀g,(Value.slice oa (l.take i).length oc).ownBlock=some g→g<w2.heap.size:=fun g hg=>hm2.lt hg;have hm4:=hm3.go (F':=fun b=>b<w.heap.size) aA u4 fun b _ h=>h.elim (fun h=>h.elim) id;have v4:=v3.trans u4 fun _ _ h=>h.elim;have s4:=u4.size;have b5:=Blk.new (w:=w4) (cs:=[.int .i64 0,.int .i64 0,.int .i64 0,.slice none 0 0,.int .i64 0,.slice none 0 0]) (E:=76);obtain⟨b6,u6⟩:=gL (w:=w4) (zs:=[.int .i64 0,.int .i64 0,.int .i64 0,.slice none 0 0,.int .i64 0,.slice none 0 0]) (cs:=cs) (E:=76);simp(maxSteps:=3000000)(disch:=omega)only[push_cast,seval,bO,aP (P:=Tryz.prog) (t:=76) (cs':=cs) b5 (by rw[kc]; kernel_rfl) (by rw[kc]; rfl) (aA.one hc4),aJ (P:=Tryz.prog) (t:=76) b6 (by kernel_rfl) (by rw[kc]; kernel_rfl),mB hc4];generalize (w4.alloc (.cells [Value.int .i64 0,.int .i64 0,.int .i64 0,.slice none 0 0,.int .i64 0,.slice none 0 0].toArray 76 (0,0))).setRow w4.heap.size cs.toArray=w6 at *;have hc6:=aA.go (F':=fun b=>b<w.heap.size∨(Value.slice oa (l.take i).length oc).ownBlock=some b) hc4 u6 fun b _ h=>by
  rcases h with h | h | h
  ·exact h.elim
  ·show b<w3.heap.size; omega
  ·have:=hown b h; show b<w3.heap.size; omega
 have r6:=r4.go u6 fun _ _ h=>h;have hm6:=hm4.go (F':=fun b=>b<w.heap.size) aA u6 fun b _ h=>h.elim (fun h=>h.elim) id;have v6:=v4.trans u6 fun _ _ h=>h.elim;have s6:=u6.size;refine mA (x:=x) (cs:=cs) hm6 hc6 (fun b h=>by omega) (by simp; omega) ?_;intro v' w7 hm7 u7 f7;rw[htl] at hm7;obtain⟨va,vc,rfl⟩:=hm7.form;have r7:=r6.go u7 fun b h1 h2=>by have:=hm6.free h2; omega
 have v7:=v6.trans u7 fun b h1 h2=>by have:=hm6.free h2; omega
 have ek3:((k-1:Nat):Int)=(k:Int)-1:=by omega
 simp(disch:=omega)only[push_cast,seval];have e:at_+(encU l.length).length+((l.take i).flatMap fun c=>encB (encC c)).length+(encB (encC x)).length=at_+(encU l.length).length+((l.take (i+1)).flatMap fun c=>encB (encC c)).length:=by rw[htk,List.length_append]; omega
 rw[e] at r7;exact⟨k-1,by omega,i+1,_,by omega,by rw[ek3],r7,hm7,v7⟩
open Go Go.Shelf
set_option maxRecDepth 100000
def layC_ren:Go.Shelf.Ren:=⟨fun | 106=>152 | 213=>169 | 265=>184 | n=>n,fun | 3=>3 | 9=>9 | n=>n,fun n=>n⟩
theorem W4:Go.Proofs.Lays.n106 Tryz.prog layC_ren:={
 mixed:=by kernel_rfl
 f106:=Tryz.func152.trans (congrArg some (by kernel_rfl))
 f213:=Tryz.func169.trans (congrArg some (by kernel_rfl))
 f265:=Tryz.func184.trans (congrArg some (by kernel_rfl))
 t3:=Tryz.underlying3
 a3:=Tryz.isAgg3
 z3:=Tryz.sizeOf3
 v3:=Tryz.zeroValue3
 t9:=Tryz.underlying9
 a9:=Tryz.isAgg9
 z9:=Tryz.sizeOf9
 v9:=Tryz.zeroValue9}
theorem W5 {a b:ByteArray}{w:World}:Ok (den Tryz.prog 152 #[.string a,.string b] w) fun u w'=>u = .int .i64 (Lib.compareBytes a.data.toList b.data.toList)∧w=w':=by
 have h:=Any.strings_Compare W4 a b w;refine⟨(_,_),iG (by kernel_rfl) (h.mono ?_),rfl,rfl⟩;rintro e w' ⟨rfl,rfl⟩;exact⟨rfl,rfl⟩
theorem tD {n:Int}{w:World}:Ok (den Tryz.prog 168 #[.int .i64 n] w) fun u w'=>u = .bool false∧w=w':=by
 refine aB (args:=[.int .i64 n]) rs168 Tryz.func168 rfl mixed (by kernel_rfl) TA rfl ?_;simp(disch:=omega)only[push_cast,seval]
def ordI (a b:Int):Int:=if a<b then -1 else if b<a then 1 else 0
theorem tE {a b:Int}{w:World}:Ok (den Tryz.prog 151 #[.int .i64 a,.int .i64 b] w) fun u w'=>u = .int .i64 (ordI a b)∧w=w':=by
 refine aB (args:=[.int .i64 a,.int .i64 b]) rs151 Tryz.func151 rfl mixed (by kernel_rfl) SW rfl ?_;simp(disch:=omega)only[push_cast,seval];refine Ok.use tD ?_;rintro u w1 ⟨rfl,rfl⟩;simp(disch:=omega)only[push_cast,seval];refine Ok.use tD ?_;rintro u w1 ⟨rfl,rfl⟩;by_cases h1:a<b
 ·simp(disch:=omega)only[push_cast,seval,h1];simp[ordI,h1]
 ·by_cases h2:b<a
  ·simp(disch:=omega)only[push_cast,seval,h1,h2];simp[ordI,h1,h2]
  ·simp(disch:=omega)only[push_cast,seval,h1,h2];simp[ordI,h1,h2]
theorem W6 {a b c:Int}{w:World}{g n:Nat}{E:TypeId}(h:Blk w g [.int .i64 a,.int .i64 b,.int .i64 c] E):Ok (den Tryz.prog 150 #[.slice (some ⟨g,0,none⟩) 3 n] w) fun u w'=>u = .int .i64 (if a≠0 then a else if b≠0 then b else c)∧w=w':=by
 refine aB (args:=[.slice (some ⟨g,0,none⟩) 3 n]) rs150 Tryz.func150 rfl mixed (by kernel_rfl) SV rfl ?_;simp(disch:=omega)only[push_cast,Nat.reduceBEq,Nat.reduceEqDiff,Nat.reduceAdd,Nat.reduceMul,Nat.reduceSub,Nat.reduceLT,Int.reduceToNat,Int.reduceLT,Int.reduceLE,Int.reduceEq,Int.reduceAdd,Int.reduceSub,Int.reduceNeg,Int.reduceMul];refine aG (I:=fun k st w'=>Bx (∃i:Nat,k+i=3∧st = [.int .i64 (i:Int)]∧w=w'∧(0<i→a=0)∧(1<i→b=0)∧(2<i→c=0)) ⟨⟩) ?_ 3 ⟨0,rfl,rfl,rfl,by simp,by simp,by simp⟩;rintro k st w2 ⟨i,hk,rfl,rfl,h0,h1,h2⟩;have hc:i=0∨i=1∨i=2∨i=3:=by omega
 rcases hc with rfl | rfl | rfl | rfl
 ·by_cases ha:a=0
  ·subst ha;simp(disch:=omega)only[push_cast,Nat.reduceBEq,Nat.reduceEqDiff,Nat.reduceAdd,Nat.reduceMul,Nat.reduceSub,Nat.reduceLT,Int.reduceToNat,Int.reduceLT,Int.reduceLE,Int.reduceEq,Int.reduceAdd,Int.reduceSub,Int.reduceNeg,Int.reduceMul,h.cell];exact⟨2,by omega,1,by omega,rfl,by simp,by simp,by simp⟩
  ·simp(disch:=omega)only[push_cast,Nat.reduceBEq,Nat.reduceEqDiff,Nat.reduceAdd,Nat.reduceMul,Nat.reduceSub,Nat.reduceLT,Int.reduceToNat,Int.reduceLT,Int.reduceLE,Int.reduceEq,Int.reduceAdd,Int.reduceSub,Int.reduceNeg,Int.reduceMul,h.cell,ha];simp[ha]
 ·obtain rfl:=h0 (by omega);by_cases hb:b=0
  ·subst hb;simp(disch:=omega)only[push_cast,Nat.reduceBEq,Nat.reduceEqDiff,Nat.reduceAdd,Nat.reduceMul,Nat.reduceSub,Nat.reduceLT,Int.reduceToNat,Int.reduceLT,Int.reduceLE,Int.reduceEq,Int.reduceAdd,Int.reduceSub,Int.reduceNeg,Int.reduceMul,h.cell];exact⟨1,by omega,2,by omega,rfl,by simp,by simp,by simp⟩
  ·simp(disch:=omega)only[push_cast,Nat.reduceBEq,Nat.reduceEqDiff,Nat.reduceAdd,Nat.reduceMul,Nat.reduceSub,Nat.reduceLT,Int.reduceToNat,Int.reduceLT,Int.reduceLE,Int.reduceEq,Int.reduceAdd,Int.reduceSub,Int.reduceNeg,Int.reduceMul,h.cell,hb];simp[hb]
 ·obtain rfl:=h0 (by omega);obtain rfl:=h1 (by omega);by_cases hb:c=0
  ·subst hb;simp(disch:=omega)only[push_cast,Nat.reduceBEq,Nat.reduceEqDiff,Nat.reduceAdd,Nat.reduceMul,Nat.reduceSub,Nat.reduceLT,Int.reduceToNat,Int.reduceLT,Int.reduceLE,Int.reduceEq,Int.reduceAdd,Int.reduceSub,Int.reduceNeg,Int.reduceMul,h.cell];exact⟨0,by omega,3,by omega,rfl,by simp,by simp,by simp⟩
  ·simp(disch:=omega)only[push_cast,Nat.reduceBEq,Nat.reduceEqDiff,Nat.reduceAdd,Nat.reduceMul,Nat.reduceSub,Nat.reduceLT,Int.reduceToNat,Int.reduceLT,Int.reduceLE,Int.reduceEq,Int.reduceAdd,Int.reduceSub,Int.reduceNeg,Int.reduceMul,h.cell,hb];simp
 ·obtain rfl:=h0 (by omega);obtain rfl:=h1 (by omega);obtain rfl:=h2 (by omega);simp(disch:=omega)only[push_cast,Nat.reduceBEq,Nat.reduceEqDiff,Nat.reduceAdd,Nat.reduceMul,Nat.reduceSub,Nat.reduceLT,Int.reduceToNat,Int.reduceLT,Int.reduceLE,Int.reduceEq,Int.reduceAdd,Int.reduceSub,Int.reduceNeg,Int.reduceMul];simp
def ordL (x y:List Int):Int:=Lib.compareBytes (strOfNums x).data.toList (strOfNums y).data.toList
def cmpC (a b:Cmd):Int:=if ordI a.client b.client≠0 then ordI a.client b.client else if ordI a.seq b.seq≠0 then ordI a.seq b.seq else ordL (encC a) (encC b)
theorem mD (a b c:Int)(w:World):bslS Tryz.prog 212 3 #[(0,.int .i64 a),(1,.int .i64 b),(2,.int .i64 c)] w=some (.slice (some ⟨w.heap.size,0,none⟩) 3 3,w.alloc (.cells [.int .i64 a,.int .i64 b,.int .i64 c].toArray 3 (0,0))):=by kernel_rfl
set_option maxHeartbeats 4000000 in
theorem aY {w:World}{G H:Nat→Prop}{c d:Cmd}{cs ds:List Value}(hc:eC.C w G c cs)(hd:eC.C w H d ds)(hl:(encC c).length≤80000000)(hl2:(encC d).length≤80000000) :
 Ok (den Tryz.prog 118 #[.agg cs.toArray,.agg ds.toArray] w) fun u w'=>u = .int .i64 (cmpC c d)∧Upd NoB w w':=by
 refine aB (args:=[.agg cs.toArray,.agg ds.toArray]) rs118 Tryz.func118 rfl mixed (by kernel_rfl) RX rfl ?_;have kc:=aA.len hc;have kd:=aA.len hd;rw[aD];generalize hKs:KS _ _ _ _ _=Ks;simp(disch:=omega)only[push_cast,seval];have b0:=(Blk.new (w:=w) (cs:=cs) (E:=76)).alloc (.cells ds.toArray 76 (0,0));have b1:=Blk.new (w:=w.alloc (.cells cs.toArray 76 (0,0))) (cs:=ds) (E:=76);have u0:Upd NoB w ((w.alloc (.cells cs.toArray 76 (0,0))).alloc (.cells ds.toArray 76 (0,0))):=Upd.alloc.alloc';rw[aI] at b1;generalize (w.alloc (.cells cs.toArray 76 (0,0))).alloc (.cells ds.toArray 76 (0,0))=w2 at *;have lA : ∀{w':World},Upd NoB w2 w'→ldS Tryz.prog 76 (.pointer (some ⟨w.heap.size,0,none⟩)) w'=some (.agg cs.toArray,w'):=fun u=>aJ (P:=Tryz.prog) (t:=76) (b0.upd u (fun h=>h)) (by kernel_rfl) (by rw[kc]; kernel_rfl);have lB : ∀{w':World},Upd NoB w2 w'→ldS Tryz.prog 76 (.pointer (some ⟨w.heap.size+1,0,none⟩)) w'=some (.agg ds.toArray,w'):=fun u=>aJ (P:=Tryz.prog) (t:=76) (b1.upd u (fun h=>h)) (by kernel_rfl) (by rw[kd]; kernel_rfl);have qa : ∀{w':World},Upd NoB w2 w'→∀j,w'.cell? ⟨w.heap.size,j,none⟩=cs[j]? :=fun u j=>(b0.upd u fun h=>h).cell j;have qb : ∀{w':World},Upd NoB w2 w'→∀j,w'.cell? ⟨w.heap.size+1,j,none⟩=ds[j]? :=fun u j=>(b1.upd u fun h=>h).cell j;have hc':=hc;have hd':=hd;obtain⟨wv,tv,rfl,_⟩:=hc';obtain⟨wv',tv',rfl,_⟩:=hd';subst hKs;rw[aC];have v2:Upd NoB w w2.drew:=u0.drew';simp(maxSteps:=3000000)(disch:=omega)only[push_cast,seval,↓aE,↓aF,qa Upd.drew,qb Upd.drew];refine Ok.use tE ?_;rintro v _ ⟨rfl,rfl⟩;simp(maxSteps:=3000000)(disch:=omega)only[push_cast,seval,↓aE,↓aF,qa Upd.drew,qb Upd.drew];refine Ok.use tE ?_;rintro v _ ⟨rfl,rfl⟩;simp(maxSteps:=3000000)(disch:=omega)only[push_cast,seval,↓aE,↓aF,qa Upd.drew,qb Upd.drew,lA Upd.drew,lB Upd.drew];refine Ok.use (iZ (aA.q hc v2) hl) ?_;rintro v w3 ⟨h3,_,u3'⟩;have u3:Upd NoB w2 w3:=Upd.drew.trans u3' fun _ _ h=>h;obtain⟨va,vc,rfl,_⟩:=h3.form;simp(maxSteps:=3000000)(disch:=omega)only[push_cast,seval,↓aE,↓aF,qa Upd.drew,qb Upd.drew,lA Upd.drew,lB Upd.drew,qa u3,qb u3,lB u3,aN (h3.q Upd.refl)];refine Ok.use (iZ (aA.q hd (v2.trans u3' fun _ _ h=>h)) hl2) ?_;rintro v w4 ⟨h4,_,u4⟩;obtain⟨xa,xc,rfl,_⟩:=h4.form;have u4':=u3.trans u4 fun _ _ h=>h;simp(maxSteps:=3000000)(disch:=omega)only[push_cast,seval,↓aE,↓aF,qa Upd.drew,qb Upd.drew,lA Upd.drew,lB Upd.drew,qa u3,qb u3,lB u3,aN (h3.q Upd.refl),qa u4',qb u4',aN (h3.q u4),aN (h4.q Upd.refl),mD];refine Ok.use W5 ?_;rintro v _ ⟨rfl,rfl⟩;have b5:=Blk.new (w:=w4) (cs:=[.int .i64 (ordI c.client d.client),.int .i64 (ordI c.seq d.seq),.int .i64 (Lib.compareBytes (strOfNums (encC c)).data.toList (strOfNums (encC d)).data.toList)]) (E:=3);have u5:Upd NoB w4 (w4.alloc (.cells [.int .i64 (ordI c.client d.client),.int .i64 (ordI c.seq d.seq),.int .i64 (Lib.compareBytes (strOfNums (encC c)).data.toList (strOfNums (encC d)).data.toList)].toArray 3 (0,0))):=Upd.alloc;simp(maxSteps:=3000000)(disch:=omega)only[push_cast,seval,↓aE,↓aF,qa Upd.drew,qb Upd.drew,lA Upd.drew,lB Upd.drew,qa u3,qb u3,lB u3,aN (h3.q Upd.refl),qa u4',qb u4',aN (h3.q u4),aN (h4.q Upd.refl),mD];refine Ok.use (W6 b5) ?_;rintro v _ ⟨rfl,rfl⟩;simp(maxSteps:=3000000)(disch:=omega)only[push_cast,seval,↓aE,↓aF,qa Upd.drew,qb Upd.drew,lA Upd.drew,lB Upd.drew,qa u3,qb u3,lB u3,aN (h3.q Upd.refl),qa u4',qb u4',aN (h3.q u4),aN (h4.q Upd.refl),mD];exact⟨rfl,((v2.trans u3' fun _ _ h=>h).trans u4 fun _ _ h=>h).trans u5 fun _ _ h=>h⟩
def SrtC (l:List Cmd):Prop:=∀(i:Nat) (x y:Cmd),l[i]? =some x→l[i+1]? =some y→cmpC x y<0
set_option maxHeartbeats 4000000 in
theorem mE {N:Nat}{w:World}{p:Nat}{d:List Int}{at_:Nat}{v:Value}(h:RdN N w p d at_ v){l:List Cmd}(hl : ∀x,x∈l→CmdW x)(hs:SrtC l)(hh:Has d at_ (encL l)) :
 Ok (den Tryz.prog 80 #[.pointer (some ⟨p,0,none⟩)] w) fun u w'=>RowD eC w' (fun b=>b<w.heap.size) u l∧RdN N w' p d (at_+(encL l).length) v∧Upd (fun b=>b=p) w w':=by
 have hd:=h.len;have hle:=hh.le h.le;have hlen:=cJ (l:=l);have hge:l.length≤(l.flatMap fun c=>encB (encC c)).length:=aT fun x=>by have:=aS (encC x).length; simp[encB]; omega
 have hel : ∀i x,l[i]? =some x→(encC x).length≤80000000:=fun i x hx=>by
  have h1:=aV (f:=fun c=>encB (encC c)) hx;have h2:(encB (encC x)).length=(encU (encC x).length).length+(encC x).length:=by simp[encB]
  omega
 refine aB (args:=[.pointer (some ⟨p,0,none⟩)]) rs80 Tryz.func80 rfl mixed (by kernel_rfl) QV rfl ?_;simp(disch:=omega)only[push_cast,seval];refine Ok.use (mC h hl hh) ?_;rintro u w1 ⟨hm,r1,u1⟩;obtain⟨va,vc,rfl⟩:=hm.form;simp(disch:=omega)only[push_cast,seval];refine aG (I:=fun k st w'=>Bx (∃i:Nat,k+i=l.length+1∧1≤i∧st = [.int .i64 (i:Int)]∧Upd NoB w1 w') ⟨⟩) ?_ l.length ⟨1,rfl,by omega,rfl,Upd.refl⟩;rintro k st w2 ⟨i,hk,hi1,rfl,u2⟩;have hm2:=hm.go (F':=fun b=>b<w.heap.size) aA u2 fun b _ h=>h.elim (fun h=>h.elim) id;have hsl:=hm2.slD aA;by_cases hi:l.length≤i
 ·simp(disch:=omega)only[push_cast,seval];exact⟨hm2,r1.go u2 fun _ _ h=>h,u1.trans u2 fun _ _ h=>h.elim⟩
 obtain⟨j,rfl⟩ : ∃j,i=j+1:=⟨i-1,by omega⟩;have hx:=List.getElem?_eq_getElem (l:=l) (i:=j) (by omega);have hy:=List.getElem?_eq_getElem (l:=l) (i:=j+1) (by omega);generalize l[j]=x at *;generalize l[j+1]=y at *;have hlt:=hs j x y hx hy;obtain⟨xb,xo,xc,xcs,hv,hxl,_,hcx,hcell⟩:=hsl.at_ hx;injection hv with e1 _ e3;subst e1;subst e3;obtain⟨yb,yo,yc,ycs,hv,hyl,_,hcy,hcell'⟩:=hsl.at_ hy;injection hv with e1 _ e3;injection e1 with e1;injection e1 with e1 e2;subst e1;subst e2;have es:eC.s=6:=rfl;rw[es] at hcell hcell';have l1:=ldC (w:=w2.drew) (aA.q hcx Upd.drew) hcell;have l2:=ldC (w:=w2.drew) (aA.q hcy Upd.drew) hcell';have ej:((j:Int)+1-1).toNat=j:=by omega
 have ej':((j:Int)+1).toNat=j+1:=by omega
 have hnl : ¬(0:Int)≤cmpC x y:=by omega
 simp(maxSteps:=3000000)(disch:=omega)only[push_cast,seval,ej,ej',l1,l2];refine Ok.use (aY (aA.q hcx Upd.drew) (aA.q hcy Upd.drew) (hel _ _ hx) (hel _ _ hy)) ?_;rintro u w3 ⟨rfl,u3⟩;simp(maxSteps:=3000000)(disch:=omega)only[push_cast,seval,ej,ej',l1,l2,hnl];exact⟨k-1,by omega,j+1+1,by omega,by omega,by simp,(u2.trans (Upd.drew (F:=NoB)) fun _ _ h=>h).trans u3 fun _ _ h=>h⟩
end Go.Proofs.YtpgigkceoolgeaaGreatDoor.Fd
