import Derived.Test.YtpgigkceoolgeaaGreatDoorY33
set_option linter.all false
namespace Go.Proofs.YtpgigkceoolgeaaGreatDoor.Fd
open Go
set_option maxRecDepth 100000
structure CmdB (x : Cmd) : Prop where
 w:CmdW x
 l:(encC x).length≤2000
theorem CmdB.s {x:Cmd} (h:CmdB x):CmdS x:=⟨h.w,by have:=h.l; omega⟩
theorem flatC_le : ∀{l:List Cmd},(∀x,x∈l→CmdB x)→(l.flatMap fun c=>encB (encC c)).length≤l.length*2010
 | [],_=>Nat.zero_le _
 | x :: l,h=>by
   have:=flatC_le (l:=l) fun y hy=>h y (List.mem_cons_of_mem _ hy)
   have hx:=(h x List.mem_cons_self).l
   have h10:=encU_len10 (n:=(encC x).length) (by omega)
   rw [List.flatMap_cons,List.length_append,List.length_cons,Nat.add_mul]
   have:(encB (encC x)).length=(encU (encC x).length).length+(encC x).length:=by simp [encB]
   omega
theorem encL_le {l:List Cmd} (h : ∀x,x∈l→CmdB x) (hl:l.length≤1000000):(encL l).length≤10+l.length*2010:=by
 rw [encL_len]
 have:=encU_len10 (n:=l.length) (by omega)
 have:=flatC_le h
 omega
structure BasB (b : Bas) : Prop where
 w:BasW b
 t : ∀x,x∈b.taken→CmdB x
 to:SrtC b.taken
 tl:b.taken.length≤8
 l:(encBs b).length≤200000
theorem confB_le {b:Bas}:(confB b).length≤(encBs b).length:=by
 unfold confB
 cases h:b.steps.getLast? with
 | none=>exact Nat.zero_le _
 | some s=>
   have hm:s∈b.steps:=List.mem_of_getLast? h
   have h1:=encBs_mem hm
   have h2:=encL_ge (l:=s.c.conf)
   have h3:=encK_len (c:=s.c)
   have h4:=encT_len (s:=s)
   show s.c.conf.length≤_
   omega
theorem BasB.s {b:Bas} (h:BasB b):BasS b:=by
 have h1:=confB_le (b:=b)
 have h2:=encBs_ge (b:=b)
 have h3:=h.l
 have h4:=h.tl
 exact ⟨h.w,fun x hx=>(h.t x hx).s,h.to,by omega,by omega,by omega⟩
structure SmN (t : Nat) (n : Con) : Prop where
 s : ∀x,x∈n.st→CmdB x
 o:SrtC n.st
 sl:n.st.length≤8*t
 b:BasB n.bas
 l0:0≤n.life
 l1:n.life≤4611686018427387904
theorem SmN.cons {t:Nat} {n:Con} (h:SmN t n) (ht:t≤30):ConS n:=by
 have hb:=h.b.s
 have:=h.sl
 exact ⟨⟨fun x hx=>(h.s x hx).w,h.b.w,h.l0,h.l1⟩,fun x hx=>(h.s x hx).s,h.o,hb.ts,hb.to,by omega,hb.bl,hb.cl⟩
theorem SmN.len {t:Nat} {n:Con} (h:SmN t n) (ht:t≤30):(encCn n).length≤700000:=by
 have h1:=h.sl
 have h2:=h.b.l
 have h3:=encL_le h.s (by omega)
 have h4:=h.l1
 have h5:=encU_len10 (n:=n.life.toNat) (by omega)
 rw [encCn_len]
 have:n.st.length*2010≤240*2010:=Nat.mul_le_mul_right _ (by omega)
 omega
theorem SmN.mono {t t':Nat} {n:Con} (h:SmN t n) (ht:t≤t'):SmN t' n:=⟨h.s,h.o,by have:=h.sl; omega,h.b,h.l0,h.l1⟩
theorem basB0:BasB ⟨[],[]⟩:=⟨basW_nil,fun x h=>by simp at h,srtC_nil,by decide,by
 rw [encBs_len]
 have:=encU_len10 (n:=0) (by decide)
 simp only [encL,List.flatMap_nil,List.length_nil,List.append_nil]
 omega⟩
theorem smN0:SmN 0 con0:=⟨fun x h=>by simp [con0] at h,srtC_nil,Nat.zero_le _,basB0,Int.le_refl 0,by show (0:Int)≤_; omega⟩
theorem SmN.join {t:Nat} {n:Con} (h:SmN t n) {l:List Cmd} (hl : ∀x,x∈l→CmdB x) (hn:l.length≤8):SmN (t+1) (joinN n l):=by
 have hm:=fun x=>joinN_mem (n:=n) (l:=l) (fun x hx=>(h.s x hx).s) (fun x hx=>(hl x hx).s) (x:=x)
 have hlen:(joinN n l).st.length≤(n.st ++ l).length:=ofC_len
 rw [List.length_append] at hlen
 have:=h.sl
 exact ⟨fun x hx=>((hm x).1 hx).elim (h.s x) (hl x),ofC_srt fun x hx=>(List.mem_append.1 hx).elim (fun hx=>(h.s x hx).s) fun hx=>(hl x hx).s,by omega,h.b,h.l0,h.l1⟩
theorem SmN.reb {t:Nat} {n:Con} (h:SmN t n) {b:Bas} (hb:BasB b):SmN (t+1) (rebN n b):=by
 have hj:=h.join hb.t hb.tl
 refine ⟨hj.s,hj.o,hj.sl,?_,h.l0,h.l1⟩
 show BasB (if (confB n.bas).length<(confB b).length then b else n.bas)
 split
 · exact hb
 · exact h.b
theorem SmN.liv {t:Nat} {n:Con} (h:SmN t n) (hl : ¬4611686018427387904≤n.life):SmN t {n with life:=n.life+1}:=⟨h.s,h.o,h.sl,h.b,by have:=h.l0; show 0≤n.life+1; omega,by show n.life+1≤_; omega⟩
inductive POp where
 | ext (l:List Cmd)
 | reb (b:Bas)
 | liv
 | cmp
def POpB:POp→Prop
 | .ext l=>(∀x,x∈l→CmdB x)∧l.length≤6
 | .reb b=>BasB b
 | .liv=>True
 | .cmp=>True
noncomputable def lop (s:LS):POp→LS×Int
 | .ext l=>lextend s l
 | .reb b=>lrebase s b
 | .liv=>llive s
 | .cmp=>lcompact s
noncomputable def rop (area room:Nat) (m:Con×List (List Int)):POp→(Con×List (List Int))×Int
 | .ext l=>rextend area room m l
 | .reb b=>rrebase area room m b
 | .liv=>rlive area room m
 | .cmp=>rcompact room m
theorem rchange_sm {t area room:Nat} {m:Con×List (List Int)} {n':Con} {rec:List Int} (h:SmN t m.1) (h':SmN t n'):SmN t (rchange area room m n' rec).1.1:=by
 unfold rchange
 split
 · exact h'
 · split
   · exact h
   · exact h'
theorem minB {l m:List Cmd} (h : ∀x,x∈l→CmdB x) : ∀x,x∈minC l m→CmdB x:=fun x hx=>h x (minC_sub (fun y hy=>(h y hy).s) hx)
theorem rop_sm {t area room:Nat} {m:Con×List (List Int)} (h:SmN t m.1) {o:POp} (ho:POpB o):SmN (t+1) (rop area room m o).1.1:=by
 have h1:=h.mono (t':=t+1) (by omega)
 cases o with
 | ext l=>
   show SmN (t+1) (rextend area room m l).1.1
   unfold rextend
   split
   · exact h1
   · exact rchange_sm h1 (h.join (minB ho.1) (by have:=minC_len (l:=l) (m:=m.1.st); have:=ho.2; omega))
 | reb b=>
   show SmN (t+1) (rrebase area room m b).1.1
   unfold rrebase
   split
   · exact h1
   · exact rchange_sm h1 (h.reb ho)
 | liv=>
   show SmN (t+1) (rlive area room m).1.1
   unfold rlive
   split
   · exact h1
   · rename_i hl
     exact rchange_sm h1 (h1.liv hl)
 | cmp=>
   show SmN (t+1) (rcompact room m).1.1
   unfold rcompact
   split <;> exact h1
theorem op_spec {N sz first count G t:Nat} (g:Geo N sz first count) {s:LS} {rs:List Rec} {n0:Con} (h:Up N sz first count G s rs n0) (hG:G<4611686018427387904) (hs:SmN t s.n) (ht:t≤28) {o:POp} (ho:POpB o) :
   OpR N sz first count (G+1) s (rop (areaG sz count) (roomG sz count) (s.n,rs.map encRc) o) (lop s o):=by
 cases o with
 | ext l=>exact extend_spec g h (fun x hx=>(ho.1 x hx).s) (by have:=ho.2; omega) ((hs.join (minB ho.1) (by have:=minC_len (l:=l) (m:=s.n.st); have:=ho.2; omega)).cons (by omega)) hG
 | reb b=>exact rebase_spec g h (BasB.s ho) ((hs.reb ho).cons (by omega)) hG
 | liv=>
   by_cases hl:4611686018427387904≤s.n.life
   · show OpR N sz first count (G+1) s (rlive _ _ _) (llive s)
     unfold rlive llive
     rw [if_neg (show ¬s.dn=true by rw [h.dn]; decide)]
     dsimp only
     rw [if_pos hl,if_pos hl]
     exact .inl ⟨rfl,rfl,⟨rs,n0,h.mono (by omega),rfl⟩,by dsimp only; decide,id⟩
   · exact live_spec g h ((hs.liv hl).cons (by omega)) hG
 | cmp=>exact compact_spec g h hG
open Go
set_option maxRecDepth 100000
theorem hext_ok {w:World} {D J:Nat→Prop} {p lb jb cb:Nat} {s:LS} (h:LW w D J p lb jb cb s) {N sz i t:Nat} (hb:LB N sz i s) (hi:i≤300000) (hs:SmN t s.n) (ht:t≤28) {y:Value} {l:List Cmd} (hy:SlD eC w (FF D J) y l) (ho:POpB (.ext l)) :
   Ok (den Tryz.prog 34 #[.pointer (some ⟨lb,0,none⟩),y] w) fun u w'=>u = .int .i64 (lop s (.ext l)).2∧∃D',LW w' D' J p lb jb cb (lop s (.ext l)).1∧LT w w' D D' J:=by
 have hm:=minB (m:=s.n.st) ho.1
 have hml:=minC_len (l:=l) (m:=s.n.st)
 have ho2:=ho.2
 have hj:=hs.join hm (by omega)
 have h1:=hj.len (by omega)
 have h2:=encL_le hm (by omega)
 have h3:(minC l s.n.st).length*2010≤6*2010:=Nat.mul_le_mul_right _ (by omega)
 exact lextend_ok h hb hi (hs.cons (by omega)) hy (fun x hx=>(ho.1 x hx).s) (by omega) (by omega) (by omega)
theorem hreb_ok {w:World} {D J:Nat→Prop} {p lb jb cb:Nat} {s:LS} (h:LW w D J p lb jb cb s) {N sz i t:Nat} (hb:LB N sz i s) (hi:i≤300000) (hs:SmN t s.n) (ht:t≤28) {b:Bas} {bs:List Value} (hy:eB.C w (FF D J) b bs) (ho:BasB b) :
   Ok (den Tryz.prog 35 #[.pointer (some ⟨lb,0,none⟩),.agg bs.toArray] w) fun u w'=>u = .int .i64 (lop s (.reb b)).2∧∃D',LW w' D' J p lb jb cb (lop s (.reb b)).1∧LT w w' D D' J:=by
 have h1:=(hs.reb ho).len (by omega)
 have h2:=ho.l
 exact lrebase_ok h hb hi (hs.cons (by omega)) hy ho.s (by omega) (by omega)
theorem hliv_ok {w:World} {D J:Nat→Prop} {p lb jb cb:Nat} {s:LS} (h:LW w D J p lb jb cb s) {N sz i t:Nat} (hb:LB N sz i s) (hi:i≤300000) (hs:SmN t s.n) (ht:t≤28) :
   Ok (den Tryz.prog 33 #[.pointer (some ⟨lb,0,none⟩)] w) fun u w'=>u = .int .i64 (lop s .liv).2∧∃D',LW w' D' J p lb jb cb (lop s .liv).1∧LT w w' D D' J:=by
 have h1:=hs.len (by omega)
 have h2:=encCn_len (c:=s.n)
 have h0:=hs.l1
 have h3:=encU_len10 (n:=(s.n.life+1).toNat) (by omega)
 refine llive_ok h hb hi (hs.cons (by omega)) ?_
 rw [encCn_len]
 show (encU (s.n.life+1).toNat).length+(encBs s.n.bas).length+(encL s.n.st).length≤1000000
 omega
theorem hcmp_ok {w:World} {D J:Nat→Prop} {p lb jb cb:Nat} {s:LS} (h:LW w D J p lb jb cb s) {N sz i t:Nat} (hb:LB N sz i s) (hi:i≤300000) (hs:SmN t s.n) (ht:t≤28) :
   Ok (den Tryz.prog 36 #[.pointer (some ⟨lb,0,none⟩)] w) fun u w'=>u = .int .i64 (lop s .cmp).2∧∃D',LW w' D' J p lb jb cb (lop s .cmp).1∧LT w w' D D' J:=by
 have h1:=hs.len (by omega)
 exact lcompact_ok h hb hi (by omega)
theorem LT.new_ {w w1 w2:World} {D D' J:Nat→Prop} (h:LT w1 w2 D D' J) (hD : ∀b,D b→w.heap.size≤b) (hJ : ∀b,J b→w.heap.size≤b) (hu:Upd NoB w w1):Upd NoB w w2∧∀b,D' b→w.heap.size≤b:=by
 have hs:=hu.size
 refine ⟨hu.trans h.upd fun b hb hh=>?_,fun b hb=>?_⟩
 · rcases hh with hh | hh
   · have:=hD b hh; omega
   · have:=hJ b hh; omega
 · rcases h.new b hb with hh | hh
   · exact hD b hh
   · omega
def cmd0:Cmd:=⟨1,1,2,[],0,[]⟩
theorem encC_cmd0:(encC cmd0).length≤60:=by
 have h : ∀n:Int,I64 n→(encI n).length≤10:=fun n h=>encI_len h
 have h1:=h 1 ⟨by decide,by decide⟩
 have h2:=h 2 ⟨by decide,by decide⟩
 have h0:=h 0 ⟨by decide,by decide⟩
 have h3:=encU_len10 (n:=0) (by decide)
 show (encI 1 ++ encI 1 ++ encI 2 ++ encU 0 ++ [] ++ encI 0 ++ (encU 0 ++ [])).length≤60
 simp only [List.length_append,List.length_nil]
 omega
theorem cmd0B:CmdB cmd0:=⟨⟨⟨by decide,by decide⟩,⟨by decide,by decide⟩,⟨by decide,by decide⟩,⟨by decide,by decide⟩,fun x h=>by simp [cmd0] at h,fun x h=>by simp [cmd0] at h⟩,by have:=encC_cmd0; omega⟩
theorem cmd0s : ∀x,x∈[cmd0]→CmdB x:=fun x h=>by simp at h; subst h; exact cmd0B
theorem srt_one {x:Cmd}:SrtC [x]:=fun i a b h1 h2=>by simp at h2
theorem ofC_cmd0:ofC [cmd0] = [cmd0]:=ofC_id (fun x h=>(cmd0s x h).s) srt_one
theorem min_cmd0:minC [cmd0] [] = [cmd0]:=by
 unfold minC
 rw [ofC_cmd0,show ofC [] = [] from rfl]
 simp
theorem encL_cmd0:(encL [cmd0]).length≤80:=by
 rw [encL_len]
 have h1:=encC_cmd0
 have h2:=encU_len10 (n:=[cmd0].length) (by decide)
 have h3:=encU_len10 (n:=(encC cmd0).length) (by omega)
 simp only [List.flatMap_cons,List.flatMap_nil,List.append_nil,encB,List.length_append]
 omega
theorem stream1_le {l:List Int} (h:l.length≤1000):(stream [l]).length≤10+l.length:=by
 have:=encU_len10 (n:=l.length) (by omega)
 simp only [stream,List.flatMap_cons,List.flatMap_nil,List.append_nil,encB,List.length_append]
 omega
theorem encRc_liv {k:Nat} (h:k≤10):(encRc (.liv k)).length≤20:=by
 have h1:=encU_len10 (n:=3) (by decide)
 have h2:=encU_len10 (n:=k) (by omega)
 show (encU 3 ++ encU k).length≤20
 rw [List.length_append]; omega
def con1:Con:=⟨[],⟨[],[]⟩,1⟩
def con2:Con:=⟨[cmd0],⟨[],[]⟩,1⟩
def con3:Con:=⟨[cmd0],⟨[],[]⟩,2⟩
theorem aw1:rop (areaG 64 16) (roomG 64 16) (con0,[]) .liv=((con1,[encRc (.liv 1)]),0):=by
 show rlive _ _ _=_
 unfold rlive
 rw [if_neg (by decide)]
 unfold rchange
 rw [if_pos]
 · rfl
 · have h1:=encRc_liv (k:=1) (by decide)
   have h2:=stream1_le (l:=encRc (.liv 1)) (by omega)
   show (stream [encRc (.liv 1)]).length≤448
   omega
theorem aw2:rop (areaG 64 16) (roomG 64 16) (con1,[encRc (.liv 1)]) (.ext [cmd0])=((con2,[encRc (.liv 1),encRc (.ext [cmd0])]),0):=by
 show rextend _ _ _ _=_
 unfold rextend
 rw [show (con1,[encRc (.liv 1)]).1.st = [] from rfl,min_cmd0,if_neg (by simp)]
 unfold rchange
 have e:joinN con1 [cmd0]=con2:=by
   unfold joinN con2 con1
   rw [List.nil_append,ofC_cmd0]
 rw [if_pos,e]
 · rfl
 · have h1:=encRc_liv (k:=1) (by decide)
   have h2:=stream1_le (l:=encRc (.liv 1)) (by omega)
   have h3:=encL_cmd0
   have h4:=encU_len10 (n:=1) (by decide)
   have h5:(encRc (.ext [cmd0])).length≤90:=by
     show (encU 1 ++ encL [cmd0]).length≤90
     rw [List.length_append]; omega
   have h6:=stream1_le (l:=encRc (.ext [cmd0])) (by omega)
   show (stream ([encRc (.liv 1)] ++ [encRc (.ext [cmd0])])).length≤448
   rw [stream_append,List.length_append]
   omega
theorem aw3 {m:List (List Int)}:rop (areaG 64 16) (roomG 64 16) (con2,m) (.reb ⟨[],[]⟩)=((con2,m),11):=by
 show rrebase _ _ _ _=_
 unfold rrebase
 exact if_pos (Nat.le_refl _)
theorem aw4 {m:List (List Int)}:rop (areaG 64 16) (roomG 64 16) (con2,m) .cmp=((con2,[]),0):=by
 show rcompact _ _=_
 unfold rcompact
 rw [if_neg]
 have h1:=encL_cmd0
 have h2:=basB0
 have h3:(encBs ⟨[],[]⟩).length≤20:=by
   rw [encBs_len]
   have:=encU_len10 (n:=0) (by decide)
   simp only [encL,List.flatMap_nil,List.length_nil,List.append_nil]
   omega
 have h4:=encU_len10 (n:=(1:Int).toNat) (by decide)
 show ¬192<(encCn con2).length
 rw [encCn_len]
 show ¬192<(encU (1:Int).toNat).length+(encBs ⟨[],[]⟩).length+(encL [cmd0]).length
 omega
theorem aw5:rop (areaG 64 16) (roomG 64 16) (con2,[]) .liv=((con3,[encRc (.liv 2)]),0):=by
 show rlive _ _ _=_
 unfold rlive
 rw [if_neg (by decide)]
 unfold rchange
 rw [if_pos]
 · rfl
 · have h1:=encRc_liv (k:=2) (by decide)
   have h2:=stream1_le (l:=encRc (.liv 2)) (by omega)
   show (stream [encRc (.liv 2)]).length≤448
   omega
theorem op_calm {N sz first count G t:Nat} (g:Geo N sz first count) {s:LS} {rs:List Rec} {n0:Con} (h:Up N sz first count G s rs n0) (hG:G<4611686018427387904) (hs:SmN t s.n) (ht:t≤28) {o:POp} (ho:POpB o) (hc:s.d.cnt=none) {m:(Con×List (List Int))×Int} (hm:rop (areaG sz count) (roomG sz count) (s.n,rs.map encRc) o=m) :
   (lop s o).2=m.2∧(lop s o).1.n=m.1.1∧(∃rs n0,Up N sz first count (G+1) (lop s o).1 rs n0∧rs.map encRc=m.1.2)∧(lop s o).1.d.cnt=none∧SmN (t+1) (lop s o).1.n:=by
 have o1:=op_spec g h hG hs ht ho
 have hsm:=rop_sm (area:=areaG sz count) (room:=roomG sz count) (m:=(s.n,rs.map encRc)) hs ho
 rw [hm] at o1 hsm
 rcases o1 with ⟨e1,en1,hu,_,c1⟩ | ⟨_,_,_,_,hh⟩
 · exact ⟨e1,en1,hu,c1 hc,by rw [en1]; exact hsm⟩
 · exact absurd hc hh
theorem bld_cmd0 (w:World):bldS Tryz.prog 76 #[(0,.int .i64 1),(1,.int .i64 1),(2,.int .i64 2)] w=some (.agg #[.int .i64 1,.int .i64 1,.int .i64 2,.slice none 0 0,.int .i64 0,.slice none 0 0],w):=by kernel_rfl
theorem bsl_cmd0 (w:World):bslS Tryz.prog 32 1 #[(0,.agg #[.int .i64 1,.int .i64 1,.int .i64 2,.slice none 0 0,.int .i64 0,.slice none 0 0])] w=some (.slice (some ⟨w.heap.size,0,none⟩) 1 1,w.alloc (.cells #[.int .i64 1,.int .i64 1,.int .i64 2,.slice none 0 0,.int .i64 0,.slice none 0 0] 76 (0,0))):=by kernel_rfl
theorem bld_bas0 (w:World):bldS Tryz.prog 35 #[] w=some (.agg #[.slice none 0 0,.slice none 0 0],w):=by kernel_rfl
theorem fgt_bas0 {a b:Option Addr} {n c n' c':Nat} {w:World}:fgtS Tryz.prog 35 (.agg #[.slice a n c,.slice b n' c']) 0 w=some (.slice a n c,w):=by kernel_rfl
set_option maxHeartbeats 8000000 in
theorem awake_ok {w:World} (hK:KT w):Ok (den Tryz.prog 8 #[] w) fun v w'=>v = .bool true∧Upd (fun _=>False) w w':=by
 refine den_ok (args:=[]) rs8 Tryz.func8 rfl mixed in8 ok8 rfl ?_
 simp (maxSteps:=3000000) (disch:=omega) only [push_cast,seval]
 refine Ok.use (new_ok (n:=16) (size:=64) (by omega) (by omega) (by omega) (by omega)) ?_
 rintro v w1 ⟨p,rfl,hd,u1⟩
 have hgr : ∀b,gr (fun _=>False) w w1 b→w.heap.size≤b:=fun b hb=>hb.elim (fun h=>h.elim) fun h=>h.1
 have hk1:=hK.1
 have g:Geo 16 64 0 16:=⟨by decide,by decide,by decide,by decide,by decide,by decide,by decide⟩
 simp (maxSteps:=3000000) (disch:=omega) only [push_cast,seval]
 refine Ok.use (lopen_fnd (hK.upd u1 fun h=>h) hd (fun h=>by have:=hgr 1 h; omega) g WfD.new rfl (by decide) (new_fnd g)) ?_
 rintro v w2 ⟨lb,jb,cb,J,s,rfl,hJ,hL,u2,hsd,hsn,hU⟩
 simp (maxSteps:=3000000) (disch:=omega) only [push_cast,seval]
 refine Ok.use (lLife_ok hL) ?_
 rintro v w3 ⟨rfl,rfl⟩
 rw [hsn]
 rw [show con0.life=0 from rfl]
 have hcn:s.d.cnt=none:=by rw [hsd]; rfl
 have hs0:SmN 0 s.n:=by rw [hsn]; exact smN0
 -- Live
 obtain ⟨e1,en1,⟨rs1,k1,hU1,er1⟩,c1,sm1⟩:=op_calm g hU (by decide) hs0 (by decide) (o:=.liv) trivial hcn (m:=((con1,[encRc (.liv 1)]),0)) (by rw [hsn]; exact aw1)
 simp (maxSteps:=3000000) (disch:=omega) only [push_cast,seval]
 refine Ok.use (hliv_ok hL (hU.lb g) (by decide) hs0 (by decide)) ?_
 rintro v w3 ⟨rfl,D3,h3,l3⟩
 rw [e1]
 generalize (lop s .liv).1=s1 at *
 dsimp only at en1 er1 sm1
 -- Extend
 simp (maxSteps:=3000000) (disch:=omega) only [push_cast,seval,bld_cmd0,bsl_cmd0]
 have b4:=Blk.new (w:=w3) (cs:=[.int .i64 1,.int .i64 1,.int .i64 2,.slice none 0 0,.int .i64 0,.slice none 0 0]) (E:=76)
 have u4:Upd NoB w3 (w3.alloc (.cells #[.int .i64 1,.int .i64 1,.int .i64 2,.slice none 0 0,.int .i64 0,.slice none 0 0] 76 (0,0))):=Upd.alloc
 generalize w3.alloc (.cells #[.int .i64 1,.int .i64 1,.int .i64 2,.slice none 0 0,.int .i64 0,.slice none 0 0] 76 (0,0))=w4 at *
 have h4:=h3.quiet u4
 have hsl:SlD eC w4 (FF D3 J) (.slice (some ⟨w3.heap.size,0,none⟩) 1 1) [cmd0]:=⟨_,_,rfl,Nat.le_refl _,fun _=>⟨_,_,rfl,b4.lt,fun hh=>by have:=h3.bd hh; omega,fun j x hx=>by
   cases j with
   | succ j=>simp at hx
   | zero=>
     simp at hx
     subst hx
     exact ⟨[.int .i64 1,.int .i64 1,.int .i64 2,.slice none 0 0,.int .i64 0,.slice none 0 0],⟨_,_,rfl,SlD.nil,⟨none,0,rfl,fun h=>absurd rfl h⟩,cmd0B.w⟩,fun r hr=>by
       have:=b4.cell r
       rw [Nat.zero_mul,Nat.add_zero,Nat.zero_add]
       exact this⟩⟩⟩
 have ho2:POpB (.ext [cmd0]):=⟨cmd0s,by decide⟩
 obtain ⟨e2,en2,⟨rs2,k2,hU2,er2⟩,c2,sm2⟩:=op_calm g hU1 (by decide) sm1 (by decide) (o:=.ext [cmd0]) ho2 c1 (m:=((con2,[encRc (.liv 1),encRc (.ext [cmd0])]),0)) (by rw [en1,er1]; exact aw2)
 refine Ok.use (hext_ok h4 (hU1.lb g) (by decide) sm1 (by decide) hsl ho2) ?_
 rintro v w5 ⟨rfl,D5,h5,l5⟩
 rw [e2]
 generalize (lop s1 (.ext [cmd0])).1=s2 at *
 dsimp only at en2 er2 sm2
 -- Rebase
 simp (maxSteps:=3000000) (disch:=omega) only [push_cast,seval,bld_bas0]
 obtain ⟨e3,en3,⟨rs3,k3,hU3,er3⟩,c3,sm3⟩:=op_calm g hU2 (by decide) sm2 (by decide) (o:=.reb ⟨[],[]⟩) basB0 c2 (m:=((con2,[encRc (.liv 1),encRc (.ext [cmd0])]),11)) (by rw [en2,er2]; exact aw3)
 refine Ok.use (hreb_ok h5 (hU2.lb g) (by decide) sm2 (by decide) (b:=⟨[],[]⟩) (bs:=[.slice none 0 0,.slice none 0 0]) ⟨_,_,rfl,SlD.nil,SlD.nil,basW_nil⟩ basB0) ?_
 rintro v w6 ⟨rfl,D6,h6,l6⟩
 rw [e3]
 generalize (lop s2 (.reb ⟨[],[]⟩)).1=s3 at *
 dsimp only at en3 er3 sm3
 -- Compact
 simp (maxSteps:=3000000) (disch:=omega) only [push_cast,seval]
 obtain ⟨e4,en4,⟨rs4,k4,hU4,er4⟩,c4,sm4⟩:=op_calm g hU3 (by decide) sm3 (by decide) (o:=.cmp) trivial c3 (m:=((con2,[]),0)) (by rw [en3,er3]; exact aw4)
 refine Ok.use (hcmp_ok h6 (hU3.lb g) (by decide) sm3 (by decide)) ?_
 rintro v w7 ⟨rfl,D7,h7,l7⟩
 rw [e4]
 generalize (lop s3 .cmp).1=s4 at *
 dsimp only at en4 er4 sm4
 simp (maxSteps:=3000000) (disch:=omega) only [push_cast,seval]
 refine Ok.use (lDown_ok h7) ?_
 rintro v w8 ⟨rfl,rfl⟩
 rw [hU4.dn]
 have hJw : ∀b,J b→w.heap.size≤b:=fun b hb=>Nat.le_trans u1.size (hJ b hb)
 have v2:=u1.trans u2 fun _ _ h=>h
 obtain ⟨v3,d3⟩:=l3.new_ hgr hJw v2
 have v4:=v3.trans u4 fun _ _ h=>h
 obtain ⟨v5,d5⟩:=l5.new_ d3 hJw v4
 obtain ⟨v6,d6⟩:=l6.new_ d5 hJw v5
 obtain ⟨v7,d7⟩:=l7.new_ d6 hJw v6
 -- Crash
 simp (maxSteps:=3000000) (disch:=omega) only [push_cast,seval]
 refine Ok.use (crash_ok h7.jw.disk (by rw [hU4.cache]; decide) (v:=.slice none 0 0) (l:=[]) ⟨none,0,rfl,fun h=>absurd rfl h⟩) ?_
 rintro v w8 ⟨hd8,u8⟩
 have k7:=h7.cw.k0.1
 have hK8:KT w8:=h7.cw.kt.upd u8 k7
 have hd81 : ¬gr D7 w7 w8 1:=fun hh=>hh.elim k7 fun hh=>by have:=h7.cw.kt.1; omega
 have v8:Upd NoB w w8:=v7.trans u8 fun b hb hh=>by have:=d7 b hh; omega
 have d8 : ∀b,gr D7 w7 w8 b→w.heap.size≤b:=fun b hh=>hh.elim (d7 b) fun hh=>by have:=v7.size; omega
 have hcr:=hU4.crash []
 simp (maxSteps:=3000000) (disch:=omega) only [push_cast,seval]
 refine Ok.use (lopen_fnd hK8 hd8 hd81 g hcr.1 rfl (by decide) hcr.2) ?_
 rintro v w9 ⟨lb2,jb2,cb2,J2,s5,rfl,hJ2,h9,u9,hsd5,hsn5,hU5⟩
 have v9:=v8.trans u9 fun _ _ h=>h
 have hJ2w : ∀b,J2 b→w.heap.size≤b:=fun b hb=>Nat.le_trans v8.size (hJ2 b hb)
 have en5:s5.n=con2:=by rw [hsn5,en4]
 have c5:s5.d.cnt=none:=by rw [hsd5]; rfl
 have sm5:SmN 4 s5.n:=by rw [hsn5]; exact sm4
 simp (maxSteps:=3000000) (disch:=omega) only [push_cast,seval]
 refine Ok.use (lLife_ok h9) ?_
 rintro v w10 ⟨rfl,rfl⟩
 rw [show s5.n.life=1 by rw [en5]; rfl]
 simp (maxSteps:=3000000) (disch:=omega) only [push_cast,seval]
 refine Ok.use (lState_ok h9 (sm5.cons (by decide)) (by have:=sm5.len (by decide); omega)) ?_
 rintro v w11 ⟨q11,u11⟩
 obtain ⟨xa,xc,rfl,_⟩:=q11.form
 rw [show s5.n.st.length=1 by rw [en5]; rfl]
 have h11:=h9.quiet u11
 have v11:=v9.trans u11 fun _ _ h=>h
 simp (maxSteps:=3000000) (disch:=omega) only [push_cast,seval]
 obtain ⟨e6,en6,⟨rs6,k6,hU6,er6⟩,c6,sm6⟩:=op_calm g hU5 (by decide) sm5 (by decide) (o:=.liv) trivial c5 (m:=((con3,[encRc (.liv 2)]),0)) (by rw [en5,er4]; exact aw5)
 refine Ok.use (hliv_ok h11 (hU5.lb g) (by decide) sm5 (by decide)) ?_
 rintro v w12 ⟨rfl,D12,h12,l12⟩
 rw [e6]
 generalize (lop s5 .liv).1=s6 at *
 dsimp only at en6 er6 sm6
 obtain ⟨v12,d12⟩:=l12.new_ d8 hJ2w v11
 simp (maxSteps:=3000000) (disch:=omega) only [push_cast,seval]
 refine Ok.use (lLife_ok h12) ?_
 rintro v w13 ⟨rfl,rfl⟩
 rw [show s6.n.life=2 by rw [en6]; rfl]
 simp (maxSteps:=3000000) (disch:=omega) only [push_cast,seval]
 refine Ok.use (lBase_ok h12 (sm6.cons (by decide)) (by have:=sm6.len (by decide); omega)) ?_
 rintro v w14 ⟨cs14,rfl,q14,u14⟩
 obtain ⟨sa,sc,ta,tc,rfl,_⟩:=eB_parts q14
 rw [show s6.n.bas.steps.length=0 by rw [en6]; rfl]
 simp (maxSteps:=3000000) (disch:=omega) only [push_cast,seval,fgt_bas0]
 exact v12.trans u14 fun _ _ h=>h
theorem zer_cnt:zer Tryz.prog 37=some (.agg #[.slice none 0 0,.slice none 0 0,.slice none 0 0,.int .i64 0]):=by kernel_rfl
theorem bld_cnt (a b d:Option Addr) (n c n' c' n'' c'':Nat) (l:Int) (w:World):bldS Tryz.prog 37 #[(0,.slice a n c),(1,.agg #[.slice b n' c',.slice d n'' c'']),(2,.int .i64 l)] w=some (.agg #[.slice a n c,.slice b n' c',.slice d n'' c'',.int .i64 l],w):=by kernel_rfl
theorem bld_cnt0 (w:World):bldS Tryz.prog 37 #[] w=some (.agg #[.slice none 0 0,.slice none 0 0,.slice none 0 0,.int .i64 0],w):=by kernel_rfl
set_option maxHeartbeats 8000000 in
theorem shown_ok {w:World} {D J:Nat→Prop} {p lb jb cb:Nat} {s:LS} (h:LW w D J p lb jb cb s) {t:Nat} (hs:SmN t s.n) (ht:t≤30):Ok (den Tryz.prog 17 #[.pointer (some ⟨lb,0,none⟩)] w) fun u w'=>∃cs,u = .agg cs.toArray∧eN.C w' (fun b=>b<w.heap.size) s.n cs∧Upd NoB w w':=by
 have hl:=hs.len ht
 refine den_okC1 (args:=[.pointer (some ⟨lb,0,none⟩)]) 2 37 Tryz.func17 rfl mixed in17 ok17 rfl ?_
 rw [W_seq]
 generalize hKs:KS _ _ _ _ _=Ks
 simp (disch:=omega) only [push_cast,seval,zer_cnt]
 have z1:=Blk.new (w:=w) (cs:=[.slice none 0 0,.slice none 0 0,.slice none 0 0,.int .i64 0]) (E:=37)
 have u1:Upd NoB w (w.alloc (.cells #[Value.slice none 0 0,.slice none 0 0,.slice none 0 0,.int .i64 0] 37 (0,0))):=Upd.alloc
 generalize w.alloc (.cells #[Value.slice none 0 0,.slice none 0 0,.slice none 0 0,.int .i64 0] 37 (0,0))=w1 at *
 have s1:=z1.lt
 have h1:=h.quiet u1
 subst hKs
 rw [KS_nor]
 simp (maxSteps:=3000000) (disch:=omega) only [push_cast,seval]
 refine Ok.use (lState_ok h1 (hs.cons ht) (by omega)) ?_
 rintro u w2 ⟨q2,u2⟩
 obtain ⟨xa,xc,rfl,_⟩:=q2.form
 have h2:=h1.quiet u2
 simp (maxSteps:=3000000) (disch:=omega) only [push_cast,seval]
 refine Ok.use (lBase_ok h2 (hs.cons ht) (by omega)) ?_
 rintro u w3 ⟨cs3,rfl,q3,u3⟩
 obtain ⟨sa,sc,ta,tc,rfl,k3⟩:=eB_parts q3
 have h3:=h2.quiet u3
 simp (maxSteps:=3000000) (disch:=omega) only [push_cast,seval]
 refine Ok.use (lLife_ok h3) ?_
 rintro u w4 ⟨rfl,rfl⟩
 have v3:=(u1.trans u2 fun _ _ h=>h).trans u3 fun _ _ h=>h
 have s2:=u2.size
 have z3:=(z1.upd u2 fun h=>h).upd u3 fun h=>h
 have z8:=z3.setRow (cs':=[.slice xa s.n.st.length xc,.slice sa s.n.bas.steps.length sc,.slice ta s.n.bas.taken.length tc,.int .i64 s.n.life])
 simp (maxSteps:=3000000) (disch:=omega) only [push_cast,seval,bld_cnt,st_blk (P:=Tryz.prog) (t:=37) (cs':=[.slice xa s.n.st.length xc,.slice sa s.n.bas.steps.length sc,.slice ta s.n.bas.taken.length tc,.int .i64 s.n.life]) z3 (by kernel_rfl) rfl (fun u hu=>by simp at hu; rcases hu with rfl | rfl | rfl | rfl <;> rfl),ld_blk (P:=Tryz.prog) (t:=37) z8 (by kernel_rfl) (by kernel_rfl)]
 have u8:Upd (fun b=>b=w.heap.size) w3 (w3.setRow w.heap.size #[.slice xa s.n.st.length xc,.slice sa s.n.bas.steps.length sc,.slice ta s.n.bas.taken.length tc,.int .i64 s.n.life]):=Upd.setRow rfl
 have n3:eN.C w3 (fun b=>b<w1.heap.size) s.n [.slice xa s.n.st.length xc,.slice sa s.n.bas.steps.length sc,.slice ta s.n.bas.taken.length tc,.int .i64 s.n.life]:=
   ⟨_,_,_,rfl,q2.go eC_ok u3 fun b _ hh=>hh.elim (fun hh=>hh.elim) id,eB_ok.go q3 (Upd.refl (F:=NoB)) fun b _ hh=>hh.elim (fun hh=>hh.elim) fun hh=>by omega,(hs.cons ht).w⟩
 exact ⟨[.slice xa s.n.st.length xc,.slice sa s.n.bas.steps.length sc,.slice ta s.n.bas.taken.length tc,.int .i64 s.n.life],rfl,eN_ok.go n3 u8 fun b _ hh=>by rcases hh with hh | hh <;> omega,v3.trans u8 fun b hb e=>by omega⟩
open Go
set_option maxRecDepth 100000
theorem i64_of {x:Int} (h:(Lit.int .i64 x).wf=true) : -9223372036854775808≤x∧x<9223372036854775808:=by
 simp only [Lit.wf,Bool.and_eq_true,decide_eq_true_eq] at h
 obtain ⟨h1,h2⟩:=h
 exact ⟨h1,by have:x≤9223372036854775807:=h2; omega⟩
set_option maxHeartbeats 8000000 in
theorem lopens_ok {w:World} (hK:KT w) {sectors size first count:Int} {down:Bool} (h1 : -9223372036854775808≤sectors∧sectors<9223372036854775808) (h2 : -9223372036854775808≤size∧size<9223372036854775808) (h3 : -9223372036854775808≤first∧first<9223372036854775808) (h4 : -9223372036854775808≤count∧count<9223372036854775808) :
   Ok (den Tryz.prog 7 #[.int .i64 sectors,.int .i64 size,.int .i64 first,.int .i64 count,.bool down] w) fun v w'=>v = .bool true∧Upd (fun _=>False) w w':=by
 refine den_ok (args:=[.int .i64 sectors,.int .i64 size,.int .i64 first,.int .i64 count,.bool down]) rs7 Tryz.func7 rfl mixed in7 ok7 rfl ?_
 simp (maxSteps:=3000000) (disch:=omega) only [push_cast,seval]
 refine Ok.use (awake_ok hK) ?_
 rintro v w1 ⟨rfl,hu1⟩
 by_cases hs:100<sectors
 · simp (maxSteps:=3000000) (disch:=omega) only [push_cast,seval,hs]
   exact hu1
 simp (maxSteps:=3000000) (disch:=omega) only [push_cast,seval,hs]
 by_cases hnew:1≤sectors∧sectors≤65536∧16≤size∧size≤4096
 · obtain ⟨N,rfl⟩:=Int.eq_ofNat_of_zero_le (show 0≤sectors by omega)
   obtain ⟨sz,rfl⟩:=Int.eq_ofNat_of_zero_le (show 0≤size by omega)
   refine Ok.use (new_ok (n:=N) (size:=sz) (by omega) (by omega) (by omega) (by omega)) ?_
   rintro v w2 ⟨p,rfl,hd2,hu2⟩
   have hK1:=hK.upd hu1 fun h=>h
   have hK2:=hK1.upd hu2 fun h=>h
   have hD0 : ¬gr (fun _=>False) w1 w2 1:=fun h=>h.elim (fun h=>h) fun h=>by have:=hK1.1; omega
   have hu02:=hu1.trans hu2 fun _ _ h=>h
   have hwf:WfD N sz 0 (DS.new N sz):=WfD.new
   have hdl:(DS.new N sz).dur.length=N:=hwf.sz.dur
   cases down
   · simp (maxSteps:=3000000) (disch:=omega) only [push_cast,seval]
     by_cases hb:first<0∨count<8∨(N:Int)<first∨(N:Int)-first<count∨sz<64
     · refine Ok.use (lopen_bad hd2 (by rw [hdl]; omega) h3 (by rw [hdl]; exact hb)) ?_
       rintro v w' ⟨rfl,hu⟩
       by_cases a1:first<0
       · simp (maxSteps:=3000000) (disch:=omega) only [push_cast,seval,a1]
         exact hu02.trans hu fun _ _ h=>h
       by_cases a2:count<8
       · simp (maxSteps:=3000000) (disch:=omega) only [push_cast,seval,a1,a2]
         exact hu02.trans hu fun _ _ h=>h
       by_cases a3:(N:Int)<first
       · simp (maxSteps:=3000000) (disch:=omega) only [push_cast,seval,a1,a2,a3]
         exact hu02.trans hu fun _ _ h=>h
       by_cases a4:(N:Int)-first<count
       · simp (maxSteps:=3000000) (disch:=omega) only [push_cast,seval,a1,a2,a3,a4]
         exact hu02.trans hu fun _ _ h=>h
       have a5:(sz:Int)<64:=by omega
       simp (maxSteps:=3000000) (disch:=omega) only [push_cast,seval,a1,a2,a3,a4,a5]
       exact hu02.trans hu fun _ _ h=>h
     · have a1 : ¬first<0:=by omega
       have a2 : ¬count<8:=by omega
       have a3 : ¬(N:Int)<first:=by omega
       have a4 : ¬(N:Int)-first<count:=by omega
       have a5 : ¬(sz:Int)<64:=by omega
       obtain ⟨f,rfl⟩:=Int.eq_ofNat_of_zero_le (show 0≤first by omega)
       obtain ⟨c,rfl⟩:=Int.eq_ofNat_of_zero_le (show 0≤count by omega)
       have g:Geo N sz f c:=⟨by omega,by omega,by omega,by omega,by omega,by
         have:(c-c/2)*sz≤50*4096:=Nat.mul_le_mul (by omega) (by omega)
         omega,by
         have:c*sz≤100*4096:=Nat.mul_le_mul (by omega) (by omega)
         omega⟩
       refine Ok.use (lopen_fnd hK2 hd2 hD0 g hwf rfl (by decide) (new_fnd g)) ?_
       rintro v w3 ⟨lb,jb,cb,J,s,rfl,hJ,hL,u3,hsd,hsn,hU⟩
       have sm:SmN 0 s.n:=by rw [hsn]; exact smN0
       simp (maxSteps:=3000000) (disch:=omega) only [push_cast,seval,a1,a2,a3,a4,a5]
       refine Ok.use (shown_ok hL sm (by decide)) ?_
       rintro v w4 ⟨cs4,rfl,n4,u4⟩
       have v4:=(hu02.trans u3 fun _ _ h=>h).trans u4 fun _ _ h=>h
       simp (maxSteps:=3000000) (disch:=omega) only [push_cast,seval,bld_cnt0]
       refine Ok.use (rSameCon_ok (b:=con0) (ds:=[.slice none 0 0,.slice none 0 0,.slice none 0 0,.int .i64 0]) n4 (H:=NoB) ⟨_,_,_,rfl,SlD.nil,⟨_,_,rfl,SlD.nil,SlD.nil,basW_nil⟩,conS0.w⟩ (by have:=sm.len (by decide); omega) (by have:=smN0.len (by decide); omega)) ?_
       rintro v w5 ⟨⟨q,rfl,hq⟩,u5⟩
       obtain rfl:=hq hsn
       have h5:=(hL.quiet u4).quiet u5
       simp (maxSteps:=3000000) (disch:=omega) only [push_cast,seval]
       refine Ok.use (lDown_ok h5) ?_
       rintro v w6 ⟨rfl,rfl⟩
       rw [hU.dn]
       simp (maxSteps:=3000000) (disch:=omega) only [push_cast,seval]
       exact v4.trans u5 fun _ _ h=>h
   · simp (maxSteps:=3000000) (disch:=omega) only [push_cast,seval]
     refine Ok.use (fail_ok hd2 0) ?_
     rintro v w3 ⟨hd3,hu3⟩
     have hwf3:WfD N sz 0 ((DS.new N sz).fail 0):=hwf.fail (by omega)
     simp (maxSteps:=3000000) (disch:=omega) only [push_cast,seval]
     refine Ok.use (sync_ok hd3 (by have:=hwf3.sz.few; omega) hwf3.sz.cnt) ?_
     rintro v w4 ⟨rfl,hd4,hu4⟩
     have hwf4:=hwf3.sync
     have hoff4:((DS.new N sz).fail 0).sync.1.off=true:=rfl
     generalize ((DS.new N sz).fail 0).sync=r at *
     obtain ⟨d,code⟩:=r
     dsimp only at hd4 hwf4 hoff4 ⊢
     simp (maxSteps:=3000000) (disch:=omega) only [push_cast,seval]
     have g1 : ∀q,gr (fun _=>False) w1 w2 q→w1.heap.size≤q:=fun q hq=>hq.elim (fun h=>h.elim) fun h=>h.1
     have s2:=hu2.size
     have s3:=hu3.size
     have g2 : ∀q,gr (gr (fun _=>False) w1 w2) w2 w3 q→w1.heap.size≤q:=fun q hq=>hq.elim (g1 q) fun h=>by have:=h.1; omega
     have hu14:Upd (fun _=>False) w1 w4:=((hu2.trans hu3 fun q hq h=>by have:=g1 q h; omega).trans hu4 fun q hq h=>by have:=g2 q h; omega)
     have hu02:=hu1.trans hu14 fun _ _ h=>h
     have hdl4:d.dur.length=N:=hwf4.sz.dur
     have hds4:d.size=sz:=hwf4.sz.size
     by_cases hb:first<0∨count<8∨(N:Int)<first∨(N:Int)-first<count∨sz<64
     · refine Ok.use (lopen_bad hd4 (by rw [hdl4]; omega) h3 (by rw [hdl4,hds4]; exact hb)) ?_
       rintro v w' ⟨rfl,hu⟩
       by_cases a1:first<0
       · simp (maxSteps:=3000000) (disch:=omega) only [push_cast,seval,a1]
         exact hu02.trans hu fun _ _ h=>h
       by_cases a2:count<8
       · simp (maxSteps:=3000000) (disch:=omega) only [push_cast,seval,a1,a2]
         exact hu02.trans hu fun _ _ h=>h
       by_cases a3:(N:Int)<first
       · simp (maxSteps:=3000000) (disch:=omega) only [push_cast,seval,a1,a2,a3]
         exact hu02.trans hu fun _ _ h=>h
       by_cases a4:(N:Int)-first<count
       · simp (maxSteps:=3000000) (disch:=omega) only [push_cast,seval,a1,a2,a3,a4]
         exact hu02.trans hu fun _ _ h=>h
       have a5:(sz:Int)<64:=by omega
       simp (maxSteps:=3000000) (disch:=omega) only [push_cast,seval,a1,a2,a3,a4,a5]
       exact hu02.trans hu fun _ _ h=>h
     · have a1 : ¬first<0:=by omega
       have a2 : ¬count<8:=by omega
       have a3 : ¬(N:Int)<first:=by omega
       have a4 : ¬(N:Int)-first<count:=by omega
       have a5 : ¬(sz:Int)<64:=by omega
       refine Ok.use (lopen_down hd4 (by rw [hdl4]; omega) h3 a1 a2 (by rw [hdl4]; exact a3) (by rw [hdl4]; exact a4) (by rw [hds4]; omega) hoff4) ?_
       rintro v w' ⟨rfl,hu⟩
       simp (maxSteps:=3000000) (disch:=omega) only [push_cast,seval,a1,a2,a3,a4,a5]
       exact hu02.trans hu fun _ _ h=>h
 · refine Ok.use (new_bad hnew) ?_
   rintro v _ ⟨rfl,rfl⟩
   simp (maxSteps:=3000000) (disch:=omega) only [push_cast,seval]
   exact hu1
theorem statelogOpens_law {w:World} (hK:KT w) (sectors:Int) (w1:(Lit.int .i64 sectors).wf=true) (size:Int) (w2:(Lit.int .i64 size).wf=true) (first:Int) (w3:(Lit.int .i64 first).wf=true) (count:Int) (w4:(Lit.int .i64 count).wf=true) (down:Bool) :
   Ok (den Tryz.prog 7 #[.int .i64 sectors,.int .i64 size,.int .i64 first,.int .i64 count,.bool down] w) fun v w'=>v = .bool true∧Upd (fun _=>False) w w':=
 lopens_ok hK (i64_of w1) (i64_of w2) (i64_of w3) (i64_of w4)
end Go.Proofs.YtpgigkceoolgeaaGreatDoor.Fd
