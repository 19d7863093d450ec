import Derived.Test.YtpgigkceoolgeaaGreatDoorS036
set_option linter.all false
namespace Go.Proofs.YtpgigkceoolgeaaGreatDoor.Fd
open Go
set_option maxRecDepth 100000
open Go
set_option maxRecDepth 100000
theorem oJ {area room:Nat}{m:Con×List (List Int)}{n':Con}{rec:List Int}(h:(rchange area room m n' rec).2≠0):(rchange area room m n' rec).1=m:=by
 unfold rchange at *;split at h
 ·exact absurd rfl h
 ·rename_i h1;rw[if_neg h1];split at h
  ·rename_i h2; rw[if_pos h2]
  ·exact absurd rfl h
theorem oK {area room:Nat}{m:Con×List (List Int)}{n':Con}{rec:List Int}(h:(rchange area room m n' rec).2=0):(rchange area room m n' rec).1.1=n':=by
 unfold rchange at *;split at h
 ·rename_i h1; rw[if_pos h1]
 ·rename_i h1;rw[if_neg h1];split at h
  ·cases h
  ·rename_i h2; rw[if_neg h2]
theorem aCv {area room:Nat}{m:Con×List (List Int)}{o:POp}(h:(rop area room m o).2≠0):(rop area room m o).1=m:=by
 cases o with
 | ext l=>
  have h:(rextend area room m l).2≠0:=h;show(rextend area room m l).1=m;unfold rextend at *;split at h
  ·exact absurd rfl h
  ·rename_i h1; rw[if_neg h1]; exact oJ h
 | reb b=>
  have h:(rrebase area room m b).2≠0:=h;show(rrebase area room m b).1=m;unfold rrebase at *;split at h
  ·rename_i h1; rw[if_pos h1]
  ·rename_i h1; rw[if_neg h1]; exact oJ h
 | liv=>
  have h:(rlive area room m).2≠0:=h;show(rlive area room m).1=m;unfold rlive at *;split at h
  ·rename_i h1; rw[if_pos h1]
  ·rename_i h1; rw[if_neg h1]; exact oJ h
 | cmp=>
  have h:(rcompact room m).2≠0:=h;show(rcompact room m).1=m;unfold rcompact at *;split at h
  ·rename_i h1; rw[if_pos h1]
  ·exact absurd rfl h
theorem aCw {rec:List Int}(h:rec.length≤900000):(stream ([] ++ [rec])).length≤1073741824:=by
 have:=aL (n:=rec.length) (by omega);simp only[List.nil_append,stream,List.flatMap_cons,List.flatMap_nil,List.append_nil,encB,List.length_append];omega
theorem oL {n n':Con}{rec:List Int}(h:rec.length≤900000):rchange 1073741824 0 (n,[]) n' rec=((n',[rec]),0):=by
 unfold rchange;rw[if_pos (aCw h)];rfl
theorem wZ {t area room:Nat}{m:Con×List (List Int)}(hs:SmN t m.1){o:POp}(ho:POpB o)(h:(rop area room m o).2=0):(rop 1073741824 0 (m.1,[]) o).1.1=(rop area room m o).1.1:=by
 cases o with
 | ext l=>
  have h:(rextend area room m l).2=0:=h;show(rextend 1073741824 0 (m.1,[]) l).1.1=(rextend area room m l).1.1;have hm:=fH (m:=m.1.st) ho.1;have hml:=cV (l:=l) (m:=m.1.st);have ho2:=ho.2;have h2:=dS hm (by omega);have h3:(minC l m.1.st).length*2010≤6*2010:=Nat.mul_le_mul_right _ (by omega);have h4:=aL (n:=1) (by decide);unfold rextend at *;split at h
  ·rename_i h1; rw[if_pos h1,if_pos h1]
  ·rename_i h1;rw[if_neg h1,if_neg h1,oK h,oL (by simp only[encRc,List.length_append]; omega)]
 | reb b=>
  have h:(rrebase area room m b).2=0:=h;show(rrebase 1073741824 0 (m.1,[]) b).1.1=(rrebase area room m b).1.1;have h2:=BasB.l ho;have h4:=aL (n:=2) (by decide);unfold rrebase at *;split at h
  ·cases h
  ·rename_i h1;rw[if_neg h1,if_neg h1,oK h,oL (by simp only[encRc,List.length_append]; omega)]
 | liv=>
  have h:(rlive area room m).2=0:=h;show(rlive 1073741824 0 (m.1,[])).1.1=(rlive area room m).1.1;have h2:=hs.l1;have h3:=aL (n:=m.1.life.toNat+1) (by omega);have h4:=aL (n:=3) (by decide);unfold rlive at *;split at h
  ·cases h
  ·rename_i h1;rw[if_neg h1,if_neg h1,oK h,oL (by simp only[encRc,List.length_append]; omega)]
 | cmp=>
  show(rcompact 0 (m.1,[])).1.1=(rcompact room m).1.1;unfold rcompact;split <;> split <;> rfl
theorem Run.op2 {N sz first count G t:Nat}(g:Geo N sz first count){s:LS}{n':Con}(h:Run N sz first count G t s n')(hG:G<4611686018427387904)(ht:t≤28){o:POp}(ho:POpB o) :
 ∃n2,Run N sz first count (G+1) (t+1) (lop s o).1 n2∧((lop s o).2=8↔(lop s o).1.dn=true)∧
  (s.dn=true→lop s o=(s,8)∧n2=n')∧
  (s.dn=false→((lop s o).2=0∧(lop s o).1.n=(rop 1073741824 0 (s.n,[]) o).1.1∧n2=(lop s o).1.n)∨((lop s o).2=8∧(lop s o).1.n=s.n∧n2=(rop 1073741824 0 (s.n,[]) o).1.1)∨((lop s o).2≠0∧(lop s o).2≠8∧(lop s o).1.n=s.n∧n2=s.n)):=by
 obtain⟨h1,h2,h3,h4⟩:=h;rcases h4 with ⟨rs,n0,hU⟩ | hD
 ·have hop:=wK g hU hG h1 ht ho;have hsm:=wJ (area:=areaG sz count) (room:=roomG sz count) (m:=(s.n,rs.map encRc)) h1 ho;have hle:=aCm (area:=areaG sz count) (room:=roomG sz count) (m:=(s.n,rs.map encRc)) h1 ht ho;rcases hop with ⟨e,en,⟨rs',k',hU',_⟩,he8,_⟩ | ⟨e,e0,hD',en,_⟩
  ·refine⟨(lop s o).1.n,⟨by rw[en]; exact hsm,by rw[en]; exact hsm,LeN.refl,.inl ⟨rs',k',hU'⟩⟩,⟨fun x=>absurd x he8,fun x=>by rw[hU'.dn] at x; cases x⟩,fun x=>(by rw[hU.dn] at x; cases x),fun _=>?_⟩;by_cases hz:(lop s o).2=0
   ·exact .inl ⟨hz,by rw[en]; exact(wZ (m:=(s.n,rs.map encRc)) h1 ho (by rw[←e]; exact hz)).symm,rfl⟩
   ·have:(lop s o).1.n=s.n:=by rw[en,aCv (by rw[←e]; exact hz)]
    exact .inr (.inr ⟨hz,he8,this,this⟩)
  ·refine⟨_,⟨by rw[en]; exact h1.mono (by omega),hsm,by rw[en]; exact hle,.inr hD'⟩,⟨fun _=>hD'.dn,fun _=>e⟩,fun x=>(by rw[hU.dn] at x; cases x),fun _=>.inr (.inl ⟨e,en,?_⟩)⟩;exact(wZ (m:=(s.n,rs.map encRc)) h1 ho e0).symm
 ·have e:=aCB hD.dn (o:=o);rw[e];exact⟨n',⟨h1.mono (by omega),h2.mono (by omega),h3,.inr (hD.mono (by omega))⟩,⟨fun _=>hD.dn,fun _=>rfl⟩,fun _=>⟨rfl,rfl⟩,fun x=>(by rw[hD.dn] at x; cases x)⟩
def CB (w:World)(F:Nat→Prop)(b:Nat)(n:Con):Prop:=∃cs,Blk w b cs 37∧eN.C w F n cs
theorem CB.go {w w':World}{F F' G:Nat→Prop}{b:Nat}{n:Con}(h:CB w F b n)(hu:Upd G w w')(hb : ¬G b)(hG : ∀b,b<w.heap.size→G b∨F' b→F b):CB w' F' b n:=by
 obtain⟨cs,h1,h2⟩:=h;exact⟨cs,h1.upd hu hb,aH.go h2 hu hG⟩
theorem CB.lt {w:World}{F:Nat→Prop}{b:Nat}{n:Con}(h:CB w F b n):b<w.heap.size:=by
 obtain⟨cs,h1,_⟩:=h;exact h1.lt
theorem CB.store {w:World}{F:Nat→Prop}{b:Nat}{cs0:List Value}(h:Blk w b cs0 37)(h0:cs0.length=4){n:Con}{cs:List Value}(hn:eN.C w F n cs)(hF:F b) :
 stS Tryz.prog 37 (.pointer (some ⟨b,0,none⟩)) (.agg cs.toArray) w=some (undef,w.setRow b cs.toArray)∧CB (w.setRow b cs.toArray) F b n∧Upd (fun x=>x=b) w (w.setRow b cs.toArray):=by
 have kc:=aH.len hn;have es:eN.s=4:=rfl;rw[es] at kc;have hu:Upd (fun x=>x=b) w (w.setRow b cs.toArray):=Upd.setRow rfl;exact⟨aP (P:=Tryz.prog) (t:=37) (cs':=cs) h (by rw[kc]; kernel_rfl) (by rw[kc,h0]) (aH.one hn),⟨cs,h.setRow,aH.go hn hu fun x _ hh=>hh.elim (fun e=>by rw[e]; exact hF) id⟩,hu⟩
theorem CB.ld {w:World}{F:Nat→Prop}{b:Nat}{n:Con}(h:CB w F b n) : ∃cs,Blk w b cs 37∧cs.length=4∧eN.C w F n cs∧∀{w':World} {G:Nat→Prop},Upd G w w'→¬G b→ldS Tryz.prog 37 (.pointer (some ⟨b,0,none⟩)) w'=some (.agg cs.toArray,w'):=by
 obtain⟨cs,h1,h2⟩:=h;have kc:=aH.len h2;have es:eN.s=4:=rfl;rw[es] at kc;exact⟨cs,h1,kc,h2,fun hu hb=>aJ (P:=Tryz.prog) (t:=37) (h1.upd hu hb) (by kernel_rfl) (by rw[kc]; kernel_rfl)⟩
end Go.Proofs.YtpgigkceoolgeaaGreatDoor.Fd
