/- The abstract interpreter: slices, parts, places. -/
import Derived.Test.YtfcdfdnlgfebmaaGreatDoorViOp4
set_option linter.unusedVariables false
set_option linter.unusedSimpArgs false
set_option linter.unnecessarySimpa false
set_option linter.unusedSectionVars false
namespace Go.Vi
open Go.RowKit
section
variable {C:Ctx} {E:Env} {σ:St} {tm:Array Value} {a:Act} {w w':World} {own:Nat→List Nat} {o:Oper} {p:qhl} [Tabbed E C]
def qpe (v:Option Value) (l d:Int):Prop:=(v=none∧l=d)∨∃k,v=some (.int k l)
theorem qer (h:qag C σ a.tmps w own) {b:Option Op1} {v:Option Value} (hb:(b=none∧v=none)∨∃b' v',b=some b'∧v=some v'∧qb3 (sit C σ a.tmps w own) b' v') {d l:Int} (he:(qg7 b d).run (qt σ)=some l):qpe v l d:=by
 unfold qg7 at he
 rcases hb with ⟨rfl,rfl⟩|⟨b',v',rfl,rfl,ho⟩
 ·have:=Q.ret_some he
  exact .inl ⟨rfl,this.symm⟩
 ·obtain ⟨i,hi,he⟩:=Q.bind_some he
  have:=Q.ret_some he
  obtain ⟨e1,_⟩:=qef h ho hi
  exact .inr ⟨i.1,by rw [e1,this]⟩
theorem qns {P:Program} {t:Nat} (ht:P.underlying t=some .string) {s:ByteArray} {vl vh:Option Value} {l h:Int} (hl:qpe vl l 0) (hh:qpe vh h (s.size:Int)) (h0:0≤l) (h1:l≤h) (h2:h≤s.size):
  (Instr.sliceAt t (.string s) vl vh none).run P w= .ok (.string (s.extract l.toNat h.toNat)) w:=by
 rw [run_sliceAt_string w t _ _ _ _ ht]
 rcases hl with ⟨rfl,rfl⟩|⟨k,rfl⟩ <;> rcases hh with ⟨rfl,rfl⟩|⟨k',rfl⟩
 ·exact run_slice_string_all w t s ht
 ·exact run_slice_string_h w t s ht k' h h1 h2
 ·exact run_slice_string_l w t s ht k l h0 h1
 ·exact run_slice_string w t s k k' l h ht h0 h1 h2
theorem qeU {P:Program} {t e:Nat} (ht:P.underlying t=some (.slice e)) {sz:Nat} (hs:(sizeOf e).run P=fun w=> .ok sz w) {ad:Option Addr} {len cap:Nat} (hlc:len≤cap) {vl vh:Option Value} {l h:Int} (hl:qpe vl l 0) (hh:qpe vh h (len:Int)) (h0:0≤l) (h1:l≤h) (h2:h≤len):
  (Instr.sliceAt t (.slice ad len cap) vl vh none).run P w= .ok (sliced ad l.toNat h.toNat cap sz) w:=by
 have he:P.elem t=e:=by simp [Program.elem,ht]
 have ht':P.underlying t=some (.slice (P.elem t)):=by rw [he]; exact ht
 rw [run_sliceAt_slice w t _ _ _ _ ht']
 have hs':∀w,(sizeOf (P.elem t)).run P w= .ok sz w:=fun w=>by rw [he,hs]
 rcases hl with ⟨rfl,rfl⟩|⟨k,rfl⟩ <;> rcases hh with ⟨rfl,rfl⟩|⟨k',rfl⟩
 ·rw [run_slice_all w t ad len cap ht',hs']; rfl
 ·rw [run_slice_h w t ad len cap ht' k' h h1 (by omega),hs']; rfl
 ·rw [run_slice_l w t ad len cap ht' k l h0 h1,hs']; rfl
 ·rw [run_slice_lh w t ad len cap ht' k k' l h h0 h1 (by omega),hs']; rfl
theorem qhu {α:Type} {xs:List α} {l h:Int} {i:Nat} {x:α} (hx:(qau xs l h)[i]? =some x):xs[l.toNat+i]? =some x:=by
 rw [qb4] at hx
 rw [List.getElem?_drop,List.getElem?_take] at hx
 split at hx
 ·exact hx
 ·cases hx
theorem qgw {α:Type} {xs:List α} {l h:Int} (h0:0≤l) (h1:l≤h) (h2:h≤xs.length):(qau xs l h).length=h.toNat - l.toNat:=by
 simp [qb4]; omega
theorem qeg.slice {α:Type} {F:Nat→Prop} {R:α→List Value→Prop} {sz:Nat} {xs:List α} {v:Value} (hr:qeg w F R sz xs v) {l h:Int} (h0:0≤l) (h1:l≤h) (h2:h≤xs.length):
  ∃ad len cap,v= .slice ad len cap∧len=xs.length∧len≤cap∧qeg w F R sz (qau xs l h) (sliced ad l.toNat h.toNat cap sz):=by
 have hlen:=qgw (xs:=xs) h0 h1 h2
 rcases hr with ⟨rfl,rfl⟩|⟨ad,cap,rfl,hc,hm,hx⟩
 ·refine ⟨none,0,0,rfl,rfl,Nat.le_refl _,.inl ⟨?_,?_⟩⟩
  ·simp at h2
   have e1:l.toNat=0:=by omega
   have e2:h.toNat=0:=by omega
   simp [sliced,e1,e2]
  ·simp [qb4]
 ·refine ⟨some ad,xs.length,cap,rfl,rfl,hc,?_⟩
  by_cases hcl:cap=l.toNat
  ·have e1:(qau xs l h)=[]:=List.eq_nil_of_length_eq_zero (by omega)
   refine .inr ⟨ad,0,?_,by rw [e1]; simp,by simp [maxLen],fun i x hi=>by rw [e1] at hi; cases hi⟩
   rw [e1]
   simp [sliced,hcl]
   omega
  ·refine .inr ⟨ad.add (l.toNat * sz),cap - l.toNat,?_,by omega,by omega,fun i x hi=> ?_⟩
   ·simp [sliced,hcl,hlen]
   ·obtain ⟨k1,k2,cs,k3,k4⟩:=hx _ _ (qhu hi)
    refine ⟨by rw [qT]; exact k1,by rw [qT]; exact k2,cs,fun j u hj=> ?_,k4⟩
    rw [qaB,qaB,←Nat.add_assoc,←Nat.add_mul,←qaB]
    exact k3 j u hj
theorem q7.form {F:Nat→Prop} {et:Nat} {e:Ty} {xs:List e.den} {v:Value} {bs:List Nat} (hr:q7 w F et e xs v bs):∃ad cap,v= .slice ad xs.length cap∧xs.length≤cap:=by
 obtain ⟨cells,ho,_,_⟩:=hr
 rcases ho.2 with ⟨h1,h2⟩|⟨g,cap,cur,hv,_,_,hnc,_⟩
 ·exact ⟨none,0,by rw [h1,h2],by omega⟩
 ·exact ⟨some ⟨g,0,none⟩,cap,hv,hnc⟩
theorem qrJ (h:qag C σ a.tmps w own) {x1:Op1} {v:Value} (ho:qb3 (sit C σ a.tmps w own) x1 v) {q:Site} (he:(qtr x1).run (qt σ)=some q):
  q.v=(qt σ q.s).1∧qfC (sit C σ a.tmps w own) q.s q.fo v∧∃bs,q7 w (C.free w own) q.et q.e q.xs v bs:=by
 obtain ⟨os,ov,oa⟩:=x1
 unfold qtr at he
 split at he
 ·rename_i s et e xs h1 h2
  simp only at h1 h2
  subst h1; subst h2
  have:=Q.ret_some he
  subst this
  exact ⟨ho.2.1,ho.1.symm,_,ho.2.2⟩
 ·rename_i _ s v0 h2
  simp only at h2
  subst h2
  rw [Q.run_get] at he
  split at he
  case isFalse=>cases he
  rename_i hv
  split at he
  case h_2=>cases he
  rename_i et e xs ha
  have:=Q.ret_some he
  subst this
  have hval:a.tmps.getD s undef=v:=(ho.unowned rfl).2 hv
  have hat:=h.at_ s
  rw [ha,hval] at hat
  exact ⟨hv.symm,hval,_,hat⟩
 ·rename_i _ s v0 off u h2
  simp only at h2
  subst h2
  split at he
  case isFalse=>cases he
  rename_i hu
  rw [Q.run_get] at he
  split at he
  case isFalse=>cases he
  rename_i hv
  split at he
  case h_2=>cases he
  rename_i r ha
  have:=Q.ret_some he
  subst this
  obtain ⟨b,k1,k2,k3⟩:=(ho.unowned rfl).2 hv
  have hh:qfC (sit C σ a.tmps w own) s (some off) v:=by
   refine ⟨b,k1,k2,?_⟩
   rcases k3 with ⟨k3,_⟩|⟨_,k3⟩
   ·rw [hu] at k3; cases k3
   ·exact k3
  obtain ⟨_,_,b2,_,q1,_⟩:=h.rowAt ha hh
  exact ⟨hv.symm,hh,b2,q1⟩
 ·cases he
theorem qhm (hE:qbG E C.P) (h:qag C σ a.tmps w own) {t:Nat} {x1:Op1} {v:Value} (hx:qb3 (sit C σ a.tmps w own) x1 v) {lo hi:Option Op1} {vl vh:Option Value}
  (hl:(lo=none∧vl=none)∨∃b' v',lo=some b'∧vl=some v'∧qb3 (sit C σ a.tmps w own) b' v') (hh:(hi=none∧vh=none)∨∃b' v',hi=some b'∧vh=some v'∧qb3 (sit C σ a.tmps w own) b' v')
  (hr:(execOp a.eval o).run C.P w=((Instr.sliceAt t v vl vh none).run C.P w).andThen fun v w=> .ok (.value v) w) {f:Eff}
  (he:(qlq E o t x1 lo hi).run (qt σ)=some f) (hd:∀u∈f.upd,u.s<σ.length) (hc:qd3 f.chk):qdT C o a w (qr σ f.upd):=by
 unfold qlq at he
 obtain ⟨r,hxr,he⟩:=Q.bind_some he
 have rx:=qde h hx hxr
 have chk:∀ {l h n:Int},qd3 [inS l h n]→0≤l∧l≤h∧h≤n:=fun {l h n} hc=>by
  have:=hc _ (List.mem_singleton.2 rfl)
  simpa [qkq] using this
 split at he
 ·rename_i xs _
  obtain ⟨l,h1,he⟩:=Q.bind_some he
  obtain ⟨hh',h2,he⟩:=Q.bind_some he
  split at he
  ·rename_i hty
   have:=Q.ret_some he
   subst this
   have b1:=qer h hl h1
   have b2:=qer h hh h2
   obtain ⟨c1,c2,c3⟩:=chk hc
   obtain ⟨e1,g1⟩:=qaq.str rx
   refine qaY h (v:= .string ⟨(qau xs l hh').toArray⟩) ?_ hd (qaq.ofStr _ _ ?_)
   ·have hsz:((⟨xs.toArray⟩:ByteArray).size:Int)=qn xs:=by simp [qi,ByteArray.size]
    rw [hr,e1,qns (w:=w) (hE.str t hty) b1 (h:=hh') (by rw [hsz]; exact b2) c1 c2 (by rw [hsz]; exact c3)]
    rw [ByteArray.extract_mk]
    simp [qb4,List.drop_take]
   ·rw [qgw c1 c2 (by rw [qi] at c3; exact c3)]
    have g1:xs.length≤maxLen:=g1
    simp [qi] at c3
    omega
  ·cases he
 ·rename_i e xs
  obtain ⟨l,h1,he⟩:=Q.bind_some he
  obtain ⟨hh',h2,he⟩:=Q.bind_some he
  split at he
  ·rename_i hty
   have:=Q.ret_some he
   subst this
   have b1:=qer h hl h1
   have b2:=qer h hh h2
   obtain ⟨c1,c2,c3⟩:=chk hc
   have rs:=qaq.slice rx
   obtain ⟨ad,len,cap,e1,e2,e3,e4⟩:=rs.slice c1 c2 (by rw [qi] at c3; exact c3)
   subst e1
   subst e2
   have hem:=hE.elem t e hty
   refine qaY h (v:=sliced ad l.toNat hh'.toNat cap e.size) ?_ hd ((qaq.ofSlice e4).mono fun b hb _=>qm3 hb)
   rw [hr,qeU (w:=w) hem.under (hE.size t e (.inl hty)) e3 b1 (by simpa [qi] using b2) c1 c2 (by simpa [qi] using c3)]
   rfl
  ·cases he
 ·obtain ⟨q,h0,he⟩:=Q.bind_some he
  obtain ⟨l,h1,he⟩:=Q.bind_some he
  obtain ⟨hh',h2,he⟩:=Q.bind_some he
  split at he
  case isFalse=>cases he
  rename_i hty
  have:=Q.ret_some he
  subst this
  have b1:=qer h hl h1
  have b2:=qer h hh h2
  obtain ⟨c1,c2,c3⟩:=chk hc
  obtain ⟨s1,s2,bs,s3⟩:=qrJ h hx h0
  obtain ⟨ad,cap,e1,e2⟩:=s3.form
  subst e1
  rw [qi] at c3 b2
  have hrun:=qeU (w:=w) (hE.elem t q.e hty).under (hE.size t q.e (.inl hty)) (ad:=ad) e2 b1 b2 c1 c2 c3
  have hr2:(execOp a.eval o).run C.P w= .ok (.value (sliced ad l.toNat hh'.toNat cap q.e.size)) w:=by rw [hr,hrun]; rfl
  refine qK hr2 (h.dst0 hd ⟨rfl,fun _=>⟨ad,q.xs.length,cap,s2,c1,c2,c3,rfl⟩⟩ (fun m hm=> ?_))
  simp only [AV.mentions,List.mem_singleton] at hm
  rw [hm,s1]
  exact Nat.le_refl _
 ·cases he
theorem q7.front {F:Nat→Prop} {et:Nat} {e:Ty} {xs:List e.den} {v:Value} {bs:List Nat} (hr:q7 w F et e xs v bs) {h:Int} (h1:0≤h) (h2:h≤xs.length):
  ∃ad cap,v= .slice ad xs.length cap∧xs.length≤cap∧q7 w F et e (qau xs 0 h) (sliced ad 0 h.toNat cap e.size) bs:=by
 have hlen:=qgw (xs:=xs) (l:=0) (Int.le_refl _) h1 h2
 obtain ⟨cells,hc,hbs,hx⟩:=hr
 have hx':∀(i:Nat) (x:e.den),(qau xs 0 h)[i]? =some x→Rep w F e x (((cells.take (h.toNat * e.size)).drop (i * e.size)).take e.size):=by
  intro i x hi
  have hlt:i<h.toNat:=by
   have:=(List.getElem?_eq_some_iff.1 hi).1
   rw [hlen] at this; simpa using this
  have:=hx _ _ (qhu hi)
  rw [Int.toNat_zero,Nat.zero_add] at this
  have e1:((cells.take (h.toNat * e.size)).drop (i * e.size)).take e.size=(cells.drop (i * e.size)).take e.size:=by
   have hle:i * e.size+e.size≤h.toNat * e.size:=by
    have:=Nat.mul_le_mul_right e.size (show i+1≤h.toNat by omega)
    rw [Nat.add_mul,Nat.one_mul] at this
    exact this
   rw [List.drop_take,List.take_take,Nat.min_eq_left (by omega)]
  rw [e1]
  exact this
 rcases hc.2 with ⟨k1,k2⟩|⟨g,cap,cur,k1,k2,k3,k4,k5,k6,k7⟩
 ·have hxn:xs=[]:=List.eq_nil_of_length_eq_zero k2
  subst hxn
  refine ⟨none,0,k1,Nat.le_refl _,?_⟩
  have h0:h.toNat=0:=by simp at h2; omega
  have e1:qau ([]:List e.den) 0 h=[]:=by rw [qb4]; simp
  rw [e1,h0]
  have e2:sliced none 0 0 0 e.size= .slice none 0 0:=by simp [sliced]
  rw [e2,hbs,k1]
  exact q7.nil_ _ _ _ _
 ·refine ⟨some ⟨g,0,none⟩,cap,k1,k4,?_⟩
  have e2:sliced (some ⟨g,0,none⟩) 0 h.toNat cap e.size= .slice (some ⟨g,0,none⟩) h.toNat cap:=by
   simp [sliced,Addr.add]
  rw [e2]
  have hhl:h.toNat≤xs.length:=by omega
  refine ⟨cells.take (h.toNat * e.size),⟨?_,.inr ⟨g,cap,cur,?_,k2,k3,?_,k5,k6,?_⟩⟩,by rw [hbs,k1]; rfl,hx'⟩
  ·rw [List.length_take,hc.1,hlen]
   simp only [Int.toNat_zero,Nat.sub_zero]
   exact Nat.min_eq_left (Nat.mul_le_mul_right _ hhl)
  ·rw [hlen]; simp
  ·rw [hlen]; simp; omega
  ·rw [hlen]
   simp only [Int.toNat_zero,Nat.sub_zero]
   rw [←k7,List.take_take,Nat.min_eq_left (Nat.mul_le_mul_right _ hhl)]
theorem qoK {E:Env} {tid:Nat} {x:Operand} {o1:Op1} (ho:(opd E p tid x).run (qt σ)=some o1):∀s,o1.s=some s→o1.a≠ .undef→s<σ.length:=by
 intro s hs ha
 unfold opd at ho
 split at ho
 ·rename_i t
  rw [Q.run_get] at ho
  have:=Q.ret_some ho
  subst this
  have hs:t=s:=by injection hs
  subst hs
  by_cases h:t<σ.length
  ·exact h
  ·have:qt σ t=(0,.undef):=by simp [qt,List.getD,List.getElem?_eq_none (Nat.le_of_not_lt h)]
   rw [this] at ha
   exact absurd rfl ha
 ·split at ho
  ·have:=Q.ret_some ho
   subst this
   cases hs
  ·cases ho
 ·have:=Q.ret_some ho
  subst this
  cases hs
 ·split at ho
  ·have:=Q.ret_some ho
   subst this
   cases hs
  ·cases ho
theorem quL (hE:qbG E C.P) (h:qag C σ a.tmps w own) {t s d:Nat} {et:Nat} {e:Ty} {xs:List e.den} {v:Value} (hrow:q7 w (C.free w own) et e xs v (own s)) {hi:Option Op1} {vh:Option Value}
  (hh:(hi=none∧vh=none)∨∃b' v',hi=some b'∧vh=some v'∧qb3 (sit C σ a.tmps w own) b' v')
  (hr:(execOp a.eval o).run C.P w=((Instr.sliceAt t v none vh none).run C.P w).andThen fun v w=> .ok (.value v) w) (hdst:o.dst=some d) (hne:d≠s) (hty:E.ty t=some (.slice e)) {l:Int} (h3:(qg7 hi (qn xs)).run (qt σ)=some l)
  (hds:d<σ.length) (hss:s<σ.length) (hc:qd3 [inS 0 l (qn xs)]):qdT C o a w (qr σ [⟨s,true,.undef⟩,⟨d,true,.own et e (qau xs 0 l)⟩]):=by
 have b2:=qer h hh h3
 obtain ⟨c1,c2⟩:0≤l∧l≤qn xs:=by
  have:=hc _ (List.mem_singleton.2 rfl)
  have:0≤(0:Int)∧0≤l∧l≤qn xs:=by simpa [qkq] using this
  omega
 have c2':l≤xs.length:=by rw [qi] at c2; exact c2
 obtain ⟨ad,cap,k1,k2,k3⟩:=q7.front hrow c1 c2'
 have hsz:(sizeOf (E.etid t)).run C.P=fun w=> .ok e.size w:=hE.size t e (.inl hty)
 have hrun:=qeU (w:=w) (hE.elem t e hty).under hsz (ad:=ad) k2 (vl:=none) (.inl ⟨rfl,rfl⟩) (by rw [qi] at b2; exact b2) (Int.le_refl _) c1 c2'
 have hr2:(execOp a.eval o).run C.P w= .ok (.value (sliced ad 0 l.toNat cap e.size)) w:=by
  rw [hr,k1,hrun]; rfl
 refine qK hr2 ?_
 rw [qiR a hdst]
 exact h.mut hds [s] (fun s' hs'=>by simp at hs'; subst hs'; exact ⟨hss,fun e=>hne e.symm⟩) (qcx.refl _ _) (fun b hb=> .inr (.inr ⟨s,by simp,hb⟩)) (h.nodup s) k3 rfl
theorem qtk (hE:qbG E C.P) (h:qag C σ a.tmps w own) {t:Nat} {x1:Op1} {v:Value} (hx:qb3 (sit C σ a.tmps w own) x1 v) (hs:∀s,x1.s=some s→x1.a≠ .undef→s<σ.length) {hi:Option Op1} {vh:Option Value}
  (hh:(hi=none∧vh=none)∨∃b' v',hi=some b'∧vh=some v'∧qb3 (sit C σ a.tmps w own) b' v')
  (hr:(execOp a.eval o).run C.P w=((Instr.sliceAt t v none vh none).run C.P w).andThen fun v w=> .ok (.value v) w) {q:Q Eff} (hq:cutE E o t x1 hi=some q) {f:Eff}
  (he:q.run (qt σ)=some f) (hd:∀u∈f.upd,u.s<σ.length) (hc:qd3 f.chk):qdT C o a w (qr σ f.upd):=by
 obtain ⟨os,ov,oa⟩:=x1
 have chk:∀ {h n:Int},qd3 [inS 0 h n]→0≤h∧h≤n:=fun {h n} hc=>by
  have:=hc _ (List.mem_singleton.2 rfl)
  have:0≤(0:Int)∧0≤h∧h≤n:=by simpa [qkq] using this
  omega
 unfold cutE at hq
 split at hq
 ·rename_i s et e xs d h1 h2 hdst
  simp only at h1 h2
  subst h1; subst h2
  split at hq
  case isFalse=>cases hq
  rename_i hcond
  obtain ⟨hne,hty⟩:=hcond
  injection hq with hq
  subst hq
  obtain ⟨l,h3,he⟩:=Q.bind_some he
  have:=Q.ret_some he
  subst this
  exact quL hE h hx.2.2 hh hr hdst hne hty h3 (hd ⟨d,true,.own et e (qau xs 0 l)⟩ (by simp)) (hd ⟨s,true,.undef⟩ (by simp)) hc
 ·rename_i _ et e h2
  simp only at h2
  subst h2
  split at hq
  case isFalse=>cases hq
  rename_i hty
  injection hq with hq
  subst hq
  obtain ⟨l,h3,he⟩:=Q.bind_some he
  have:=Q.ret_some he
  subst this
  have b2:=qer h hh h3
  obtain ⟨c1,c2⟩:=chk hc
  have hv:v= .slice none 0 0:=(hx.unowned rfl).2
  have hsz:(sizeOf (E.etid t)).run C.P=fun w=> .ok e.size w:=hE.size t e (.inl hty)
  have hrun:=qeU (w:=w) (hE.elem t e hty).under hsz (ad:=none) (Nat.le_refl 0) (vl:=none) (.inl ⟨rfl,rfl⟩) b2 (Int.le_refl _) c1 c2
  have h0:l.toNat=0:=by omega
  have hr2:(execOp a.eval o).run C.P w= .ok (.value (.slice none 0 0)) w:=by
   rw [hr,hv,hrun,h0]; simp [sliced]
  exact qK hr2 (h.dst0 hd ⟨rfl,rfl⟩ (fun m hm=>by cases hm))
 ·rename_i _ s v0 d h2 hdst
  simp only at h2
  subst h2
  injection hq with hq
  subst hq
  unfold qtx at he
  rw [Q.run_get] at he
  split at he
  case isFalse=>cases he
  rename_i hv
  split at he
  ·rename_i et e xs ha
   split at he
   case isFalse=>cases he
   rename_i hcond
   obtain ⟨hne,hty⟩:=hcond
   obtain ⟨l,h3,he⟩:=Q.bind_some he
   have:=Q.ret_some he
   subst this
   have hval:a.tmps.getD s undef=v:=(hx.unowned rfl).2 hv
   have hat:=h.at_ s
   rw [ha,hval] at hat
   exact quL hE h hat hh hr hdst hne hty h3 (hd ⟨d,true,.own et e (qau xs 0 l)⟩ (by simp)) (hd ⟨s,true,.undef⟩ (by simp)) hc
  ·exact qhm hE h hx (.inl ⟨rfl,rfl⟩) hh hr he hd hc
 ·cases hq
theorem qrj (hE:qbG E C.P) (h:qag C σ a.tmps w own) (hp:qbL (sit C σ a.tmps w own) p) {t:Nat} {x:Operand} {lo hi:Option Operand} (hop:o.op= .slice t x lo hi none) {f:Eff}
  (he:(qee E p o).run (qt σ)=some f) (hd:∀u∈f.upd,u.s<σ.length) (hc:qd3 f.chk):qdT C o a w (qr σ f.upd):=by
 unfold qee at he
 rw [hop] at he
 obtain ⟨x1,hx,he⟩:=Q.bind_some he
 have ho:=qaE h hp hx
 have hr:(execOp a.eval o).run C.P w=((Instr.sliceAt t (a.eval x) (lo.map a.eval) (hi.map a.eval) none).run C.P w).andThen fun v w=> .ok (.value v) w:=by
  unfold execOp
  rw [hop]
  simp
 cases lo with
 |none=>cases hi with
  |none=>
   simp only at he
   split at he
   ·rename_i q hq
    exact qtk hE h ho (qoK hx) (.inl ⟨rfl,rfl⟩) hr hq he hd hc
   ·exact qhm hE h ho (.inl ⟨rfl,rfl⟩) (.inl ⟨rfl,rfl⟩) hr he hd hc
  |some hi=>
   obtain ⟨b,hb,he⟩:=Q.bind_some he
   split at he
   ·rename_i q hq
    exact qtk hE h ho (qoK hx) (.inr ⟨_,_,rfl,rfl,qaE h hp hb⟩) hr hq he hd hc
   ·exact qhm hE h ho (.inl ⟨rfl,rfl⟩) (.inr ⟨_,_,rfl,rfl,qaE h hp hb⟩) hr he hd hc
 |some lo=>cases hi with
  |none=>
   obtain ⟨b,hb,he⟩:=Q.bind_some he
   exact qhm hE h ho (.inr ⟨_,_,rfl,rfl,qaE h hp hb⟩) (.inl ⟨rfl,rfl⟩) hr he hd hc
  |some hi=>
   obtain ⟨b,hb,he⟩:=Q.bind_some he
   obtain ⟨b',hb',he⟩:=Q.bind_some he
   exact qhm hE h ho (.inr ⟨_,_,rfl,rfl,qaE h hp hb⟩) (.inr ⟨_,_,rfl,rfl,qaE h hp hb'⟩) hr he hd hc
theorem qrd (hE:qbG E C.P) (h:qag C σ a.tmps w own) (hp:qbL (sit C σ a.tmps w own) p) {t:Nat} {x:Operand} {fl:Nat} (hop:o.op= .field t x fl) {f:Eff}
  (he:(qee E p o).run (qt σ)=some f) (hd:∀u∈f.upd,u.s<σ.length) (hc:qd3 f.chk):qdT C o a w (qr σ f.upd):=by
 unfold qee at he
 rw [hop] at he
 obtain ⟨x1,hx,he⟩:=Q.bind_some he
 have ho:=qaE h hp hx
 split at he
 ·rename_i t' off u h1 h2 h3
  obtain ⟨r,hr,he⟩:=Q.bind_some he
  have rx:=qcS h ho hr
  split at he
  ·rename_i y hy
   obtain ⟨fz,hf,he⟩:=Q.bind_some he
   have:=qL he
   subst this
   obtain ⟨fs,fd,k1,k2,k3,k4,_⟩:=hE.off t fl off h2
   obtain ⟨q1,q2⟩:=rx.1.sub hy
   have hag:t'.agg=true:=by
    obtain ⟨d,d1,d2⟩:=(hE.ty t t' h1).desc
    rw [k1] at d1
    injection d1 with d1
    subst d1
    exact d2.symm
   obtain ⟨cs,ecs⟩:=rx.2.1 hag
   refine qhZ h (v:=mkV u (((a.eval x).cells.toList.drop off).take u.size)) ?_ hf hd (.ofCells q2)
   unfold execOp
   rw [hop]
   simp only [Sem.run_bind,Instr.field,run_underlying k1,Result.andThen_ok,k2,ecs,asAgg,Sem.run_pure]
   rw [ecs] at q1
   have hl:off+u.size≤cs.toList.length:=by simpa [Value.cells] using q1
   have:=(hE.ty _ _ h3).run_part (w:=w) (cs:=cs.toList) (off:=off) hl
   rw [k3,k4]
   simp only [Array.toArray_toList] at this
   rw [this]
   simp [Value.cells]
  ·cases he
 ·cases he
theorem qmo (hE:qbG E C.P) (h:qag C σ a.tmps w own) (hp:qbL (sit C σ a.tmps w own) p) {t:Nat} {x:Operand} {fl:Nat} (hop:o.op= .fieldAddr t x fl) {f:Eff}
  (he:(qee E p o).run (qt σ)=some f) (hd:∀u∈f.upd,u.s<σ.length) (hc:qd3 f.chk):qdT C o a w (qr σ f.upd):=by
 unfold qee at he
 rw [hop] at he
 obtain ⟨x1,hx,he⟩:=Q.bind_some he
 have ho:=qaE h hp hx
 split at he
 ·rename_i off h2
  obtain ⟨fs,fd,k1,k2,k3,k4,i,k5,k6⟩:=hE.off t fl off h2
  refine quB h hp.1 ho (qqv h hx) he hd fun ad hv=> ?_
  unfold execOp
  rw [hop]
  simp [Instr.fieldAt,run_underlying k1,k2,hv,Instr.sureAddr,fieldPlace,sizeOf,typeInfo,k5,k6,k3]
 ·cases he
theorem qgc {P:Program} {t e:Nat} (ht:P.underlying t=some (.slice e)) {sz:Nat} (hs:(sizeOf e).run P=fun w=> .ok sz w) {ad:Addr} {len cap:Nat} {k:IntKind} {i:Int} (h0:0≤i) (h1:i<len):
  (Instr.indexAt t (.slice (some ad) len cap) (.int k i)).run P w= .ok (.pointer (some (ad.add (i.toNat * sz)))) w:=by
 simp [Instr.indexAt,asIntOf,run_underlying ht,h0,h1,hs]
theorem qmm (hE:qbG E C.P) (h:qag C σ a.tmps w own) (hp:qbL (sit C σ a.tmps w own) p) {t:Nat} {x ix:Operand} (hop:o.op= .indexAddr t x ix) {f:Eff}
  (he:(qee E p o).run (qt σ)=some f) (hd:∀u∈f.upd,u.s<σ.length) (hc:qd3 f.chk):qdT C o a w (qr σ f.upd):=by
 unfold qee at he
 rw [hop] at he
 obtain ⟨x1,hx,he⟩:=Q.bind_some he
 obtain ⟨i1,hi,he⟩:=Q.bind_some he
 have ho:=qaE h hp hx
 have hoi:=qaE h hp hi
 unfold qm4 at he
 obtain ⟨i,hn,he⟩:=Q.bind_some he
 obtain ⟨e2,g2⟩:=qef h hoi hn
 have hr:(execOp a.eval o).run C.P w=((Instr.indexAt t (a.eval x) (.int i.1 i.2)).run C.P w).andThen fun v w=> .ok (.value v) w:=by
  unfold execOp
  rw [hop]
  simp [Sem.run_bind,e2]
 split at he
 case h_2=>
  rename_i n e0 hty
  split at he
  ·cases he
  rename_i hn2
  have chk:qd3 [inB i.2 n]→0≤i.2∧i.2<(n:Int):=fun hc=>by
   have:=hc _ (List.mem_singleton.2 rfl)
   simp [qcz] at this
   exact this
  have hsz:=hE.size t e0 (.inr ⟨n,hty⟩)
  have run:∀ {ad:Addr},0≤i.2→i.2<(n:Int)→(Instr.indexAt t (.pointer (some ad)) (.int i.1 i.2)).run C.P w= .ok (.pointer (some (ad.add (i.2.toNat * e0.size)))) w:=fun {ad} h0 h1=>by
   simp [Instr.indexAt,Instr.sureAddr,asIntOf,run_underlying (hE.arr t n e0 hty),h0,h1,hsz]
  split at he
  ·rename_i s v b hb
   rw [Q.run_get] at he
   split at he
   case isFalse=>cases he
   rename_i hv
   have:=Q.ret_some he
   subst this
   obtain ⟨i0,i1⟩:=chk hc
   obtain ⟨bb,k1,k2,k3⟩:=qfn h hp.1 ho hb hv
   rw [k2,show ptr bb b= .pointer (some ⟨bb,b,none⟩) from rfl,run i0 i1] at hr
   obtain ⟨q1,q2⟩:=qtp (C:=C) (w:=w) (own:=own) (off:=b) (e:=e0) (o2:=0) (v:= .pointer (some ((⟨bb,b,none⟩:Addr).add (i.2.toNat * e0.size)))) hv i0 i1 k1 (by rw [qaK,Nat.add_zero]; rfl) k3
   exact qK hr (h.dst0 hd q1 q2)
  ·split at he
   ·rename_i t' y off hxa
    split at he
    ·rename_i ys hs
     have:=Q.ret_some he
     subst this
     obtain ⟨i0,i1⟩:=chk hc
     obtain ⟨_,ad,cs,k1,g1,g2,g3,g4⟩:=hxa ▸ ho.unowned (by rw [hxa]; rfl)
     rw [k1,run i0 i1] at hr
     obtain ⟨m1,m2⟩:=g4.sub hs
     obtain ⟨z,z1,z2,z3⟩:=m2.elem (i:=i.2.toNat) (by omega)
     refine qK hr (h.dst0 hd ⟨rfl,(ad.add off).add (i.2.toNat * e0.size),(((cs.drop off).take (Ty.arr n e0).size).drop (i.2.toNat * e0.size)).take e0.size,?_,?_,?_,?_,?_⟩ (fun m hm=>by cases hm))
     ·rw [qaB _ _ 0]; rfl
     ·rw [qT,qT]; exact g1
     ·rw [qT,qT]; exact g2
     ·intro j u hj
      rw [qaB,qaB]
      refine g3 _ _ ?_
      rw [List.getElem?_take] at hj
      split at hj
      case isFalse=>cases hj
      rw [List.getElem?_drop,List.getElem?_take] at hj
      split at hj
      case isFalse=>cases hj
      rw [List.getElem?_drop] at hj
      rw [←hj]
     ·rw [qgy z1]; exact z2
    ·cases he
   ·cases he
 case h_3=>cases he
 rename_i e0 hty
 have hem:=hE.elem t e0 hty
 have chk:∀ {n:Int},qd3 [inB i.2 n]→0≤i.2∧i.2<n:=fun {n} hc=>by
  have:=hc _ (List.mem_singleton.2 rfl)
  simp [qcz] at this
  exact this
 have kOwn:∀(s v0:Nat) (fo:Option Nat) (et:Nat) (e:Ty) (xs:List e.den) (bs:List Nat),(qt σ s).1=v0→qfC (sit C σ a.tmps w own) s fo (a.eval x)→q7 w (C.free w own) et e xs (a.eval x) bs→e.size=e0.size→f=⟨qbV o (.prow s v0 fo e.size i.2 0),[inB i.2 (qn xs)]⟩→qdT C o a w (qr σ f.upd):=by
  intro s v0 fo et e xs bs hv htm hrow hsz hf
  subst hf
  obtain ⟨c1,c2⟩:=chk hc
  obtain ⟨cells,k1,k2,k3⟩:=hrow
  rcases k1.2 with ⟨k4,k5⟩|⟨g,cap,cur,k4,k5,k6,k7,k8,k9,k10⟩
  ·simp [qi] at c2; omega
  ·rw [k4] at hr
   rw [qgc (w:=w) hem.under (hE.size t e0 (.inl hty)) c1 (by simpa [qi] using c2)] at hr
   refine qK hr (h.dst0 hd ⟨rfl,fun _=>⟨g,xs.length,cap,k4 ▸ htm,c1,by rw [qi] at c2; exact c2,?_⟩⟩ (fun m hm=> ?_))
   ·rw [qaK,hsz]; simp [ptr]
   ·simp [AV.mentions] at hm
    subst hm
    exact Nat.le_of_eq hv.symm
 have val:∀(e:Ty) (xs:List e.den),qaq w (C.free w own) (.slice e) xs (a.eval x)→e.size=e0.size→f=⟨qbV o (.view e (qh xs i.2 e.dflt) 0),[inB i.2 (qn xs)]⟩→qdT C o a w (qr σ f.upd):=by
  intro e xs hrow hsz hf
  subst hf
  obtain ⟨c1,c2⟩:=chk hc
  rcases qaq.slice hrow with ⟨_,k5⟩|⟨ad,cap,k4,k5,k6,k7⟩
  ·subst k5; simp [qi] at c2; omega
  ·have hlt:i.2.toNat<xs.length:=by simp [qi] at c2; omega
   rw [k4] at hr
   rw [qgc (w:=w) hem.under (hE.size t e0 (.inl hty)) c1 (by simpa [qi] using c2)] at hr
   obtain ⟨q1,q2,cs,q3,q4⟩:=k7 _ _ (List.getElem?_eq_getElem hlt)
   refine qK hr (h.dst0 hd ⟨rfl,ad.add (i.2.toNat * e.size),cs,?_,?_,?_,q3,?_⟩ (fun m hm=>by cases hm))
   ·rw [qaB,hsz]; rfl
   ·rw [qT]; exact q1
   ·rw [qT]; exact q2
   ·rw [qgy (List.getElem?_eq_getElem hlt)]; exact q4
 obtain ⟨os,ov,oa⟩:=x1
 cases oa with
 |own et e xs=>
  cases os with
  |none=>simp only [hty] at he; cases he
  |some s=>
   simp only [hty] at he
   split at he
   ·rename_i hsz
    obtain ⟨k1,k2,k3⟩:=ho
    exact kOwn s ov none et e xs _ k2.symm k1.symm k3 hsz (Q.ret_some he).symm
   ·cases he
 |ref s v=>
  cases os
  all_goals
   simp only [hty,Q.run_get] at he
   split at he
   ·rename_i hv
    have hu:=(ho.unowned rfl).2 hv
    have hu:a.tmps.getD s undef=a.eval x:=hu
    have hat:=h.at_ s
    rw [hu] at hat
    split at he
    ·rename_i et e xs h3
     rw [h3] at hat
     split at he
     ·rename_i hsz
      exact kOwn s v none et e xs _ hv hu hat hsz (Q.ret_some he).symm
     ·cases he
    ·rename_i e xs h3
     rw [h3] at hat
     split at he
     ·rename_i hsz
      exact val e xs hat.2 hsz (Q.ret_some he).symm
     ·cases he
    ·cases he
   ·cases he
 |val t' xs=>
  cases t' with
  |slice e=>
   cases os
   all_goals
    simp only [hty] at he
    split at he
    ·rename_i hsz
     exact val e xs (ho.unowned rfl).2 hsz (Q.ret_some he).symm
    ·cases he
  |_=>cases os <;> simp only [hty] at he <;> cases he
 |bref s v off u=>
  cases os
  all_goals
   simp only [hty] at he
   split at he
   ·rename_i hag
    rw [Q.run_get] at he
    split at he
    ·rename_i hv
     split at he
     ·rename_i et e xs h3
      split at he
      ·rename_i hsz
       have hh:=qiz (ho.unowned rfl) hag hv
       obtain ⟨_,b1,b2,b3,q1,_⟩:=h.rowAt h3 hh
       exact kOwn s v (some off) et e xs b2 hv hh q1 hsz (Q.ret_some he).symm
      ·cases he
     ·cases he
    ·cases he
   ·cases he
 |_=>cases os <;> simp only [hty] at he <;> cases he
end
end Go.Vi
