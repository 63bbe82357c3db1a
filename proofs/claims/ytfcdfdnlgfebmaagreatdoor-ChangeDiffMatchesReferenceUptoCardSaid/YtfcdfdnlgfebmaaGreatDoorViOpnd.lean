/- The abstract interpreter: operands. -/
import Derived.Test.YtfcdfdnlgfebmaaGreatDoorViState
set_option linter.unusedVariables false
set_option linter.unusedSimpArgs false
set_option linter.unnecessarySimpa false
set_option linter.unusedSectionVars false
namespace Go.Vi
section
variable {α β:Type} {lk:Nat→Ent}
theorem Q.run_ret (a:α):(Q.ret a).run lk=some a:=rfl
theorem Q.run_get (s:Nat) (k:Ent→Q α):(Q.get s k).run lk=(k (lk s)).run lk:=rfl
theorem Q.run_bind (q:Q α) (f:α→Q β):(q.bind f).run lk=(q.run lk).bind fun a=>(f a).run lk:=by
 induction q with
 |ret a=>rfl
 |fail=>rfl
 |get s k ih=>exact ih (lk s)
theorem Q.bind_some {q:Q α} {f:α→Q β} {r:β} (h:(q.bind f).run lk=some r):∃a,q.run lk=some a∧(f a).run lk=some r:=by
 rw [Q.run_bind] at h
 exact Option.bind_eq_some_iff.1 h
theorem Q.ret_some {a r:α} (h:(Q.ret a).run lk=some r):a=r:=by injection h
end
theorem qaq.mono {w:World} {F F':Nat→Prop} (hF:∀b,F b→b<w.heap.size→F' b) {t:Ty} {x:t.den} {v:Value} (h:qaq w F t x v):qaq w F' t x v:=
 h.keep fun b hb hs=>⟨hF b hb hs,hs,rfl⟩
theorem qcs {v:Value} (h:∀cs,v≠ .agg cs):v.cells= #[v]:=by
 cases v <;> first|rfl|exact absurd rfl (h _)
theorem qaq.int {w:World} {F:Nat→Prop} {k:IntKind} {n:Int} {v:Value} (h:qaq w F (.int k) n v):v= .int k n∧k.has n:=by
 have h2:=qcs (h.2.2 rfl)
 have h1:=h.1
 rw [h2] at h1
 exact ⟨by simpa using h1.1,h1.2⟩
theorem qaq.bool {w:World} {F:Nat→Prop} {b:Bool} {v:Value} (h:qaq w F .bool b v):v= .bool b:=by
 have h2:=qcs (h.2.2 rfl)
 have h1:=h.1
 rw [h2] at h1
 simpa [Rep] using h1
theorem qaq.str {w:World} {F:Nat→Prop} {s:List UInt8} {v:Value} (h:qaq w F .str s v):v= .string ⟨s.toArray⟩∧s.length≤maxLen:=by
 have h2:=qcs (h.2.2 rfl)
 have h1:=h.1
 rw [h2] at h1
 exact ⟨by simpa using h1.1,h1.2⟩
theorem qaq.err {w:World} {F:Nat→Prop} {b:Bool} {v:Value} (h:qaq w F .err b v):(b=true∧v= .nilIface)∨(b=false∧∃t x,v= .iface t x):=by
 have h2:=qcs (h.2.2 rfl)
 obtain ⟨u,h1,h3⟩:=h.1
 rw [h2] at h1
 simp at h1
 subst h1
 exact h3
theorem qaq.ofErr {w:World} {F:Nat→Prop} {b:Bool} {v:Value} (h:(b=true∧v= .nilIface)∨(b=false∧∃t x,v= .iface t x)):qaq w F .err b v:=by
 have hv:∀cs,v≠ .agg cs:=by
  intro cs he
  rcases h with ⟨_,h⟩|⟨_,t,x,h⟩ <;> rw [he] at h <;> cases h
 exact ⟨⟨v,(by rw [qcs hv]),h⟩,(fun h=>by simp [Ty.agg] at h),fun _=>hv⟩
theorem qaq.opt {w:World} {F:Nat→Prop} {e:Ty} {x:Option e.den} {v:Value} (h:qaq w F (.opt e) x v):qsN w F (Rep w F e) x v:=by
 have h2:=qcs (h.2.2 rfl)
 obtain ⟨u,h1,h3⟩:=h.1
 rw [h2] at h1
 simp at h1
 subst h1
 exact h3
theorem qaq.ofOpt {w:World} {F:Nat→Prop} {e:Ty} {x:Option e.den} {v:Value} (h:qsN w F (Rep w F e) x v):qaq w F (.opt e) x v:=by
 have hv:∀cs,v≠ .agg cs:=by
  intro cs he
  rcases h with ⟨_,h⟩|⟨_,_,_,_,h,_⟩ <;> rw [he] at h <;> cases h
 exact ⟨⟨v,(by rw [qcs hv]),h⟩,(fun h=>by simp [Ty.agg] at h),fun _=>hv⟩
theorem qaq.slice {w:World} {F:Nat→Prop} {e:Ty} {xs:List e.den} {v:Value} (h:qaq w F (.slice e) xs v):qeg w F (Rep w F e) e.size xs v:=by
 have h2:=qcs (h.2.2 rfl)
 have h1:=h.1
 rw [h2] at h1
 obtain ⟨v',hv,hs⟩:=h1
 simp at hv
 subst hv
 exact hs
theorem qaq.ofInt (w:World) (F:Nat→Prop) {k:IntKind} {n:Int} (h:k.has n):qaq w F (.int k) n (.int k n):=⟨⟨rfl,h⟩,(fun h=>by cases h),(fun _ cs h=>by cases h)⟩
theorem qaq.ofBool (w:World) (F:Nat→Prop) (b:Bool):qaq w F .bool b (.bool b):=⟨rfl,(fun h=>by cases h),(fun _ cs h=>by cases h)⟩
theorem qaq.ofStr (w:World) (F:Nat→Prop) {s:List UInt8} (h:s.length≤maxLen):qaq w F .str s (.string ⟨s.toArray⟩):=⟨⟨rfl,h⟩,(fun h=>by cases h),(fun _ cs h=>by cases h)⟩
theorem qaq.ofSlice {w:World} {F:Nat→Prop} {e:Ty} {xs:List e.den} {v:Value} (h:qeg w F (Rep w F e) e.size xs v):qaq w F (.slice e) xs v:=by
 have hv:∀cs,v≠ .agg cs:=by
  intro cs he
  rcases h with ⟨h,_⟩|⟨a,cap,h,_⟩ <;> rw [he] at h <;> cases h
 exact ⟨⟨v,(by rw [qcs hv]),h⟩,(fun h=>by simp [Ty.agg] at h),fun _=>hv⟩
def mkV (t:Ty) (cs:List Value):Value:=if t.agg then .agg cs.toArray else cs.headD undef
theorem qaq.ofCells {w:World} {F:Nat→Prop} {t:Ty} {x:t.den} {cs:List Value} (h:Rep w F t x cs):qaq w F t x (mkV t cs):=by
 cases t with
 |int k=>obtain ⟨rfl,h⟩:=h; exact .ofInt w F h
 |bool=>have h:cs=_:=h; subst h; exact .ofBool w F _
 |str=>obtain ⟨rfl,h⟩:=h; exact .ofStr w F h
 |slice e=>obtain ⟨v,rfl,h⟩:=h; exact .ofSlice h
 |err=>obtain ⟨v,rfl,h⟩:=h; exact .ofErr h
 |opt e=>obtain ⟨v,rfl,h⟩:=h; exact .ofOpt h
 |map k v=>exact False.elim h
 |unit=>exact ⟨(by simpa [mkV,Ty.agg,Value.cells] using h),(fun _=>⟨_,rfl⟩),(fun h=>by simp [Ty.agg] at h)⟩
 |pair a b=>exact ⟨(by simpa [mkV,Ty.agg,Value.cells] using h),(fun _=>⟨_,rfl⟩),(fun h=>by simp [Ty.agg] at h)⟩
 |arr n e=>exact ⟨(by simpa [mkV,Ty.agg,Value.cells] using h),(fun _=>⟨_,rfl⟩),(fun h=>by simp [Ty.agg] at h)⟩
theorem qaq.eq_mkV {w:World} {F:Nat→Prop} {t:Ty} {x:t.den} {v:Value} (h:qaq w F t x v):v=mkV t v.cells.toList:=by
 cases ht:t.agg with
 |true=>
  obtain ⟨cs,rfl⟩:=h.2.1 ht
  simp [mkV,ht,Value.cells]
 |false=>
  rw [qcs (h.2.2 ht)]
  simp [mkV,ht]
theorem qaq.as {w:World} {F:Nat→Prop} {t u:Ty} {x:t.den} {y:u.den} {v:Value} (h:Ty.as u x=some y) (hr:qaq w F t x v):qaq w F u y v:=by
 obtain ⟨rfl,rfl⟩:=Ty.as_some h
 exact hr
theorem q7.rep {w:World} {F:Nat→Prop} {et:Nat} {e:Ty} {xs:List e.den} {v:Value} {bs:List Nat} (h:q7 w F et e xs v bs):qaq w (fun b=>F b∨b∈bs) (.slice e) xs v:=by
 obtain ⟨cells,ho,hbs,hx⟩:=h
 refine .ofSlice ?_
 rcases ho.2 with ⟨h1,h2⟩|⟨g,cap,cur,hv,_,hg,hnc,hcm,hcs,htake⟩
 ·exact .inl ⟨h1,List.eq_nil_of_length_eq_zero h2⟩
 ·refine .inr ⟨⟨g,0,none⟩,cap,hv,hnc,hcm,fun i x hi=>⟨.inr (by rw [hbs,hv]; simp [Value.ownBlock]),(Array.getElem?_eq_some_iff.1 hg).1,_,?_,(hx i x hi).keep fun b hb hs=>⟨.inl hb,hs,rfl⟩⟩⟩
  intro j u hu
  have hc:=ho.cells (g:=g) (by rw [hv]; rfl)
  rw [qaB]
  refine hc _ _ ?_
  rw [List.getElem?_take] at hu
  split at hu
  ·rwa [List.getElem?_drop] at hu
  ·cases hu
theorem quw.rep {w:World} {F:Nat→Prop} {b off:Nat} {u:Ty} {y:u.den} {v:Value} {cs:List Value} (hc:∀j x,cs[j]? =some x→w.cell? ⟨b,j,none⟩=some x)
  (hl:off+u.size≤cs.length) (h:quw w b off u v) (hr:Rep w F u y ((cs.drop off).take u.size)):qaq w F u y v:=by
 have key:v=mkV u ((cs.drop off).take u.size):=by
  rcases h with ⟨h1,cs',rfl,h2,h3⟩|⟨h1,h2⟩
  ·have:cs'=(cs.drop off).take u.size:=by
    apply List.ext_getElem (by rw [h2,List.length_take,List.length_drop]; omega)
    intro j hj hj'
    have e1:=h3 j _ (List.getElem?_eq_getElem hj)
    rw [qaK] at e1
    have e2:=hc (off+j) (cs[off+j]'(by rw [h2] at hj; omega)) (List.getElem?_eq_getElem _)
    rw [e1] at e2
    injection e2 with e2
    rw [e2,List.getElem_take,List.getElem_drop]
   rw [mkV,if_pos h1,this]
  ·have hs:u.size=1:=by cases u <;> simp [Ty.agg] at h1 <;> rfl
   have e2:=hc off (cs[off]'(by omega)) (List.getElem?_eq_getElem _)
   rw [h2] at e2
   injection e2 with e2
   rw [mkV,if_neg (by simp [h1]),hs,List.drop_eq_getElem_cons (by omega),e2]
   rfl
 rw [key]
 exact .ofCells hr
theorem qbg.length {w:World} {F:Nat→Prop} : {c:BC} → {cs:List Value} → {bs:List Nat} →qbg w F c cs bs→cs.length=c.size
 | .val _ _,_,_,h=>h.2.length
 | .own _ _ _,_,_,⟨v,h,_⟩=>by rw [h]; rfl
 | .pair _ _,_,_,⟨c1,c2,b1,b2,h1,h2,h3,h4⟩=>by rw [h1,List.length_append,h3.length,h4.length]; rfl
 | .hole _,_,_,h=>h.2
theorem qbg.get {w:World} {F:Nat→Prop} : {c:BC} → {cs:List Value} → {bs:List Nat} → {off:Nat} → {u:Ty} → {y:u.den} → {f:Bool} →qbg w F c cs bs→c.get off u=some (y,f)→
  off+u.size≤cs.length∧Rep w (fun b=>F b∨b∈bs) u y ((cs.drop off).take u.size)∧(f=false→Rep w F u y ((cs.drop off).take u.size))
 | .val t x,cs,bs,off,u,y,f,h,hg=>by
  simp only [BC.get,Option.map_eq_some_iff] at hg
  obtain ⟨z,h1,h2⟩:=hg
  injection h2 with h2 h3
  subst h2; subst h3
  obtain ⟨g1,g2⟩:=h.2.sub h1
  exact ⟨g1,g2.keep (fun b hb hs=>⟨.inl hb,hs,rfl⟩),fun _=>g2⟩
 | .own et e xs,cs,bs,off,u,y,f,h,hg=>by
  simp only [BC.get] at hg
  split at hg
  ·rename_i h0
   subst h0
   simp only [Option.map_eq_some_iff] at hg
   obtain ⟨z,h1,h2⟩:=hg
   injection h2 with h2 h3
   subst h2; subst h3
   obtain ⟨rfl,rfl⟩:=Ty.as_some h1
   obtain ⟨v,rfl,ho⟩:=h
   have hr:=ho.rep.1
   rw [qcs (ho.rep.2.2 rfl)] at hr
   exact ⟨(by simp [Ty.size]),(by simpa [Ty.size] using hr),(fun h=>by cases h)⟩
  ·cases hg
 | .pair a b,cs,bs,off,u,y,f,h,hg=>by
  obtain ⟨c1,c2,b1,b2,rfl,rfl,h1,h2⟩:=h
  have l1:=h1.length
  have l2:=h2.length
  have mono1:∀(t:Ty) (x:t.den) (l:List Value),Rep w (fun b=>F b∨b∈b1) t x l→Rep w (fun b=>F b∨b∈b1++b2) t x l:=fun t x l hr=>
   hr.keep fun b hb hs=>⟨hb.imp id fun h=>List.mem_append_left _ h,hs,rfl⟩
  have mono2:∀(t:Ty) (x:t.den) (l:List Value),Rep w (fun b=>F b∨b∈b2) t x l→Rep w (fun b=>F b∨b∈b1++b2) t x l:=fun t x l hr=>
   hr.keep fun b hb hs=>⟨hb.imp id fun h=>List.mem_append_right _ h,hs,rfl⟩
  have left:∀(off:Nat) (u:Ty) (y:u.den) (f:Bool),a.get off u=some (y,f)→
    off+u.size≤(c1++c2).length∧Rep w (fun b=>F b∨b∈b1++b2) u y (((c1++c2).drop off).take u.size)∧(f=false→Rep w F u y (((c1++c2).drop off).take u.size)):=fun off u y f hg=>by
   obtain ⟨g1,g2,g3⟩:=h1.get hg
   rw [qd8 g1]
   exact ⟨by rw [List.length_append]; omega,mono1 _ _ _ g2,g3⟩
  have right:∀(off:Nat) (u:Ty) (y:u.den) (f:Bool),a.size≤off→b.get (off - a.size) u=some (y,f)→
    off+u.size≤(c1++c2).length∧Rep w (fun b=>F b∨b∈b1++b2) u y (((c1++c2).drop off).take u.size)∧(f=false→Rep w F u y (((c1++c2).drop off).take u.size)):=fun off u y f hle hg=>by
   obtain ⟨g1,g2,g3⟩:=h2.get hg
   rw [qdw (by omega),l1]
   exact ⟨by rw [List.length_append]; omega,mono2 _ _ _ g2,g3⟩
  unfold BC.get at hg
  split at hg
  ·rename_i ua ub
   split at hg
   ·rename_i hsz
    split at hg
    ·rename_i x f1 y' f2 e1 e2
     injection hg with hg
     injection hg with hg1 hg2
     subst hg1; subst hg2
     obtain ⟨g1,g2,g3⟩:=h1.get e1
     obtain ⟨k1,k2,k3⟩:=h2.get e2
     rw [List.drop_zero,←hsz,←l1,List.take_length] at g2 g3
     rw [List.drop_zero] at k2 k3
     have ht:((c1++c2).drop 0).take (Ty.pair ua ub).size=c1++c2.take ub.size:=by
      rw [List.drop_zero,show (Ty.pair ua ub).size=c1.length+ub.size by simp [Ty.size,l1,hsz],List.take_append,List.take_of_length_le (by omega),show c1.length+ub.size - c1.length=ub.size by omega]
     rw [ht]
     refine ⟨by simp [Ty.size]; omega,⟨c1,_,rfl,mono1 _ _ _ g2,mono2 _ _ _ k2⟩,fun hf=> ?_⟩
     simp only [Bool.or_eq_false_iff] at hf
     exact ⟨c1,_,rfl,g3 hf.1,k3 hf.2⟩
    ·cases hg
   ·exact left _ _ _ _ hg
  ·split at hg
   ·exact left _ _ _ _ hg
   ·exact right _ _ _ _ (by omega) hg
 | .hole _,_,_,_,_,_,_,_,hg=>by simp [BC.get] at hg
theorem Ty.dec_rep (w:World) (F:Nat→Prop):(t:Ty)→ {cs:List Value} → {x:t.den} → {r:List Value} →t.dec cs=some (x,r)→∃c,cs=c++r∧Rep w F t x c
 | .int k,cs,x,r,h=>by
  simp only [Ty.dec] at h
  split at h
  ·split at h
   ·rename_i hk
    obtain ⟨rfl,hk⟩:=hk
    injection h with h
    injection h with h1 h2
    subst h1; subst h2
    exact ⟨[_],rfl,rfl,hk⟩
   ·cases h
  ·cases h
 | .bool,cs,x,r,h=>by
  simp only [Ty.dec] at h
  split at h
  ·injection h with h
   injection h with h1 h2
   subst h1; subst h2
   exact ⟨[_],rfl,rfl⟩
  ·cases h
 | .str,cs,x,r,h=>by
  simp only [Ty.dec] at h
  split at h
  ·split at h
   ·rename_i hk
    injection h with h
    injection h with h1 h2
    subst h1; subst h2
    exact ⟨[_],rfl,rfl,by simp only [maxLen]; omega⟩
   ·cases h
  ·cases h
 | .err,cs,x,r,h=>by
  simp only [Ty.dec] at h
  split at h
  ·injection h with h
   injection h with h1 h2
   subst h1; subst h2
   exact ⟨[_],rfl,_,rfl,.inl ⟨rfl,rfl⟩⟩
  ·cases h
 | .opt e,cs,x,r,h=>by
  simp only [Ty.dec] at h
  split at h
  ·injection h with h
   injection h with h1 h2
   subst h1; subst h2
   exact ⟨[_],rfl,_,rfl,.inl ⟨rfl,rfl⟩⟩
  ·cases h
 | .map _ _,cs,x,r,h=>by cases h
 | .unit,cs,x,r,h=>by
  simp only [Ty.dec] at h
  injection h with h
  injection h with h1 h2
  subst h2
  exact ⟨[],rfl,rfl⟩
 | .pair a b,cs,x,r,h=>by
  simp only [Ty.dec] at h
  split at h
  ·rename_i x1 r1 h1
   split at h
   ·rename_i x2 r2 h2
    injection h with h
    injection h with e1 e2
    subst e1; subst e2
    obtain ⟨c1,e1,g1⟩:=Ty.dec_rep w F a h1
    obtain ⟨c2,e2,g2⟩:=Ty.dec_rep w F b h2
    exact ⟨c1++c2,by rw [e1,e2,List.append_assoc],c1,c2,rfl,g1,g2⟩
   ·cases h
  ·cases h
 | .slice e,cs,x,r,h=>by
  simp only [Ty.dec] at h
  split at h
  ·injection h with h
   injection h with h1 h2
   subst h1; subst h2
   exact ⟨[_],rfl,_,rfl,.inl ⟨rfl,rfl⟩⟩
  ·cases h
 | .arr n e,cs,x,r,h=>by
  simp only [Ty.dec] at h
  cases h
theorem qpI {E:Env} {tid:Nat} {c:Value} {a:AV} (X:Sit) (h:qlQ E tid c=some a):qaF X a c []:=by
 unfold qlQ at h
 split at h
 ·split at h
  ·rename_i hk
   injection h with h; subst h
   exact ⟨rfl,.ofInt _ _ hk⟩
  ·cases h
 ·injection h with h; subst h; exact ⟨rfl,.ofBool _ _ _⟩
 ·split at h
  ·rename_i s hs
   injection h with h; subst h
   refine ⟨rfl,?_⟩
   have:=qaq.ofStr X.w X.F (s:=s.data.toList) (by simp only [maxLen]; omega)
   simpa using this
  ·cases h
 ·split at h
  ·injection h with h; subst h
   exact ⟨[],World.ownsRow_nil _ _ _ _,rfl,fun i x hi=>by simp at hi⟩
  ·cases h
 ·split at h
  ·injection h with h; subst h
   exact ⟨rfl,qaq.ofErr (.inl ⟨rfl,rfl⟩)⟩
  ·cases h
 ·split at h
  ·injection h with h; subst h
   exact ⟨rfl,qaq.ofOpt (.inl ⟨rfl,rfl⟩)⟩
  ·cases h
 ·split at h
  ·rename_i t ht
   split at h
   ·rename_i hag
    split at h
    ·rename_i x hx
     injection h with h; subst h
     obtain ⟨c,e,hr⟩:=Ty.dec_rep X.w X.F t hx
     rw [List.append_nil] at e
     subst e
     exact ⟨rfl,hr,(fun _=>⟨_,rfl⟩),(fun h=>by rw [hag] at h; cases h)⟩
    ·cases h
   ·cases h
  ·cases h
 ·cases h
def qtC (X:Sit):Prop:=∀k b,X.pn k=some b→X.tm k=ptr b 0
def qbL (X:Sit) (p:qhl):Prop:=qtC X∧∀q∈p,X.ver q.1=q.2.1∧X.tm q.1= .bool q.2.2.1∧q.2.2.2=q.2.2.1
theorem qm1 {s v:Nat} {w:Bool} : {p:qhl} →qoy s v w p=true→∃b,(s,v,w,b)∈p
 |[],h=>by simp [qoy] at h
 |(s',v',w',b')::r,h=>by
  simp only [qoy,Bool.or_eq_true,Bool.and_eq_true,beq_iff_eq] at h
  rcases h with ⟨⟨rfl,rfl⟩,rfl⟩|h
  ·exact ⟨b',List.mem_cons_self⟩
  ·obtain ⟨b,hb⟩:=qm1 h
   exact ⟨b,List.mem_cons_of_mem _ hb⟩
theorem ql9 {X:Sit} {p:qhl} (hp:qbL X p): {a:AV} → {v:Value} → {bs:List Nat} →qaF X a v bs→qaF X (qbM p a) v bs
 | .grd s v0 w a,v,bs,h=>by
  unfold qbM
  split
  ·rename_i ho
   obtain ⟨b,hb⟩:=qm1 ho
   obtain ⟨h1,h2,_⟩:=hp.2 _ hb
   obtain ⟨rfl,h3⟩:=h
   exact ql9 hp ((h3 h1).1 h2)
  ·trivial
 | .undef,_,_,h=>by unfold qbM; exact h
 | .val _ _,_,_,h=>by unfold qbM; exact h
 | .own _ _ _,_,_,h=>by unfold qbM; exact h
 | .agg _,_,_,h=>by unfold qbM; exact h
 | .box _,_,_,h=>by unfold qbM; exact h
 | .ref _ _,_,_,h=>by unfold qbM; exact h
 | .bref _ _ _ _,_,_,h=>by unfold qbM; exact h
 | .pbox _ _ _,_,_,h=>by unfold qbM; exact h
 | .pip _ _,_,_,h=>by unfold qbM; exact h
 | .prow _ _ _ _ _ _,_,_,h=>by unfold qbM; exact h
 | .osl _ _ _ _ _ _,_,_,h=>by unfold qbM; exact h
 | .view _ _ _,_,_,h=>by unfold qbM; exact h
 | .tup _,_,_,h=>by unfold qbM; exact h
 | .fn _ _,_,_,h=>by unfold qbM; exact h
 | .fnv _ _ _,_,_,h=>by unfold qbM; exact h
 | .amb _ _,_,_,h=>by unfold qbM; exact h
 | .nilr _ _,_,_,h=>by unfold qbM; exact h
 | .mp _ _ _,_,_,h=>by unfold qbM; exact h
 | .parr _ _ _ _ _ _ _,_,_,h=>by unfold qbM; exact h
def qb3 (X:Sit) (o:Op1) (v:Value):Prop:=
 match o.s with
 |some t=>v=X.tm t∧o.v=X.ver t∧qaF X o.a v (X.own t)
 |none=>qaF X o.a v []
section
variable {C:Ctx} {σ:St} {tm:Array Value} {w:World} {own:Nat→List Nat} {ds:List Deferred}
theorem qag.at_ (h:qag C σ tm w own) (s:Nat):qaF (sit C σ tm w own) (qt σ s).2 (tm.getD s undef) (own s):=by
 by_cases hs:s<σ.length
 ·exact h.rep s hs
 ·have:qt σ s=(0,.undef):=by simp [qt,List.getD,List.getElem?_eq_none (show σ.length≤s by omega)]
  rw [this]
  trivial
theorem opd_ok (h:qag C σ tm w own) {E:Env} [tb:Tabbed E C] {p:qhl} {tid:Nat} {x:Operand} {o:Op1} (hp:qbL (sit C σ tm w own) p) (ho:(opd E p tid x).run (qt σ)=some o):
  qb3 (sit C σ tm w own) o ((⟨tm,ds⟩:Act).eval x):=by
 unfold opd at ho
 split at ho
 ·rw [Q.run_get] at ho
  have:=Q.ret_some ho
  subst this
  exact ⟨rfl,rfl,ql9 hp (h.at_ _)⟩
 ·split at ho
  ·rename_i hc
   have:=Q.ret_some ho
   subst this
   exact qpI _ hc
  ·cases ho
 ·have:=Q.ret_some ho
  subst this
  exact ⟨rfl,[],rfl,rfl,rfl⟩
 ·rename_i g
  split at ho
  ·rename_i r hg
   have:=Q.ret_some ho
   subst this
   obtain ⟨h1,h2,cs,h3,h4⟩:=qqX h.tabs (g:=g) (r:=r) (by rw [←tb.eq]; exact hg)
   exact ⟨rfl,⟨g,0,none⟩,cs,rfl,h1,h2,h3,h4⟩
  ·cases ho
def FW (X:Sit) (ow:List Nat) (b:Nat):Prop:=X.F b∨∃s∈ow,b∈X.own s∧X.tm s≠ptr b 0
theorem qkg {w:World} {F:Nat→Prop} {et:Nat} {e:Ty} {xs:List e.den} {v:Value} {bs:List Nat} (h:q7 w F et e xs v bs) (b:Nat):v≠ptr b 0:=by
 obtain ⟨cells,ho,_⟩:=h
 rcases ho.2 with ⟨rfl,_⟩|⟨g,cap,cur,rfl,_⟩ <;> (intro h; cases h)
theorem qm3 {X:Sit} {b:Nat} (h:FW X [] b):X.F b:=by
 rcases h with h|⟨s,h,_⟩
 ·exact h
 ·cases h
theorem qde (h:qag C σ tm w own) {o:Op1} {v:Value} {r:VR} (ho:qb3 (sit C σ tm w own) o v) (hr:(qmg o).run (qt σ)=some r):qaq w (FW (sit C σ tm w own) r.ow) r.t r.x v:=by
 obtain ⟨os,ov,oa⟩:=o
 unfold qmg at hr
 split at hr
 ·rename_i t x heq
  have:=Q.ret_some hr
  subst this
  simp only at heq
  subst heq
  have hv:qaq w (sit C σ tm w own).F t x v:=by
   unfold qb3 at ho
   cases os with
   |some s=>exact ho.2.2.2
   |none=>exact ho.2
  exact hv.mono fun b hb _=> .inl hb
 ·rename_i et e xs heq
  have:=Q.ret_some hr
  subst this
  simp only at heq
  subst heq
  unfold qb3 at ho
  cases os with
  |some s=>exact (q7.rep ho.2.2).mono fun b hb _=>hb.imp id fun hb=>⟨s,by simp,hb,by rw [←ho.1]; exact qkg ho.2.2 b⟩
  |none=>exact (q7.rep ho).mono fun b hb _=>hb.imp id fun hb=>by cases hb
 ·rename_i et e heq
  have:=Q.ret_some hr
  subst this
  simp only at heq
  subst heq
  have hv:v= .slice none 0 0:=by
   unfold qb3 at ho
   cases os with
   |some s=>exact ho.2.2.2
   |none=>exact ho.2
  rw [hv]
  exact ⟨⟨_,rfl,.inl ⟨rfl,rfl⟩⟩,(fun h=>by cases h),(fun _ cs h=>by cases h)⟩
 ·rename_i s v0 heq
  simp only at heq
  subst heq
  rw [Q.run_get] at hr
  split at hr
  ·rename_i hv
   have hval:tm.getD s undef=v:=by
    unfold qb3 at ho
    cases os with
    |some t=>exact ho.2.2.2 hv
    |none=>exact ho.2 hv
   have hat:=h.at_ s
   rw [hval] at hat
   split at hr
   ·rename_i e xs ha
    have:=Q.ret_some hr
    subst this
    rw [ha] at hat
    exact (q7.rep hat).mono fun b hb _=>hb.imp id fun hb=>⟨s,by simp,hb,by show tm.getD s undef≠_; rw [hval]; exact qkg hat b⟩
   ·rename_i t x ha
    have:=Q.ret_some hr
    subst this
    rw [ha] at hat
    exact hat.2.mono fun b hb _=> .inl hb
   ·cases hr
  ·cases hr
 ·rename_i s v0 off u heq
  simp only at heq
  subst heq
  rw [Q.run_get] at hr
  split at hr
  ·rename_i hv
   split at hr
   ·rename_i c ha
    split at hr
    ·rename_i x f hg
     have:=Q.ret_some hr
     subst this
     have hval:∃b,b∈own s∧tm.getD s undef=ptr b 0∧quw w b off u v:=by
      unfold qb3 at ho
      cases os with
      |some t=>exact ho.2.2.2 hv
      |none=>exact ho.2 hv
     obtain ⟨b,hb,hptr,hva⟩:=hval
     have hat:=h.at_ s
     rw [ha] at hat
     obtain ⟨b',cs,bs',te,h1,h2,h3,h4⟩:=hat
     rw [hptr] at h1
     have hbb:b=b':=by simp [ptr] at h1; exact h1
     subst hbb
     obtain ⟨g1,g2,g3⟩:=h3.get hg
     have hcell:∀j x,cs[j]? =some x→w.cell? ⟨b,j,none⟩=some x:=fun j x hj=>by
      simp [World.cell?,show w.heap[b]? =_ from h2,hj]
     cases f with
     |true=>
      refine (hva.rep hcell g1 g2).mono fun b1 hb1 _=>hb1.imp id fun hb1=>⟨s,by simp,?_,?_⟩
      ·show b1∈own s
       rw [h4]
       exact List.mem_cons_of_mem _ hb1
      ·show tm.getD s undef≠_
       rw [hptr]
       have hn:=h.nodup s
       rw [h4] at hn
       intro he
       have:b=b1:=by simp [ptr] at he; exact he
       subst this
       exact (List.nodup_cons.1 hn).1 hb1
     |false=>exact (hva.rep hcell g1 (g3 rfl)).mono fun b1 hb1 _=> .inl hb1
    ·cases hr
   ·cases hr
  ·cases hr
 ·cases hr
 ·cases hr
theorem qcS (h:qag C σ tm w own) {u:Ty} {o:Op1} {v:Value} {r:u.den×List Nat} (ho:qb3 (sit C σ tm w own) o v) (hr:(toVal u o).run (qt σ)=some r):qaq w (FW (sit C σ tm w own) r.2) u r.1 v:=by
 have hr0:=hr
 unfold toVal at hr
 split at hr
 ·rename_i c ha
  split at hr
  ·rename_i hsz
   split at hr
   ·rename_i x f hg
    have:=Q.ret_some hr
    subst this
    unfold qb3 at ho
    cases hs:o.s with
    |some s=>
     rw [hs] at ho
     obtain ⟨hv,_,h3⟩:=ho
     rw [ha] at h3
     obtain ⟨cs,hcs,hb⟩:=h3
     obtain ⟨g1,g2,g3⟩:=hb.get hg
     have hl:=hb.length
     rw [List.drop_zero,List.take_of_length_le (by omega)] at g2 g3
     have mk:∀F,Rep w F u x cs→qaq w F u x v:=fun F hr=>by
      rw [hcs]
      exact ⟨hr,(fun _=>⟨_,rfl⟩),(fun h=>by rw [hsz.2] at h; cases h)⟩
     cases f with
     |true=>exact mk _ (g2.keep fun b hb hlt=>⟨hb.imp id fun hb=>⟨s,by simp,hb,by rw [←hv,hcs]; intro h; cases h⟩,hlt,rfl⟩)
     |false=>exact mk _ ((g3 rfl).keep fun b hb hlt=>⟨.inl hb,hlt,rfl⟩)
    |none=>
     rw [hs] at ho
     rw [ha] at ho
     obtain ⟨cs,hcs,hb⟩:=ho
     obtain ⟨g1,g2,g3⟩:=hb.get hg
     have hl:=hb.length
     rw [List.drop_zero,List.take_of_length_le (by omega)] at g2
     rw [hcs]
     exact ⟨g2.keep fun b hb hlt=>⟨hb.elim .inl (fun hb=>by cases hb),hlt,rfl⟩,(fun _=>⟨_,rfl⟩),(fun h=>by rw [hsz.2] at h; cases h)⟩
   ·cases hr
  ·cases hr
 ·rename_i t x off ha
  split at hr
  case h_2=>cases hr
  split at hr
  case isFalse=>cases hr
  rename_i h0
  split at hr
  ·rename_i y hy
   have:=Q.ret_some hr
   subst this
   subst h0
   have hv:qaF (sit C σ tm w own) (.view t x 0) v []:=by
    unfold qb3 at ho
    split at ho
    ·obtain ⟨_,_,h3⟩:=ho
     rw [ha] at h3
     exact ⟨rfl,h3.2⟩
    ·rw [ha] at ho
     exact ho
   obtain ⟨_,ad,cs,g1,g2,g3,g4,g5⟩:=hv
   refine qaq.ofOpt (.inr ⟨y,ad,cs,rfl,?_,.inl g2,g3,g4,?_⟩)
   ·rw [g1]
    simp [Addr.add]
   ·obtain ⟨rfl,rfl⟩:=Ty.as_some hy
    exact g5.keep fun b hb hlt=>⟨.inl hb,hlt,rfl⟩
  ·cases hr
 ·obtain ⟨q,h1,h2⟩:=Q.bind_some hr
  have hq:=qde h ho h1
  split at h2
  ·rename_i x hx
   have:=Q.ret_some h2
   subst this
   exact hq.as hx
  ·cases h2
theorem qef (h:qag C σ tm w own) {o:Op1} {v:Value} {r:IntKind×Int} (ho:qb3 (sit C σ tm w own) o v) (hr:(qkM o).run (qt σ)=some r):v= .int r.1 r.2∧r.1.has r.2:=by
 unfold qkM at hr
 obtain ⟨q,h1,h2⟩:=Q.bind_some hr
 have hq:=qde h ho h1
 split at h2
 ·have:=Q.ret_some h2
  subst this
  exact hq.int
 ·cases h2
end
end Go.Vi
