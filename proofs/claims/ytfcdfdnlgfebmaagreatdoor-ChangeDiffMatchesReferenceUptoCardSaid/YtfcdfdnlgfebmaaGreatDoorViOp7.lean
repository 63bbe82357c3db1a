/- The abstract interpreter: parts of tuples, lengths, rows that grow. -/
import Derived.Test.YtfcdfdnlgfebmaaGreatDoorViOp6
set_option linter.unusedVariables false
set_option linter.unusedSimpArgs false
set_option linter.unnecessarySimpa false
set_option linter.unusedSectionVars false
namespace Go.Vi
open Go.RowKit
section
variable {C:Ctx} {E:Env} {σ:St} {tm:Array Value} {a:Act} {w w':World} {own:Nat→List Nat} {o:Oper} {p:qhl} [Tabbed E C]
theorem qaW.at {F:Nat→Prop} : {cs:List qod} → {vs:List Value} → {bs:List Nat} → {i:Nat} → {c:qod} →qaW w F cs vs bs→cs[i]? =some c→
  ∃v b1 b2 b3,vs[i]? =some v∧bs=b1++b2++b3∧qsT w F c v b2∧qaW w F (cs.set i .gone) vs (b1++b3)
 |[],_,_,_,_,_,hc=>by cases hc
 |c::cs,_,_,0,_,⟨v,r,b1,b2,h1,h2,h3,h4⟩,hc=>by
  injection hc with hc
  subst hc
  exact ⟨v,[],b1,b2,by rw [h1]; rfl,by rw [h2]; rfl,h3,v,r,[],b2,h1,rfl,rfl,h4⟩
 |c::cs,_,_,i+1,_,⟨v,r,b1,b2,h1,h2,h3,h4⟩,hc=>by
  obtain ⟨v',c1,c2,c3,k1,k2,k3,k4⟩:=h4.at (i:=i) hc
  exact ⟨v',b1++c1,c2,c3,by rw [h1]; exact k1,by rw [h2,k2]; simp,k3,v,r,b1,c1++c3,h1,by simp,h3,k4⟩
theorem qag.part (h:qag C σ tm w own) {s d:Nat} (hs:s<σ.length) (hd:d<σ.length) (hne:d≠s) {av av':AV} {v:Value} {b1 b2 b3:List Nat} (hown:own s=b1++b2++b3)
  (hav:qaF (sit C σ tm w own) av (tm.getD s undef) (b1++b3)) (hav':qaF (sit C σ tm w own) av' v b2) (hm:av.mentions=[]) (hm':av'.mentions=[]):
  ∃own',qag C (qr σ [⟨s,true,av⟩,⟨d,true,av'⟩]) (tm.setIfInBounds d v) w own':=by
 have eS:qt (qr σ [⟨s,true,av⟩,⟨d,true,av'⟩]) s=((qt σ s).1+1,av):=by
  show qt (qR (qR σ ⟨s,true,av⟩) ⟨d,true,av'⟩) s=_
  rw [qv _ _ (Ne.symm hne),qM σ ⟨s,true,av⟩ hs]
  rfl
 have eD:qt (qr σ [⟨s,true,av⟩,⟨d,true,av'⟩]) d=((qt σ d).1+1,av'):=by
  show qt (qR (qR σ ⟨s,true,av⟩) ⟨d,true,av'⟩) d=_
  rw [qM (qR σ ⟨s,true,av⟩) ⟨d,true,av'⟩ (by rw [qak]; exact hd),qv _ _ hne]
  rfl
 have eO:∀x,x≠s→x≠d→qt (qr σ [⟨s,true,av⟩,⟨d,true,av'⟩]) x=qt σ x:=fun x h1 h2=>by
  show qt (qR (qR σ ⟨s,true,av⟩) ⟨d,true,av'⟩) x=_
  rw [qv _ _ h2,qv _ _ h1]
 have tD:(tm.setIfInBounds d v).getD d undef=v:=qdY tm _ (by rw [h.size]; exact hd)
 have tS:(tm.setIfInBounds d v).getD s undef=tm.getD s undef:=qb1 tm _ (Ne.symm hne)
 let own':Nat→List Nat:=fun x=>if x=d then b2 else if x=s then b1++b3 else own x
 have oD:own' d=b2:=by simp [own']
 have oS:own' s=b1++b3:=by simp [own',Ne.symm hne]
 have hnd:=h.nodup s
 rw [hown] at hnd
 have n1:=List.nodup_append.1 hnd
 have n2:=List.nodup_append.1 n1.1
 have sub:∀x b,x=s∨x=d→b∈own' x→b∈own s:=by
  rintro x b (rfl|rfl) hb
  ·rw [oS] at hb
   rw [hown]
   rcases List.mem_append.1 hb with hb|hb <;> simp [hb]
  ·rw [oD] at hb
   rw [hown]
   simp [hb]
 have dis:∀b,b∈own' s→b∈own' d→False:=by
  intro b hb hb'
  rw [oS] at hb
  rw [oD] at hb'
  rcases List.mem_append.1 hb with hb|hb
  ·exact n2.2.2 b hb b hb' rfl
  ·exact n1.2.2 b (List.mem_append_right _ hb') b hb rfl
 refine ⟨own',h.update (fun x=>x=s∨x=d) (qF _ _) (by simp) ?_ ?_ (qcx.refl _ _) ?_ ?_ ?_ ?_ ?_⟩
 ·intro x hx
  have h1:x≠s:=fun e=>hx (.inl e)
  have h2:x≠d:=fun e=>hx (.inr e)
  exact ⟨eO x h1 h2,qb1 tm _ h2,by simp [own',h1,h2]⟩
 ·rintro x (rfl|rfl)
  ·rw [eS]; exact .inl (Nat.lt_succ_self _)
  ·rw [eD]; exact .inl (Nat.lt_succ_self _)
 ·rintro x (rfl|rfl) <;> assumption
 ·intro x hx
  refine ⟨fun b hb=> .inr ⟨s,.inl rfl,sub x b hx hb⟩,?_⟩
  rcases hx with rfl|rfl
  ·rw [oS]
   exact List.nodup_append.2 ⟨n2.1,n1.2.1,fun b hb b' hb'=>n1.2.2 b (List.mem_append_left _ hb) b' hb'⟩
  ·rw [oD]; exact n2.2.1
 ·rintro x y b (rfl|rfl) (rfl|rfl) hb hb'
  ·rfl
  ·exact (dis b hb hb').elim
  ·exact (dis b hb' hb).elim
  ·rfl
 ·have hfree:∀b,C.free w own b→C.free w own' b:=fun b hb=>⟨hb.1,hb.2.1,fun x hx=>by
   by_cases h1:x=s∨x=d
   ·exact hb.2.2 s (sub x b h1 hx)
   ·have h2:x≠s:=fun e=>h1 (.inl e)
    have h3:x≠d:=fun e=>h1 (.inr e)
    simp only [own',if_neg h2,if_neg h3] at hx
    exact hb.2.2 x hx⟩
  rintro x (rfl|rfl)
  ·rw [eS,tS,oS]
   exact qaF.keep (X:=sit C σ tm w own) (X':=sit C _ _ w own') ⟨rfl,rfl⟩ (fun b hb hlt=>⟨hfree b hb,hlt,rfl⟩) (fun _ _ _=>rfl) (fun m hmm=>by rw [hm] at hmm; cases hmm) hav
  ·rw [eD,tD,oD]
   exact qaF.keep (X:=sit C σ tm w own) (X':=sit C _ _ w own') ⟨rfl,rfl⟩ (fun b hb hlt=>⟨hfree b hb,hlt,rfl⟩) (fun _ _ _=>rfl) (fun m hmm=>by rw [hm'] at hmm; cases hmm) hav'
 ·rintro x (rfl|rfl) m hmm
  ·rw [eS,hm] at hmm; cases hmm
  ·rw [eD,hm'] at hmm; cases hmm
theorem qo2 (h:qag C σ a.tmps w own) (hp:qbL (sit C σ a.tmps w own) p) {x:Operand} {i:Nat} (hop:o.op= .extract x i) {f:Eff}
  (he:(qee E p o).run (qt σ)=some f) (hd:∀u∈f.upd,u.s<σ.length) (hc:qd3 f.chk):qdT C o a w (qr σ f.upd):=by
 unfold qee at he
 rw [hop] at he
 simp only at he
 split at he
 case h_2=>cases he
 rename_i t
 rw [Q.run_get] at he
 split at he
 case h_2=>cases he
 rename_i cs hcs
 have hat:=ql9 hp (h.at_ t)
 rw [hcs] at hat
 obtain ⟨vs,h1,h2⟩:=hat
 have hr:∀v,vs[i]? =some v→(execOp a.eval o).run C.P w= .ok (.value v) w:=fun v hv=>by
  unfold execOp
  rw [hop]
  have e:a.eval (.tmp t)= .tuple vs.toArray:=h1
  simp [Sem.run_bind,e,Instr.extract,hv]
 split at he
 ·rename_i u y hi
  have:=qL he
  subst this
  obtain ⟨v,b1,b2,b3,k1,k2,k3,k4⟩:=h2.at hi
  exact qaY h (hr v k1) hd k3.2
 ·rename_i et e xs hi
  split at he
  case h_2=>cases he
  rename_i d hdst
  split at he
  ·cases he
  ·rename_i hne
   have:=qL he
   subst this
   obtain ⟨v,b1,b2,b3,k1,k2,k3,k4⟩:=h2.at hi
   refine qK (hr v k1) ?_
   rw [qiR a hdst]
   exact h.part (s:=t) (d:=d) (hd ⟨t,true,.tup (cs.set i .gone)⟩ (by simp)) (hd ⟨d,true,.own et e xs⟩ (by simp)) hne k2 ⟨vs,h1,k4⟩ k3 rfl rfl
 ·cases he
def qls (X:Sit):List Op1→List Value→Prop
 |[],[]=>True
 |o::os,v::vs=>qb3 X o v∧qls X os vs
 |_,_=>False
theorem qjW (h:qag C σ a.tmps w own) {P:Program} {g:Int→Int→Int} {m2:Value→Value→Sem Value} (hg:∀k x y,(m2 (.int k x) (.int k y)).run P w= .ok (.int k (g x y)) w) (hh:∀(k:IntKind) x y,k.has x→k.has y→k.has (g x y)) {k:IntKind} :
  ∀(os:List Op1) (vs:List Value) (n r:Int),k.has n→qls (sit C σ a.tmps w own) os vs→(qnx g k n os).run (qt σ)=some r→(vs.foldlM m2 (.int k n)).run P w= .ok (.int k r) w∧k.has r
 |[],[],n,r,hn,_,he=>by
  have:=Q.ret_some he
  subst this
  exact ⟨rfl,hn⟩
 |o::os,v::vs,n,r,hn,⟨ho,hos⟩,he=>by
  obtain ⟨m,h1,he⟩:=Q.bind_some he
  split at he
  ·rename_i hk
   obtain ⟨e1,g1⟩:=qef h ho h1
   subst hk
   subst e1
   obtain ⟨k1,k2⟩:=qjW h hg hh os vs (g n m.2) r (hh _ _ _ hn g1) hos he
   refine ⟨?_,k2⟩
   rw [List.foldlM_cons,Sem.run_bind,hg]
   exact k1
  ·cases he
theorem qnw (h:qag C σ a.tmps w own) (hp:qbL (sit C σ a.tmps w own) p):∀(xs:List Operand) (ts:List Nat) {os:List Op1},(opds E p xs ts).run (qt σ)=some os→qls (sit C σ a.tmps w own) os (xs.map a.eval)
 |[],_,os,he=>by
  have:=Q.ret_some he
  subst this
  trivial
 |x::xs,ts,os,he=>by
  obtain ⟨o1,h1,he⟩:=Q.bind_some he
  obtain ⟨r,h2,he⟩:=Q.bind_some he
  have:=Q.ret_some he
  subst this
  exact ⟨qaE h hp h1,qnw h hp xs ts.tail h2⟩
theorem qma {α β:Type} {R:Nat→α→β→Prop} :∀(xs:List α),(∀i x,xs[i]? =some x→∃c,R i x c)→∃cs:List β,cs.length=xs.length∧∀i x c,xs[i]? =some x→cs[i]? =some c→R i x c
 |[],_=>⟨[],rfl,fun i x c hx=>by cases hx⟩
 |y::ys,h=>by
  obtain ⟨c,hc⟩:=h 0 y rfl
  obtain ⟨cs,h1,h2⟩:=qma (R:=fun i x c=>R (i+1) x c) ys fun i x hx=>h (i+1) x hx
  refine ⟨c::cs,by simp [h1],fun i x d hx hd=> ?_⟩
  cases i with
  |zero=>
   injection hx with hx
   injection hd with hd
   subst hx; subst hd
   exact hc
  |succ i=>exact h2 i x d hx hd
def qu4 (w:World) (F:Nat→Prop) (e:Ty) (xs:List e.den) (v:Value):Prop:=
 (v= .slice none 0 0∧xs=[])∨∃(ad:Addr) (cap:Nat) (cells:List Value),v= .slice (some ad) xs.length cap∧cells.length=xs.length * e.size∧(∀j u,cells[j]? =some u→w.cell? (ad.add j)=some u)∧∀i x,xs[i]? =some x→Rep w F e x ((cells.drop (i * e.size)).take e.size)
theorem q7.rowAt {F:Nat→Prop} {et:Nat} {e:Ty} {xs:List e.den} {v:Value} {bs:List Nat} (h:q7 w F et e xs v bs):qu4 w F e xs v:=by
 obtain ⟨cells,k1,k2,k3⟩:=h
 rcases k1.2 with ⟨k4,k5⟩|⟨g,cap,cur,k4,_⟩
 ·exact .inl ⟨k4,List.eq_nil_of_length_eq_zero k5⟩
 ·exact .inr ⟨⟨g,0,none⟩,cap,cells,k4,k1.1,k1.cells (by rw [k4]; rfl),k3⟩
theorem qq2 {css:List (List Value)} {sz j:Nat} {u:Value} (h:∀c∈css,c.length=sz) (hu:css.flatten[j]? =some u):∃i c,css[i]? =some c∧c[j % sz]? =some u∧i=j / sz∧j=i * sz+j % sz:=by
 have hpos:0<sz:=by
  rcases Nat.eq_zero_or_pos sz with h0|h0
  ·have:css.flatten=[]:=List.flatten_eq_nil_iff.2 fun l hl=>List.eq_nil_of_length_eq_zero ((h l hl).trans h0)
   rw [this] at hu; cases hu
  ·exact h0
 have hj:j<css.flatten.length:=(List.getElem?_eq_some_iff.1 hu).1
 rw [qeb h] at hj
 have hi:j / sz<css.length:=(Nat.div_lt_iff_lt_mul hpos).2 hj
 have e:=qbA h (List.getElem?_eq_getElem hi)
 have hdm:j / sz * sz+j % sz=j:=by rw [Nat.mul_comm]; exact Nat.div_add_mod j sz
 refine ⟨j / sz,css[j / sz],List.getElem?_eq_getElem hi,?_,rfl,hdm.symm⟩
 rw [←e.1,List.getElem?_take,if_pos (Nat.mod_lt _ hpos),List.getElem?_drop,hdm]
 exact hu
theorem qeg.rowAt {F:Nat→Prop} {e:Ty} {xs:List e.den} {v:Value} (h:qeg w F (Rep w F e) e.size xs v):qu4 w F e xs v:=by
 rcases h with h|⟨ad,cap,h1,h2,h3,h4⟩
 ·exact .inl h
 ·obtain ⟨css,k1,k2⟩:=qma (R:=fun i x cs=>qgJ w (ad.add (i * e.size)) cs∧Rep w F e x cs) xs fun i x hx=>(h4 i x hx).2.2
  have hl:∀c∈css,c.length=e.size:=by
   intro c hc
   obtain ⟨i,hi,rfl⟩:=List.getElem_of_mem hc
   exact (k2 i _ _ (List.getElem?_eq_getElem (by omega)) (List.getElem?_eq_getElem hi)).2.length
  refine .inr ⟨ad,cap,css.flatten,h1,by rw [qeb hl,k1],fun j u hu=> ?_,fun i x hx=> ?_⟩
  ·obtain ⟨i,c,g1,g2,g3,g4⟩:=qq2 hl hu
   have hi:i<xs.length:=by rw [←k1]; exact (List.getElem?_eq_some_iff.1 g1).1
   have:=(k2 i _ c (List.getElem?_eq_getElem hi) g1).1 _ _ g2
   rw [qaB] at this
   rw [g4]
   rw [g4] at this
   simpa using this
  ·have hi:i<css.length:=by rw [k1]; exact (List.getElem?_eq_some_iff.1 hx).1
   rw [(qbA hl (List.getElem?_eq_getElem hi)).1]
   exact (k2 i x _ hx (List.getElem?_eq_getElem hi)).2
theorem quk (h:qag C σ a.tmps w own) {o1:Op1} {v:Value} (ho:qb3 (sit C σ a.tmps w own) o1 v) {q:((e:Ty)×List e.den)×List Nat} (he:(qvh o1).run (qt σ)=some q):qu4 w (C.free w own) q.1.1 q.1.2 v:=by
 obtain ⟨os,ov,oa⟩:=o1
 unfold qvh at he
 cases oa with
 |own et e xs=>
  have:=Q.ret_some he
  subst this
  cases os with
  |none=>exact q7.rowAt (bs:=[]) ho
  |some s=>exact q7.rowAt ho.2.2
 |nilr et e=>
  have:=Q.ret_some he
  subst this
  rw [(ho.unowned rfl).2]
  exact q7.rowAt (bs:=[]) (q7.nil_ w _ et e)
 |val t xs=>
  cases t with
  |slice e=>
   have:=Q.ret_some he
   subst this
   exact qeg.rowAt (qaq.slice (ho.unowned rfl).2)
  |_=>cases he
 |ref s v0=>
  simp only [Q.run_get] at he
  split at he
  ·rename_i hv
   have hu:a.tmps.getD s undef=v:=(ho.unowned rfl).2 hv
   have hat:=h.at_ s
   rw [hu] at hat
   split at he
   ·rename_i et e xs h3
    rw [h3] at hat
    have:=Q.ret_some he
    subst this
    exact q7.rowAt hat
   ·rename_i e xs h3
    rw [h3] at hat
    have:=Q.ret_some he
    subst this
    exact qeg.rowAt (qaq.slice hat.2)
   ·cases he
  ·cases he
 |bref s v0 off u=>
  simp only at he
  split at he
  ·rename_i hag
   rw [Q.run_get] at he
   split at he
   ·rename_i hv
    split at he
    ·rename_i r h3
     obtain ⟨et,e,xs⟩:=r
     have:=Q.ret_some he
     subst this
     obtain ⟨_,b1,b2,b3,q1,_⟩:=h.rowAt h3 (qiz (ho.unowned rfl) hag hv)
     exact q7.rowAt q1
    ·cases he
   ·cases he
  ·cases he
 |_=>cases he
end
end Go.Vi
