/- The abstract interpreter: structs and rows put together. -/
import Derived.Test.YtfcdfdnlgfebmaaGreatDoorViOp8
import Derived.Great.FillDense
import Derived.Great.BuildSlice
set_option linter.unusedVariables false
set_option linter.unusedSimpArgs false
set_option linter.unnecessarySimpa false
set_option linter.unusedSectionVars false
namespace Go.Vi
open Go.RowKit
theorem qgS {css:List (List Value)} {i:Nat} {c:List Value} (hi:css[i]? =some c):css.flatten=(css.take i).flatten++c++(css.drop (i+1)).flatten:=by
 obtain ⟨hlt,rfl⟩:=List.getElem?_eq_some_iff.1 hi
 conv=>lhs; rw [←List.take_append_drop i css,List.drop_eq_getElem_cons hlt]
 rw [List.flatten_append,List.flatten_cons,List.append_assoc]
theorem qpf {css:List (List Value)} {i:Nat} {d:List Value} (hi:i<css.length):(css.set i d).flatten=(css.take i).flatten++d++(css.drop (i+1)).flatten:=by
 have h:=qgS (css:=css.set i d) (i:=i) (c:=d) (by simp [hi])
 rw [h]
 congr 2
 ·rw [List.take_set]
  rw [List.set_eq_of_length_le (by rw [List.length_take]; exact Nat.min_le_left _ _)]
 ·rw [List.drop_set]
  simp
def qjY (css:List (List Value)) (i:Nat):Nat:=(css.take i).flatten.length
theorem qoQ (cells:Array Value) (pre c post:List Value) (v:List Value) (hc:cells.toList=pre++c++post) (hl:v.length=c.length):
  ((v.zipIdx 0).foldl (fun cs (x:Value×Nat)=>cs.setIfInBounds (pre.length+x.2) x.1) cells).toList=pre++v++post:=by
 obtain ⟨h1,h2⟩:=Great.foldl_set pre.length v 0 cells
 have hs:cells.size=pre.length+v.length+post.length:=by rw [←Array.length_toList,hc]; simp; omega
 apply List.ext_getElem?
 intro k
 rw [Array.getElem?_toList,h2 k]
 split
 ·rename_i hk
  rw [List.append_assoc,List.getElem?_append_right (by omega),List.getElem?_append_left (by omega)]
  simp
 ·rename_i hk
  rw [←Array.getElem?_toList,hc]
  by_cases h3:k<pre.length
  ·rw [List.append_assoc,List.append_assoc,List.getElem?_append_left h3,List.getElem?_append_left h3]
  ·rw [List.getElem?_append_right (by simp; omega),List.getElem?_append_right (by simp; omega)]
   simp [hl]
theorem qqh {place:Nat→Option (Nat×Nat)} :∀(parts:List (Nat×Value)) (css:List (List Value)) (cells:Array Value),cells.toList=css.flatten→(∀i c,css[i]? =some c→place i=some (qjY css i,c.length))→
  (∀q∈parts,∃c,css[q.1]? =some c∧q.2.cells.toList.length=c.length)→∃r,Instr.fill place cells parts=some r∧r.toList=(parts.foldl (fun css q=>css.set q.1 q.2.cells.toList) css).flatten
 |[],css,cells,h1,_,_=>⟨cells,rfl,h1⟩
 |(i,v)::rest,css,cells,h1,h2,h3=>by
  obtain ⟨c,k1,k2⟩:=h3 (i,v) (by simp)
  simp only at k1 k2
  have hi:i<css.length:=(List.getElem?_eq_some_iff.1 k1).1
  have hp:=h2 i c k1
  have hsplit:=qgS k1
  have hsz:cells.size=qjY css i+c.length+(css.drop (i+1)).flatten.length:=by
   rw [←Array.length_toList,h1,hsplit]; simp only [List.length_append,qjY]
  rw [Array.length_toList] at k2
  have hset:=qpf (d:=v.cells.toList) hi
  have hoff:∀j,qjY (css.set i v.cells.toList) j=qjY css j:=fun j=>by
   unfold qjY
   rw [List.take_set]
   by_cases hj:i<j
   ·have hj2:i<(css.take j).length:=by simp; omega
    rw [qpf hj2,qgS (css:=css.take j) (i:=i) (c:=c) (by rw [List.getElem?_take,if_pos hj]; exact k1)]
    simp only [List.length_append,Array.length_toList,k2]
   ·rw [List.set_eq_of_length_le (by simp; omega)]
  have step:=qoQ cells (css.take i).flatten c (css.drop (i+1)).flatten v.cells.toList (by rw [h1]; exact hsplit) (by rw [Array.length_toList]; exact k2)
  have hzip:v.cells.zipIdx.foldl (fun cs (x:Value×Nat)=>cs.setIfInBounds (qjY css i+x.2) x.1) cells=(v.cells.toList.zipIdx 0).foldl (fun cs (x:Value×Nat)=>cs.setIfInBounds ((css.take i).flatten.length+x.2) x.1) cells:=by
   rw [←Array.foldl_toList]
   simp [qjY]
  obtain ⟨r,g1,g2⟩:=qqh (place:=place) rest (css.set i v.cells.toList) ((v.cells.toList.zipIdx 0).foldl (fun cs (x:Value×Nat)=>cs.setIfInBounds ((css.take i).flatten.length+x.2) x.1) cells) (by rw [step,hset]) (fun j d hj=>by
   rw [hoff j]
   by_cases hij:i=j
   ·subst hij
    rw [List.getElem?_set_self hi] at hj
    injection hj with hj
    subst hj
    rw [hp,show v.cells.toList.length=v.cells.size from Array.length_toList,k2]
   ·rw [List.getElem?_set_ne hij] at hj
    exact h2 j d hj) (fun q hq=>by
   obtain ⟨d,m1,m2⟩:=h3 q (List.mem_cons_of_mem _ hq)
   by_cases hij:i=q.1
   ·rw [←hij] at m1⊢
    rw [k1] at m1
    injection m1 with m1
    subst m1
    exact ⟨_,List.getElem?_set_self hi,by rw [m2,show v.cells.toList.length=v.cells.size from Array.length_toList,k2]⟩
   ·exact ⟨d,by rw [List.getElem?_set_ne hij]; exact m1,m2⟩)
  refine ⟨r,?_,g2⟩
  simp only [Instr.fill,hp]
  have e1:(v.cells.size != c.length)=false:=by simp [k2]
  have e2:¬(qjY css i+v.cells.size > cells.size):=by omega
  have e3:¬(v.cells.size≠c.length||qjY css i+v.cells.size > cells.size)=true:=by simp [k2]; omega
  rw [if_neg e3]
  rw [hzip]
  exact g1
theorem qkH {css:List (List Value)} :∀(parts:List (Nat×Value)) {css:List (List Value)},qjw (parts.map (·.1))=true→∀k,(parts.foldl (fun css q=>css.set q.1 q.2.cells.toList) css)[k]? =
  match parts.find? (fun q=>q.1 == k) with
  |some q=>if k<css.length then some q.2.cells.toList else none
  |none=>css[k]?
 |[],css,_,k=>rfl
 |(i,v)::rest,css,hn,k=>by
  simp only [List.map_cons,qjw,Bool.and_eq_true,Bool.not_eq_true'] at hn
  rw [List.foldl_cons,qkH (css:=css) rest hn.2 k,List.find?_cons]
  by_cases hik:i=k
  ·subst hik
   have:rest.find? (fun q=>q.1 == i)=none:=by
    rw [List.find?_eq_none]
    intro q hq he
    have he:q.1=i:=by simpa using he
    have:(rest.map (·.1)).contains i=true:=by simp; exact ⟨q.2,by rw [←he]; exact hq⟩
    rw [this] at hn
    cases hn.1
   rw [this]
   simp [List.getElem?_set]
  ·have e:(i == k)=false:=by simp [hik]
   rw [e]
   simp only [List.length_set]
   cases rest.find? (fun q=>q.1 == k) with
   |some q=>rfl
   |none=>simp [hik]
section
variable {C:Ctx} {E:Env} {σ:St} {tm:Array Value} {a:Act} {w w':World} {own:Nat→List Nat} {o:Oper} {p:qhl} [Tabbed E C]
def qfV (X:Sit):List (Nat×Op1)→List (Nat×Value)→Prop
 |[],[]=>True
 |o::os,v::vs=>o.1=v.1∧qb3 X o.2 v.2∧qfV X os vs
 |_,_=>False
theorem qhE (h:qag C σ a.tmps w own) (hp:qbL (sit C σ a.tmps w own) p) {tid:Nat→Nat} :∀(xs:List (Nat×Operand)) {os:List (Nat×Op1)},(qjz E p tid xs).run (qt σ)=some os→qfV (sit C σ a.tmps w own) os (xs.map fun x=>(x.1,a.eval x.2))
 |[],os,he=>by
  have:=Q.ret_some he
  subst this
  trivial
 |(i,x)::xs,os,he=>by
  obtain ⟨o1,h1,he⟩:=Q.bind_some he
  obtain ⟨r,h2,he⟩:=Q.bind_some he
  have:=Q.ret_some he
  subst this
  exact ⟨rfl,qaE h hp h1,qhE h hp xs h2⟩
theorem qfV.find {X:Sit} (k:Nat): {os:List (Nat×Op1)} → {vs:List (Nat×Value)} →qfV X os vs→
  (match os.find? (fun q=>q.1 == k) with
   |some q=>∃v,vs.find? (fun q=>q.1 == k)=some v∧qb3 X q.2 v.2
   |none=>vs.find? (fun q=>q.1 == k)=none)
 |[],[],_=>rfl
 |(i,o)::os,(j,v)::vs,⟨h1,h2,h3⟩=>by
  simp only at h1
  subst h1
  rw [List.find?_cons,List.find?_cons]
  by_cases hik:i=k
  ·subst hik
   simp
   exact h2
  ·have e:(i == k)=false:=by simp [hik]
   simp only [e]
   exact h3.find k
theorem qfV.map {X:Sit} : {os:List (Nat×Op1)} → {vs:List (Nat×Value)} →qfV X os vs→os.map (·.1)=vs.map (·.1)
 |[],[],_=>rfl
 |(i,o)::os,(j,v)::vs,⟨h1,_,h3⟩=>by simp [h3.map,show i=j from h1]
theorem qmO {F:Nat→Prop} {c d:BC} {c1 c2:List Value} {b1 b2:List Nat} (h1:qbg w F c c1 b1) (h2:qbg w F d c2 b2):qbg w F (qhY.pairBC c d) (c1++c2) (b1++b2):=by
 unfold qhY.pairBC
 split
 ·exact ⟨by rw [h1.1,h2.1]; rfl,c1,c2,rfl,h1.2,h2.2⟩
 ·exact ⟨c1,c2,b1,b2,rfl,rfl,h1,h2⟩
theorem qd9: {l:List Nat} →qjw l=true→l.Nodup
 |[],_=>List.nodup_nil
 |a::l,h=>by
  simp only [qjw,Bool.and_eq_true,Bool.not_eq_true'] at h
  refine List.nodup_cons.2 ⟨fun hm=> ?_,qd9 h.2⟩
  have:l.contains a=true:=by simpa using hm
  rw [this] at h
  cases h.1
theorem qso {F:Nat→Prop} {A B:Ty} {z za zb:BC} {zs:List Value} (hz:qbg w F z zs []) (hs:z.size=A.size+B.size) (he:qqN A B z=some (za,zb)):
  ∃z1 z2,zs=z1++z2∧qbg w F za z1 []∧qbg w F zb z2 []∧za.size=A.size∧zb.size=B.size:=by
 cases z with
 |pair c d=>
  simp only [qqN] at he
  split at he
  ·rename_i h1
   injection he with he
   injection he with e1 e2
   subst e1 e2
   obtain ⟨c1,c2,b1,b2,h2,h3,h4,h5⟩:=hz
   obtain ⟨rfl,rfl⟩:=List.append_eq_nil_iff.1 h3.symm
   have hs:c.size+d.size=A.size+B.size:=hs
   exact ⟨c1,c2,h2,h4,h5,h1,by omega⟩
  ·cases he
 |val t x=>
  cases t with
  |pair a' b'=>
   simp only [qqN] at he
   split at he
   ·rename_i h1
    injection he with he
    injection he with e1 e2
    subst e1 e2
    obtain ⟨_,c1,c2,h2,h3,h4⟩:=hz
    have hs:a'.size+b'.size=A.size+B.size:=hs
    exact ⟨c1,c2,h2,⟨rfl,h3⟩,⟨rfl,h4⟩,h1,by show b'.size=_; omega⟩
   ·cases he
  |_=>cases he
 |_=>cases he
theorem qlf (h:qag C σ a.tmps w own) {ps:List (Nat×Op1)} {vs:List (Nat×Value)} (hps:qfV (sit C σ a.tmps w own) ps vs):(T:Ty)→(i:Nat)→ {z:BC} → {zs:List Value} → {r:BC×List Nat} →qbg w (C.free w own) z zs []→z.size=T.size→(qhY z T i ps).run (qt σ)=some r→r.2.Nodup→
  ∃(css zss:List (List Value)) (bs:List Nat),zs=zss.flatten∧zss.map List.length=qaZ T∧css.map List.length=qaZ T∧qbg w (C.free w own) r.1 css.flatten bs∧(∀b∈bs,∃s∈r.2,b∈own s)∧bs.Nodup∧
   (∀k,k<css.length→css[k]? =match vs.find? (fun q=>q.1 == i+k) with
    |some q=>some q.2.cells.toList
    |none=>zss[k]?)∧∀k q,k<css.length→vs.find? (fun q=>q.1 == i+k)=some q→some q.2.cells.toList.length=(qaZ T)[k]?
 | .pair A B,i,z,zs,r,hz,hzs,he,hn=>by
  unfold qhY at he
  have hf:=hps.find i
  simp only at he
  split at he
  case h_2=>cases he
  rename_i za zb hsp
  obtain ⟨z1,z2,rfl,hz1,hz2,hs1,hs2⟩:=qso hz hzs hsp
  have hl1:z1.length=A.size:=by rw [hz1.length,hs1]
  split at he
  ·rename_i q hq
   rw [hq] at hf
   obtain ⟨v,hv,ho⟩:=hf
   obtain ⟨c,h1,he⟩:=Q.bind_some he
   split at he
   case isFalse=>cases he
   rename_i hemp
   obtain ⟨r',h2,he⟩:=Q.bind_some he
   have:=Q.ret_some he
   subst this
   obtain ⟨bs0,k1,k2,k3,k4⟩:=qhK h ho h1 (by simpa using hemp)
   have hn':=List.nodup_append.1 hn
   obtain ⟨css,zss,bs,g1,g2,g2',g3,g4,g5,g6,g7⟩:=qlf h hps B (i+1) hz2 hs2 h2 hn'.2.1
   have hb0:∀b∈bs0,∃s∈c.2.2.map (·.s),b∈own s:=by
    intro b hb
    rcases k4 with ⟨_,e⟩|⟨s,e1,e2⟩
    ·rw [e] at hb; cases hb
    ·exact ⟨s,by rw [e1]; simp,by rw [←e2]; exact hb⟩
   refine ⟨v.2.cells.toList::css,z1::zss,bs0++bs,by rw [List.flatten_cons,g1],by simp [qaZ,g2,hl1],by rw [List.map_cons,g2',k2]; rfl,?_,?_,?_,?_,?_⟩
   ·rw [List.flatten_cons]
    exact qmO k1 g3
   ·intro b hb
    rcases List.mem_append.1 hb with hb|hb
    ·obtain ⟨s,hs,hb⟩:=hb0 b hb
     exact ⟨s,List.mem_append_left _ hs,hb⟩
    ·obtain ⟨s,hs,hb⟩:=g4 b hb
     exact ⟨s,List.mem_append_right _ hs,hb⟩
   ·refine List.nodup_append.2 ⟨?_,g5,fun b hb b' hb' e=> ?_⟩
    ·rcases k4 with ⟨_,e⟩|⟨s,_,e⟩
     ·rw [e]; exact List.nodup_nil
     ·rw [e]; exact h.nodup s
    ·subst e
     obtain ⟨s,hs,hb⟩:=hb0 b hb
     obtain ⟨s',hs',hb'⟩:=g4 b hb'
     have:=h.apart s s' b hb hb'
     subst this
     exact hn'.2.2 s hs s hs' rfl
   ·intro k hk
    cases k with
    |zero=>rw [Nat.add_zero,hv]; rfl
    |succ k=>
     have:=g6 k (by simpa using hk)
     rw [show i+1+k=i+(k+1) from by omega] at this
     exact this
   ·intro k q' hk hq'
    cases k with
    |zero=>
     rw [Nat.add_zero,hv] at hq'
     injection hq' with hq'
     subst hq'
     rw [k2]; rfl
    |succ k=>exact g7 k q' (by simpa using hk) (by rw [show i+1+k=i+(k+1) from by omega]; exact hq')
  ·rename_i hq
   rw [hq] at hf
   obtain ⟨r',h2,he⟩:=Q.bind_some he
   have:=Q.ret_some he
   subst this
   obtain ⟨css,zss,bs,g1,g2,g2',g3,g4,g5,g6,g7⟩:=qlf h hps B (i+1) hz2 hs2 h2 hn
   refine ⟨z1::css,z1::zss,bs,by rw [List.flatten_cons,g1],by simp [qaZ,g2,hl1],by rw [List.map_cons,g2',hl1]; rfl,?_,g4,g5,?_,?_⟩
   ·rw [List.flatten_cons]
    exact qmO (b1:=[]) hz1 g3
   ·intro k hk
    cases k with
    |zero=>rw [Nat.add_zero,hf]; rfl
    |succ k=>
     have:=g6 k (by simpa using hk)
     rw [show i+1+k=i+(k+1) from by omega] at this
     exact this
   ·intro k q' hk hq'
    cases k with
    |zero=>rw [Nat.add_zero,hf] at hq'; cases hq'
    |succ k=>exact g7 k q' (by simpa using hk) (by rw [show i+1+k=i+(k+1) from by omega]; exact hq')
 | .unit,i,z,zs,r,hz,hzs,he,hn=>by
  have:=Q.ret_some he
  subst this
  have hz:zs=[]:=List.eq_nil_of_length_eq_zero (by rw [hz.length,hzs]; rfl)
  subst hz
  exact ⟨[],[],[],rfl,rfl,rfl,⟨rfl,rfl⟩,fun b hb=>(by cases hb),List.nodup_nil,fun k hk=>(by cases hk),fun k q hk=>(by cases hk)⟩
 | .int _,_,_,_,_,_,_,he,_=>by cases he
 | .bool,_,_,_,_,_,_,he,_=>by cases he
 | .str,_,_,_,_,_,_,he,_=>by cases he
 | .err,_,_,_,_,_,_,he,_=>by cases he
 | .opt _,_,_,_,_,_,_,he,_=>by cases he
 | .map _ _,_,_,_,_,_,_,he,_=>by cases he
 | .slice _,_,_,_,_,_,_,he,_=>by cases he
 | .arr _ _,_,_,_,_,_,_,he,_=>by cases he
end
end Go.Vi
