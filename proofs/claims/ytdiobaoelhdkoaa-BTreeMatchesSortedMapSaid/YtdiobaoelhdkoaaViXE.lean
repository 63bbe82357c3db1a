import Derived.Test.YtdiobaoelhdkoaaViXD
import Derived.Test.YtdiobaoelhdkoaaViXA
import Derived.Carry
import Derived.OpenShut
import Derived.ChangeSame
import Derived.WideShapes
import Derived.Lib.Bytealg
import Derived.Lib.LaidTab
import Derived.Lib.ItoaNum
import Derived.Lib.ItoaLen
import Derived.Lib.AtoiAllCases
import Derived.Lib.ParseIntBTie
import Derived.Lib.AtoiErrMem
import Derived.Lib.AppendIntMem
import Derived.Laws.CopyRow
import Derived.Laws.IdiomCopy
import Derived.Lib.ReflectliteSwap
import Derived.Lib.ReflectliteSlice
set_option linter.unusedVariables false
set_option linter.unusedSimpArgs false
set_option linter.unnecessarySimpa false
set_option linter.unusedSectionVars false
open Array renaming length_toList → zaG
open Bool renaming and_eq_true → zad, and_self → zaw
open Int renaming le_refl → zaF, toNat_natCast → zat
open List renaming Sublist → zaU, append_assoc → zau, append_nil → zaO, drop_eq_getElem_cons → zaB, drop_of_length_le → zaI, drop_zero → zaN, eq_nil_of_length_eq_zero → zaz, getElem?_drop → zav, getElem?_eq_getElem → zac, getElem?_eq_some_iff → zaK, getElem?_take → zap, length_append → zag, length_drop → zal, length_take → zae, map_cons → zaC, mem_append → zaf, mem_append_left → zab, mem_append_right → zaa, mem_cons → zak, mem_cons_of_mem → zaj, mem_cons_self → zar, mem_singleton → zah, nil_append → zaR, nodup_append → zai, nodup_cons → zaJ, nodup_nil → zaA, replicate → zaT, take_append_drop → zay, take_append_of_le_length → zas, take_of_length_le → zan
open Nat renaming add_mul → zaS, le_refl → zax, lt_of_lt_of_le → zaq, min_eq_left → zaQ, mul_le_mul_right → zam, zero_add → zaP, zero_le → zaD
open Option renaming isSome_iff_exists → zaE, map_eq_some_iff → zao
namespace Go.Vi
open Go.RowKit
section
variable {C:Ctx}{E:Env}{σ τ:St}{tm:Array Value}{a:Act}{w w':World}{own:Own}{o:Oper}{p:qdU} [Tabbed E C]
theorem qeN: {l:List (List Nat)}→l.flatten.Nodup→(∀i,(l.getD i []).Nodup)∧∀i j b,b∈l.getD i []→b∈l.getD j []→i=j
 |[],_=>⟨fun i=>by simp,fun i j b h=>by simp at h⟩
 |x::l,h=>by
  rw[List.flatten_cons]at h;obtain⟨h1,h2,h3⟩:=zai.1 h;obtain⟨k1,k2⟩:=qeN h2;have mem:∀i b,b∈l.getD i []→b∈l.flatten:=fun i b hb=>by
   grind [List.mem_flatten]
  refine⟨fun i=>?_,fun i j b hi hj=>?_⟩
  ·grind
  ·cases i with
   |zero=>
    cases j with
    |zero=>rfl
    |succ j=>exact(h3 b (by simpa using hi) b (mem j b (by simpa using hj)) rfl).elim
   |succ i=>
    cases j with
    |zero=>exact(h3 b (by simpa using hj) b (mem i b (by simpa using hi)) rfl).elim
    |succ j=>rw[k2 i j b (by simpa using hi) (by simpa using hj)]
theorem qdQ {X:Sit}{F:Nat→Prop}(hF:∀b,F b→b<X.w.heap.size→X.F b):(ps:List PM)→{x:PMs.den ps}→{vs:List Value}→{g i:List Nat}→qac X.P X.w F ps x vs g i→(g++i).Nodup→
  ∃owns:List (List Nat),owns.length=ps.length∧vs.length=ps.length∧(qbo ps x).length=ps.length∧owns.flatten.Nodup∧(∀b∈owns.flatten,b∈g++i)∧
   ∀k,k<ps.length→qS X (qj (qbo ps x) k).2 (vs.getD k undef) (owns.getD k [])∧(qj (qbo ps x) k).2.mentions=[]
 |[],x,vs,g,i,⟨h1,h2,h3⟩,_=>⟨[],rfl,by rw[h1];rfl,rfl,by simp,fun b hb=>by simp at hb,fun k hk=>by cases hk⟩
 |.val t::ps,x,vs,g,i,⟨v,r,h1,h2,h3⟩,hn=>by
  obtain⟨owns,k1,k2,k3,k4,k5,k6⟩:=qdQ hF ps h3 hn;refine⟨[]::owns,by simp[k1],by grind,by simp[qbo,k3],by simpa using k4,by simpa using k5,fun k hk=>?_⟩;cases k with
  |zero=>exact⟨⟨rfl,by rw[h1];exact h2.mono hF⟩,rfl⟩
  |succ k=>rw[h1];exact k6 k (by simpa using hk)
 |.nil et e::ps,x,vs,g,i,⟨r,h1,h3⟩,hn=>by
  obtain⟨owns,k1,k2,k3,k4,k5,k6⟩:=qdQ hF ps h3 hn;refine⟨[]::owns,by simp[k1],by grind,by simp[qbo,k3],by simpa using k4,by simpa using k5,fun k hk=>?_⟩;cases k with
  |zero=>exact⟨⟨rfl,by rw[h1];rfl⟩,rfl⟩
  |succ k=>rw[h1];exact k6 k (by simpa using hk)
 |.rd t::ps,x,vs,g,i,⟨ad,cs,r,h1,h2,h3,h4,h5,h6⟩,hn=>by
  obtain⟨owns,k1,k2,k3,k4,k5,k6⟩:=qdQ hF ps h6 hn;refine⟨[]::owns,by simp[k1],by grind,by simp[qbo,k3],by simpa using k4,by simpa using k5,fun k hk=>?_⟩;cases k with
  |zero=>exact⟨⟨rfl,ad,cs,by rw[h1];simp[Addr.add],hF _ h2 h3,h3,h4,h5.keep fun b hb hlt=>⟨hF b hb hlt,hlt,rfl⟩⟩,rfl⟩
  |succ k=>rw[h1];exact k6 k (by simpa using hk)
 |.ior et e::ps,x,vs,g,i,⟨v,r,i1,i2,h1,h2,h3,h4⟩,hn=>by
  rw[h2]at hn;have hn':=zai.1 hn;have hni:=zai.1 hn'.2.1;have hn2:(g++i2).Nodup:=zai.2 ⟨hn'.1,hni.2.1,fun b hb b' hb'=>hn'.2.2 b hb b' (zaa _ hb')⟩;obtain⟨owns,k1,k2,k3,k4,k5,k6⟩:=qdQ hF ps h4 hn2;refine⟨i1::owns,by simp[k1],by grind,by simp[qbo,k3],?_,?_,fun k hk=>?_⟩
  ·grind
  ·grind
  ·cases k with
   |zero=>exact⟨by rw[h1];exact h3.keep (fun b hb hlt=>⟨hF b hb hlt,hlt,rfl⟩) (fun _ _ _=>rfl),rfl⟩
   |succ k=>rw[h1];exact k6 k (by simpa using hk)
 |.fn ts us::ps,x,vs,g,i,⟨v,r,h1,h2,h3⟩,hn=>by
  obtain⟨owns,k1,k2,k3,k4,k5,k6⟩:=qdQ hF ps h3 hn;refine⟨[]::owns,by simp[k1],by grind,by simp[qbo,k3],by simpa using k4,by simpa using k5,fun k hk=>?_⟩;cases k with
  |zero=>exact⟨⟨rfl,by rw[h1];exact h2.keep fun b hb hlt=>⟨hF b hb hlt,hlt,rfl⟩⟩,rfl⟩
  |succ k=>rw[h1];exact k6 k (by simpa using hk)
 |.own et e::ps,x,vs,g,i,⟨v,r,g1,g2,h1,h2,h3,h4⟩,hn=>by
  rw[h2,zau]at hn;obtain⟨n1,n2,n3⟩:=zai.1 hn;obtain⟨owns,k1,k2,k3,k4,k5,k6⟩:=qdQ hF ps h4 n2;refine⟨g1::owns,by simp[k1],by grind,by simp[qbo,k3],?_,?_,fun k hk=>?_⟩
  ·grind
  ·grind
  ·cases k with
   |zero=>exact⟨by rw[h1];exact h3.keep (fun b hb hlt=>⟨hF b hb hlt,hlt,rfl⟩) (fun _ _ _=>rfl),rfl⟩
   |succ k=>rw[h1];exact k6 k (by simpa using hk)
 |.io t::ps,x,vs,g,i,⟨b0,r,i2,cs,te,h1,h2,h3,h4,h5⟩,hn=>by
  rw[h2]at hn;have hn':=zai.1 hn;have hni:=zaJ.1 hn'.2.1;have hn2:(g++i2).Nodup:=zai.2 ⟨hn'.1,hni.2,fun b hb b' hb'=>hn'.2.2 b hb b' (zaj _ hb')⟩;obtain⟨owns,k1,k2,k3,k4,k5,k6⟩:=qdQ hF ps h5 hn2;refine⟨[b0]::owns,by simp[k1],by grind,by simp[qbo,k3],?_,?_,fun k hk=>?_⟩
  ·grind
  ·grind
  ·cases k with
   |zero=>exact⟨⟨b0,cs,[],te,by rw[h1];rfl,h3,⟨rfl,h4.keep fun b hb hlt=>⟨hF b hb hlt,hlt,rfl⟩⟩,rfl⟩,rfl⟩
   |succ k=>rw[h1];exact k6 k (by simpa using hk)
 |.iob t::ps,x,vs,g,i,⟨b0,r,g1,g2,i2,cs,te,h1,h0,h2,h3,h4,h5⟩,hn=>by
  subst h0;subst h2;have hp:((g1++g2)++b0::i2).Perm ((b0::g1)++(g2++i2)):=List.perm_iff_count.2 fun a=>by grind
  have hn':=zai.1 (hp.nodup_iff.1 hn);obtain⟨owns,k1,k2,k3,k4,k5,k6⟩:=qdQ hF ps h5 hn'.2.1;refine⟨(b0::g1)::owns,by simp[k1],by grind,by simp[qbo,k3],?_,?_,fun k hk=>?_⟩
  ·grind
  ·grind
  ·cases k with
   |zero=>exact⟨⟨b0,cs,g1,te,by rw[h1];rfl,h3,h4.keep (fun b hb hlt=>⟨hF b hb hlt,hlt,rfl⟩) (fun _ _ _=>rfl),rfl⟩,rfl⟩
   |succ k=>rw[h1];exact k6 k (by simpa using hk)
theorem qgL {fn:Func}{ps:List PM}{x:PMs.den ps}{k:Nat}(hl:(qbo ps x).length=ps.length) (hk:k<ps.length):qj (qd6 fn ps x) k=qj (qbo ps x) k:=by
 grind [qj,qd6]
theorem qgk {fn:Func}{ps:List PM}{x:PMs.den ps}{k:Nat}(hl:(qbo ps x).length=ps.length) (hk:¬k<ps.length):qj (qd6 fn ps x) k=(0,.undef):=by
 grind [qj,qd6]
theorem qiI:(ps:List PM)→(x:PMs.den ps)→∀e∈qbo ps x,e.2.isHeap=false
 |[],_,_,h=>by cases h
 |p::ps,x,e,h=>by
  rcases zak.1 h with rfl|h
  ·cases p<;>rfl
  ·exact qiI ps x.2 e h
theorem qoF {fn:Func}{ps:List PM}{x:PMs.den ps}(s:Nat):(qj (qd6 fn ps x) s).2.isHeap=false:=by
 unfold qj qd6;rw[List.getD_eq_getElem?_getD];cases h:(qbo ps x++zaT (fn.ntmps-ps.length) (0,AV.undef))[s]? with
 |none=>rfl
 |some e=>
  rcases zaf.1 (List.mem_of_getElem? h)with h|h
  ·exact qiI ps x e h
  ·rw[(List.mem_replicate.1 h).2];rfl
theorem qt2 {hs0:Nat}{pn:Pn}{P:Program}{F:Nat→Prop}{fn:Func}{ps:List PM}{x:PMs.den ps}{vs:List Value}{g i:List Nat}{T:qo5}(hT:qcN T w fun b=>F b∧¬b∈g++i) (hlen:ps.length≤fn.ntmps) (hp:qac P w F ps x vs g i) (hpre:∀b∈g++i,¬F b∧b<w.heap.size) (hn:(g++i).Nodup):
  ∃own,qK { P,w0:=w,O:=fun b=>b∈g++i,G:=F,pn,T,hT,hs:=hs0,gh0:=fun _ _=>none } (qd6 fn ps x) (vs.toArray++Array.replicate (fn.ntmps-vs.toArray.size) undef) w own:=by
 have base:∃owns:List (List Nat),owns.length=ps.length∧vs.length=ps.length∧(qbo ps x).length=ps.length∧owns.flatten.Nodup∧(∀b∈owns.flatten,b∈g++i)∧
   ∀k,k<ps.length→qS { P,ver:=fun s=>(qj (qd6 fn ps x) s).1,tm:=fun s=>(vs.toArray++Array.replicate (fn.ntmps-vs.toArray.size) undef).getD s undef,w,F:=fun b=>F b,own:=fun _=>[],gh:=fun _ _=>none,pn } (qj (qbo ps x) k).2 (vs.getD k undef) (owns.getD k [])∧(qj (qbo ps x) k).2.mentions=[]:=
  qdQ (X:= { P,ver:=_,tm:=_,w,F:=fun b=>F b,own:=fun _=>[],gh:=fun _ _=>none,pn }) (fun b hb _=>hb) ps hp hn
 obtain⟨owns,k1,k2,k3,k4,k5,k6⟩:=base;obtain⟨n1,n2⟩:=qeN k4;have mem:∀s b,b∈owns.getD s []→b∈g++i:=fun s b hb=>by
  grind [List.mem_flatten]
 have hsl:(qd6 fn ps x).length=fn.ntmps:=by grind [qd6]
 have hz:∀k,¬k<ps.length→owns.getD k []=[]:=fun k hk=>by
  grind
 refine⟨⟨fun s=>owns.getD s [],fun _ _=>none⟩,⟨?_,qaJ.refl _,qaA.refl _ _,fun s b hb=>⟨.inl (mem s b hb),(hpre b (mem s b hb)).2⟩,n1,n2,fun s hs=>hz s (by omega),fun s hs=>?_,fun s m hm=>?_,fun s hh=>by grind [qoF]⟩⟩
 ·grind
 ·by_cases hk:s<ps.length
  ·rw[qgL k3 hk];obtain⟨h1,h2⟩:=k6 s hk;have e:(vs.toArray++Array.replicate (fn.ntmps-vs.toArray.size) undef).getD s undef=vs.getD s undef:=by
    rw[Array.getD_eq_getD_getElem?,Array.getElem?_append_left (by grind),List.getD_eq_getElem?_getD];simp
   rw[e];refine qS.keep (X:= { P,ver:=fun s=>(qj (qd6 fn ps x) s).1,tm:=fun s=>(vs.toArray++Array.replicate (fn.ntmps-vs.toArray.size) undef).getD s undef,w,F:=fun b=>F b,own:=fun _=>[],gh:=fun _ _=>none,pn }) (X':=sit { P,w0:=w,O:=fun b=>b∈g++i,G:=F,pn,T,hT,hs:=hs0,gh0:=fun _ _=>none } (qd6 fn ps x) (vs.toArray++Array.replicate (fn.ntmps-vs.toArray.size) undef) w ⟨fun s=>owns.getD s [],fun _ _=>none⟩) ⟨rfl,rfl,qaJ.refl _,fun _=>rfl⟩ (fun b hb hlt=>⟨⟨.inl hb,hlt,fun s' hs'=>(hpre b (mem s' b hs')).1 hb⟩,hlt,rfl⟩) (fun _ _ _=>rfl) (fun m hm=>by grind) h1
  ·rw[qgk k3 hk];trivial
 ·by_cases hk:s<ps.length
  ·grind [qgL]
  ·rw[qgk k3 hk]at hm;cases hm
def qlj (tmps:Array Value):ResultVar→Sem Value
 |.tmp t=>pure (tmps.getD t undef)
 |.cell a t=>do loadVar t (←asAddr (tmps.getD a undef))
theorem qh6 {P:Program}{t:Nat}{u:Ty}(h:TyB P t u) {ad:Addr}{cs:List Value}(hc:qem w ad cs) (hl:cs.length=u.size):(loadVar t ad).run P w=.ok (mkV u cs) w:=by
 have:=qcC (w:=w) h hc hl;grind [Instr.loadAt,Instr.sureAddr]
theorem qgM (hE:qad E C.P) (h:qK C σ tm w own):(r:RM)→{v:ResultVar}→{x:r.den×List Nat}→(qjo E r v).run (qj σ)=some x→∃z,(qlj tm v).run C.P w=.ok z w∧
  (match r,x with
   |.val t,x=>q9 w (FW (sit C σ tm w own) x.2) t x.1 z
   |.nz e,x=>q9 w (C.free w own) (.slice e) x.1 z∧(∀c,(nzC [.nz e] [v]).run (qj σ)=some c→qb9 c→x.1=[]→z=.slice none 0 0)
   |.own et e,x=>∃s',x.2=[s']∧qO w (C.free w own) et e x.1 z (own s')∧∃ys,(qj σ s').2=.own et e ys)
 |.val t,.tmp s,x,he=>by
  simp only[qjo,Q.yc]at he;exact⟨tm.getD s undef,rfl,qcm h (o:=⟨some s,(qj σ s).1,(qj σ s).2⟩) ⟨rfl,rfl,h.at_ s⟩ he⟩
 |.val u,.cell s t,x,he=>by
  simp only[qjo,Q.yc]at he;have hat:=h.at_ s;split at he;case h_2=>cases he
  rename_i c hc;split at he;case isFalse=>cases he
  rename_i hcond;split at he;case h_2=>cases he
  rename_i y f hg;have:=Q.yb he;subst this;obtain⟨b0,cs,bs',te,b1,b2,b3,b4⟩:=h.box (a:= { tmps:=tm,defers:=[] }) hc;obtain⟨q1,q2,q3⟩:=b3.get hg;have hcl:=b3.length;rw[zaN,zan (by omega)]at q2;rw[zaN,zan (by omega)]at q3;refine⟨mkV u cs,?_,q9.ofCells ?_⟩
  ·have hcs:qem w ⟨b0,0,none⟩ cs:=by
    intro j u hj;grind [qx,qek]
   have hl:=qh6 (hE.ty t u hcond.1) hcs (by omega);grind [ptr,qlj,asAddr]
  ·cases f with
   |false=>exact(q3 rfl).keep fun b hb hlt=>⟨.inl hb,hlt,rfl⟩
   |true=>
    refine q2.keep fun b hb hlt=>⟨?_,hlt,rfl⟩;rcases hb with hb|hb
    ·exact .inl hb
    ·refine .inr ⟨s,zah.2 rfl,by show b∈own s;grind,fun e=>?_⟩;have e:tm.getD s undef=ptr b 0:=e;have b1:tm.getD s undef=ptr b0 0:=b1;rw[b1]at e;have e:=(qdC e).1;subst e;have hn:=h.nodup s;grind
 |.own et e,.tmp s,x,he=>by
  simp only[qjo,Q.yc]at he;have hat:=h.at_ s;split at he
  ·rename_i et' e' xs' h3;rw[h3]at hat;split at he
   ·rename_i het;subst het;split at he
    ·rename_i xs has;have:=Q.yb he;subst this;obtain⟨e1,e2⟩:=Ty.yd has;injection e1 with e1;subst e1;have e2:xs'=xs:=e2;subst e2;exact⟨_,rfl,s,rfl,hat,_,h3⟩
    ·cases he
   ·cases he
  ·rename_i s' v0 h3;rw[h3]at hat;simp only[Q.yc]at he;split at he
   ·rename_i hv;have hu:tm.getD s' undef=tm.getD s undef:=hat.2 hv;have hat':=h.at_ s';rw[hu]at hat';split at he
    ·rename_i et' e' xs' h4;rw[h4]at hat';split at he
     ·rename_i het;subst het;split at he
      ·rename_i xs has;have:=Q.yb he;subst this;obtain⟨e1,e2⟩:=Ty.yd has;injection e1 with e1;subst e1;have e2:xs'=xs:=e2;subst e2;exact⟨_,rfl,s',rfl,hat',_,h4⟩
      ·cases he
     ·cases he
    ·cases he
   ·cases he
  ·cases he
 |.own _ _,.cell _ _,x,he=>by cases he
 |.nz _,.cell _ _,x,he=>by cases he
 |.nz e,.tmp s,x,he=>by
  simp only[qjo,Q.yc]at he;have hat:=h.at_ s;split at he
  ·rename_i et e' h3;rw[h3]at hat;have:=Q.yb he;subst this;have hat:_∧_:=hat;refine⟨_,rfl,?_,fun c _ _ _=>hat.2⟩;rw[hat.2];exact q9.ofSlice (.inl ⟨rfl,rfl⟩)
  ·rename_i e' xs h3;rw[h3]at hat;split at he;case h_2=>cases he
   rename_i ys has;have:=Q.yb he;subst this;obtain⟨e1,e2⟩:=Ty.yd has;injection e1 with e1;subst e1;have e2:xs=ys:=e2;subst e2;exact⟨_,rfl,hat.2.1,fun c _ _ h0=>hat.2.2 h0⟩
  ·rename_i e' xs h3;rw[h3]at hat;split at he;case h_2=>cases he
   rename_i ys has;have:=Q.yb he;subst this;obtain⟨e1,e2⟩:=Ty.yd has;injection e1 with e1;subst e1;have e2:xs=ys:=e2;subst e2;refine⟨_,rfl,hat.2,fun c hc hb h0=>?_⟩;simp only[nzC,Q.yc,h3]at hc;have:=Q.yb hc;subst this;have h0:xs=[]:=h0;subst h0;have:=hb _ (zah.2 rfl);grind [qkd,qv]
  ·cases he
theorem qnh (r:RM) (v:ResultVar) (rs:List RM) (vs:List ResultVar) {c:List Bool}(hc:(nzC (r::rs) (v::vs)).run (qj σ)=some c) (hb:qb9 c):(∀c,(nzC [r] [v]).run (qj σ)=some c→qb9 c)∧∃c2,(nzC rs vs).run (qj σ)=some c2∧qb9 c2:=by
 have none:(nzC (r::rs) (v::vs)=nzC rs vs)→nzC [r] [v]=.ret []→(∀c,(nzC [r] [v]).run (qj σ)=some c→qb9 c)∧∃c2,(nzC rs vs).run (qj σ)=some c2∧qb9 c2:=fun e1 e2=>by
  rw[e1]at hc;refine⟨fun c h=>?_,c,hc,hb⟩;rw[e2]at h;have:=Q.yb h;subst this;intro b hb;cases hb
 cases r with
 |val t=>exact none rfl rfl
 |own et e=>exact none rfl rfl
 |nz e=>
  cases v with
  |cell a t=>exact none rfl rfl
  |tmp s=>
   simp only[nzC,Q.yc]at hc⊢
   split at hc
   ·rename_i e' xs h3;obtain⟨c2,h1,h2⟩:=Q.ya hc;have:=Q.yb h2;subst this;refine⟨fun c h=>?_,c2,h1,fun b hm=>hb b (zaj _ hm)⟩;have:=Q.yb (show(Q.ret [neI (qn xs) 0]).run (qj σ)=some c from h);subst this;intro b hm;exact hb b (by grind)
   ·rename_i h3;refine⟨fun c h=>?_,c,hc,hb⟩;have:=Q.yb h;subst this;intro b hb;cases hb
theorem qg8 (hE:qad E C.P) (h:qK C σ tm w own):(rs:List RM)→{vars:List ResultVar}→{q:RMs.den rs×List Nat×List Nat}→(qiR E rs vars).run (qj σ)=some q→(∃c,(nzC rs vars).run (qj σ)=some c∧qb9 c)→∃(vs:List Value) (bs:List Nat),(vars.mapM (qlj tm)).run C.P w=.ok vs w∧
  qaB w (FW (sit C σ tm w own) q.2.2) (qcU rs q.1) vs bs∧(∀b∈bs,∃s∈q.2.1,b∈own s)∧(q.2.1.Nodup→bs.Nodup)∧∀s∈q.2.1,∃et e ys,(qj σ s).2=.own et e ys
 |[],[],q,he,_=>by
  have:=Q.yb he;subst this;exact⟨[],[],rfl,⟨rfl,rfl⟩,fun b hb=>(by cases hb),fun _=>zaA,fun s hs=>(by cases hs)⟩
 |.nz e::rs,v::vars,q,he,⟨c,hc,hb⟩=>by
  simp only[qiR]at he;obtain⟨x,h1,he⟩:=Q.ya he;obtain⟨q',h2,he⟩:=Q.ya he;have:=Q.yb he;subst this;obtain⟨n1,n2⟩:=qnh _ _ _ _ hc hb;obtain⟨z,hz,hr,hr2⟩:=qgM hE h (.nz e) h1;obtain⟨vs,bs,k1,k2,k3,k4,k5⟩:=qg8 hE h rs h2 n2;have hnz:∃c,(nzC [.nz e] [v]).run (qj σ)=some c:=by
   cases v with
   |cell a t=>exact⟨[],rfl⟩
   |tmp s=>
    simp only[nzC,Q.yc];split
    ·exact⟨_,rfl⟩
    ·exact⟨_,rfl⟩
  obtain⟨c0,hc0⟩:=hnz;refine⟨z::vs,bs,by simp_all,⟨_,_,[],bs,rfl,rfl,⟨rfl,hr.mono fun b hb _=>.inl hb,hr2 c0 hc0 (n1 c0 hc0)⟩,k2⟩,k3,k4,k5⟩
 |.val t::rs,v::vars,q,he,⟨c,hc,hb⟩=>by
  simp only[qiR]at he;obtain⟨x,h1,he⟩:=Q.ya he;obtain⟨q',h2,he⟩:=Q.ya he;have:=Q.yb he;subst this;obtain⟨z,hz,hr⟩:=qgM hE h (.val t) h1;obtain⟨vs,bs,k1,k2,k3,k4,k5⟩:=qg8 hE h rs h2 (qnh _ _ _ _ hc hb).2;refine⟨z::vs,bs,by simp_all,⟨_,_,[],bs,rfl,rfl,⟨rfl,hr.mono fun b hb _=>FW.mono (fun s hs=>zab _ hs) hb⟩,qaB.turn rs (.inr fun b hb _=>FW.mono (fun s hs=>zaa _ hs) hb) k2⟩,k3,k4,k5⟩
 |.own et e::rs,v::vars,q,he,⟨c,hc,hb⟩=>by
  simp only[qiR]at he;obtain⟨x,h1,he⟩:=Q.ya he;obtain⟨q',h2,he⟩:=Q.ya he;have:=Q.yb he;subst this;obtain⟨z,hz,s',hx,hr,ys,hys⟩:=qgM hE h (.own et e) h1;obtain⟨vs,bs,k1,k2,k3,k4,k5⟩:=qg8 hE h rs h2 (qnh _ _ _ _ hc hb).2;refine⟨z::vs,own s'++bs,by simp_all,⟨_,_,own s',bs,rfl,rfl,hr.keep (fun b hb hlt=>⟨.inl hb,hlt,rfl⟩) (fun _ _ _=>rfl),k2⟩,fun b hb=>?_,fun hn=>?_,fun s2 hs2=>?_⟩
  ·grind
  ·simp only[hx]at hn;have hn':=zaJ.1 hn;refine zai.2 ⟨h.nodup s',k4 hn'.2,fun b hb b' hb' e=>?_⟩;subst e;obtain⟨s2,g1,g2⟩:=k3 b hb';have:=h.apart s' s2 b hb g2;grind
  grind
 |[],_::_,_,he,_=>by cases he
 |.val _::_,[],_,he,_=>by cases he
 |.own _ _::_,[],_,he,_=>by cases he
 |.nz _::_,[],_,he,_=>by cases he
def qci (tm:Nat→Value):List PM→Nat→List Value→List Nat→Prop
 |[],_,_,i=>i=[]
 |.io _::ps,k,as,i=>∃b i2,i=b::i2∧tm k=ptr b 0∧qci tm ps (k+1) as.tail i2
 |.iob _::ps,k,as,i=>∃b i2,i=b::i2∧tm k=ptr b 0∧qci tm ps (k+1) as.tail i2
 |.ior _ _::ps,k,as,i=>∃i1 i2,i=i1++i2∧tm k=as.headD undef∧i1=(as.headD undef).ownBlock.toList∧qci tm ps (k+1) as.tail i2
 |.val _::ps,k,as,i=>qci tm ps (k+1) as.tail i
 |.own _ _::ps,k,as,i=>qci tm ps (k+1) as.tail i
 |.fn _ _::ps,k,as,i=>qci tm ps (k+1) as.tail i
 |.nil _ _::ps,k,as,i=>qci tm ps (k+1) as.tail i
 |.rd _::ps,k,as,i=>qci tm ps (k+1) as.tail i
theorem qci.congr {tm tm':Nat→Value}:(ps:List PM)→(k:Nat)→{as:List Value}→{i:List Nat}→(∀s∈qcI ps k,tm' s=tm s)→qci tm ps k as i→qci tm' ps k as i
 |[],_,_,_,_,h=>h
 |.io _::ps,k,_,_,he,⟨b,i2,h1,h2,h3⟩=>⟨b,i2,h1,by grind [qcI],h3.congr ps (k+1) fun s hs=>he s (by simp[qcI,hs])⟩
 |.iob _::ps,k,_,_,he,⟨b,i2,h1,h2,h3⟩=>⟨b,i2,h1,by grind [qcI],h3.congr ps (k+1) fun s hs=>he s (by simp[qcI,hs])⟩
 |.ior _ _::ps,k,_,_,he,⟨i1,i2,h1,h2,h3,h4⟩=>⟨i1,i2,h1,by grind [qcI],h3,h4.congr ps (k+1) fun s hs=>he s (by simp[qcI,hs])⟩
 |.val _::ps,k,_,_,he,h=>qci.congr ps (k+1) he h
 |.own _ _::ps,k,_,_,he,h=>qci.congr ps (k+1) he h
 |.fn _ _::ps,k,_,_,he,h=>qci.congr ps (k+1) he h
 |.nil _ _::ps,k,_,_,he,h=>qci.congr ps (k+1) he h
 |.rd _::ps,k,_,_,he,h=>qci.congr ps (k+1) he h
theorem qci.boxes {tm:Nat→Value}:(ps:List PM)→(k:Nat)→{as:List Value}→{i:List Nat}→qci tm ps k as i→∃ib:List Nat,(qb1 ps k).map tm=ib.map (fun b=>ptr b 0)
 |[],_,_,_,_=>⟨[],rfl⟩
 |.io _::ps,k,_,_,⟨b,i2,h1,h2,h3⟩=>by
  obtain⟨ib,hib⟩:=h3.boxes ps (k+1);exact⟨b::ib,by simp[qb1,h2,hib]⟩
 |.iob _::ps,k,_,_,⟨b,i2,h1,h2,h3⟩=>by
  obtain⟨ib,hib⟩:=h3.boxes ps (k+1);exact⟨b::ib,by simp[qb1,h2,hib]⟩
 |.ior _ _::ps,k,_,_,⟨i1,i2,h1,h2,h3,h4⟩=>by
  obtain⟨ib,hib⟩:=h4.boxes ps (k+1);grind [qb1]
 |.val _::ps,k,_,_,h=>qci.boxes ps (k+1) h
 |.own _ _::ps,k,_,_,h=>qci.boxes ps (k+1) h
 |.fn _ _::ps,k,_,_,h=>qci.boxes ps (k+1) h
 |.nil _ _::ps,k,_,_,h=>qci.boxes ps (k+1) h
 |.rd _::ps,k,_,_,h=>qci.boxes ps (k+1) h
theorem qcv:(ps:List PM)→(k:Nat)→∀s∈qb1 ps k,s∈qcI ps k
 |[],_,_,h=>h
 |.io _::ps,k,s,h=>by
  rcases zak.1 h with rfl|h
  ·simp[qcI]
  ·simp[qcI,qcv ps (k+1) s h]
 |.iob _::ps,k,s,h=>by
  rcases zak.1 h with rfl|h
  ·simp[qcI]
  ·simp[qcI,qcv ps (k+1) s h]
 |.ior _ _::ps,k,s,h=>by simp[qcI,qcv ps (k+1) s h]
 |.val _::ps,k,s,h=>qcv ps (k+1) s h
 |.own _ _::ps,k,s,h=>qcv ps (k+1) s h
 |.fn _ _::ps,k,s,h=>qcv ps (k+1) s h
 |.nil _ _::ps,k,s,h=>qcv ps (k+1) s h
 |.rd _::ps,k,s,h=>qcv ps (k+1) s h
theorem qdO (h:qK C σ a.tmps w own):(ps:List PM)→(k:Nat)→{z:PMs.ioDen ps}→{as:List Value}→{i:List Nat}→(qfM ps k).run (qj σ)=some z→
  qci (fun s=>a.tmps.getD s undef) ps k as i→∃js:List Nat,js.Nodup∧(∀F:Nat→Prop,(∀b s c,k≤s→(qj σ s).2=.box c→b∈(own s).tail→b∉js→F b)→(∀b,C.free w own b→F b)→qcM w F ps z as i js)∧
   (∀b∈i,∃s,b∈own s∧((a.tmps.getD s undef=ptr b 0∧∃c,(qj σ s).2=.box c)∨(s∈qdB ps k∧∃et e ys,(qj σ s).2=.own et e ys)))∧
   ∀b∈js,∃s,k≤s∧b∈own s∧s∈qdB ps k∧(∃c,(qj σ s).2=.box c)∧a.tmps.getD s undef≠ptr b 0
 |[],k,z,as,i,_,hi=>by
  have hi:i=[]:=hi;subst hi;exact⟨[],zaA,fun _ _ _=>⟨rfl,rfl⟩,fun b hb=>(by cases hb),fun b hb=>(by cases hb)⟩
 |.val _::ps,k,z,as,i,he,hi=>by
  obtain⟨js,n,g0,g1,g2⟩:=qdO h ps (k+1) (z:=z) he hi;exact⟨js,n,fun F hF hF0=>g0 F (fun b s c hk=>hF b s c (by omega)) hF0,g1,fun b hb=>by
   obtain⟨s,q1,q2⟩:=g2 b hb;exact⟨s,by omega,q2⟩⟩
 |.own _ _::ps,k,z,as,i,he,hi=>by
  obtain⟨js,n,g0,g1,g2⟩:=qdO h ps (k+1) (z:=z) he hi;exact⟨js,n,fun F hF hF0=>g0 F (fun b s c hk=>hF b s c (by omega)) hF0,g1,fun b hb=>by
   obtain⟨s,q1,q2⟩:=g2 b hb;exact⟨s,by omega,q2⟩⟩
 |.fn _ _::ps,k,z,as,i,he,hi=>by
  obtain⟨js,n,g0,g1,g2⟩:=qdO h ps (k+1) (z:=z) he hi;exact⟨js,n,fun F hF hF0=>g0 F (fun b s c hk=>hF b s c (by omega)) hF0,g1,fun b hb=>by
   obtain⟨s,q1,q2⟩:=g2 b hb;exact⟨s,by omega,q2⟩⟩
 |.nil _ _::ps,k,z,as,i,he,hi=>by
  obtain⟨js,n,g0,g1,g2⟩:=qdO h ps (k+1) (z:=z) he hi;exact⟨js,n,fun F hF hF0=>g0 F (fun b s c hk=>hF b s c (by omega)) hF0,g1,fun b hb=>by
   obtain⟨s,q1,q2⟩:=g2 b hb;exact⟨s,by omega,q2⟩⟩
 |.rd _::ps,k,z,as,i,he,hi=>by
  obtain⟨js,n,g0,g1,g2⟩:=qdO h ps (k+1) (z:=z) he hi;exact⟨js,n,fun F hF hF0=>g0 F (fun b s c hk=>hF b s c (by omega)) hF0,g1,fun b hb=>by
   obtain⟨s,q1,q2⟩:=g2 b hb;exact⟨s,by omega,q2⟩⟩
 |.ior et e::ps,k,z,as,i,he,⟨i1,i2,p1,p2,p3,p4⟩=>by
  simp only[qfM,Q.yc]at he;split at he;case h_2=>cases he
  rename_i et' e' xs hx;split at he;case isFalse=>cases he
  rename_i hty;subst hty;split at he;case h_2=>cases he
  rename_i x hs;obtain⟨r,h1,he⟩:=Q.ya he;have:=Q.yb he;subst this;obtain⟨e1,e2⟩:=Ty.yd hs;injection e1 with e1;subst e1;have e2:xs=x:=e2;subst e2;obtain⟨js,hjn,g1,g2,g3⟩:=qdO h ps (k+1) h1 p4;have hat:=h.at_ k;rw[hx,show a.tmps.getD k undef=as.headD undef from p2]at hat;have hown:qO w (C.free w own) et e' xs (as.headD undef) (own k):=hat;have hb:own k=i1:=by
   obtain⟨cells,_,hb,_⟩:=hown;rw[hb,p3]
  refine⟨js,hjn,fun F hF hF0=>⟨i1,i2,p1,?_,g1 F (fun b s c hk=>hF b s c (by omega)) hF0⟩,fun b hbm=>?_,fun b hb=>?_⟩
  ·rw[hb]at hown;exact hown.keep (fun b hb hlt=>⟨hF0 b hb,hlt,rfl⟩) (fun _ _ _=>rfl)
  all_goals grind [qdB]
 |.io t::ps,k,z,as,i,he,⟨b,i2,p1,p2,p3⟩=>by
  subst p1;simp only[qfM,Q.yc]at he;split at he;case h_2=>cases he
  rename_i c hc;split at he;case h_2=>cases he
  rename_i x fl hg;split at hg;case isFalse=>cases hg
  rename_i hsz;obtain⟨r,h1,he⟩:=Q.ya he;have:=Q.yb he;subst this;obtain⟨b0,cs,bs',te,b1,b2,b3,b4⟩:=h.box hc;have hb:b0=b:=(qdC (b1.symm.trans p2)).1;subst hb;obtain⟨js,hjn,g1,g2,g3⟩:=qdO h ps (k+1) h1 p3;obtain⟨q1,q2,_⟩:=b3.get hg;have hcl:=b3.length;rw[zaN,zan (by omega)]at q2;refine⟨js,hjn,fun F hF hF0=>⟨b0,i2,cs,te,rfl,b2,q2.keep fun b hb hlt=>⟨?_,hlt,rfl⟩,g1 F (fun b s c hk=>hF b s c (by omega)) hF0⟩,fun b hb=>?_,fun b hb=>?_⟩
  ·rcases hb with hb|hb
   ·exact hF0 b hb
   ·refine hF b k c (zax _) hc (by grind) fun hj=>?_;obtain⟨s,r0,r1,_⟩:=g3 b hj;have:=h.apart s k b r1 (by grind);omega
  all_goals grind [qdB]
 |.iob t::ps,k,z,as,i,he,⟨b,i2,p1,p2,p3⟩=>by
  subst p1;simp only[qfM,Q.yc]at he;split at he;case h_2=>cases he
  rename_i c hc;split at he;case h_2=>cases he
  rename_i x hg;obtain⟨r,h1,he⟩:=Q.ya he;have:=Q.yb he;subst this;obtain⟨b0,cs,bs',te,b1,b2,b3,b4⟩:=h.box hc;have hb:b0=b:=(qdC (b1.symm.trans p2)).1;subst hb;obtain⟨js,hjn,g1,g2,g3⟩:=qdO h ps (k+1) h1 p3;have hnd:=h.nodup k;rw[b4]at hnd;have hnd:=zaJ.1 hnd;obtain⟨j1,q1,q2⟩:=b3.fit t hnd.2 hg;have hk:∀b∈j1,b∈own k:=fun b hb=>by grind
  have hjk:∀b∈own k,b∉js:=fun b hb hj=>by
   obtain⟨s,r0,r1,_⟩:=g3 b hj;have:=h.apart s k b r1 hb;omega
  refine⟨j1++js,zai.2 ⟨hnd.2.sublist q1,hjn,fun b hb b' hb' e=>hjk b (hk b hb) (e▸hb')⟩,fun F hF hF0=>⟨b0,i2,j1,js,cs,te,rfl,rfl,b2,q2 F hF0 fun k' hk' hkn=>?_,g1 F (fun b s c' hks hc' hb hnj=>?_) hF0⟩,fun b hb=>?_,fun b hb=>?_⟩
  ·grind
  ·by_cases hj:b∈j1
   ·have:=h.apart s k b (List.mem_of_mem_tail hb) (hk b hj);omega
   grind
  all_goals grind [qdC,qdB]
end
end Go.Vi
namespace Go.Vi
open Go.RowKit
theorem qh0 {P:Program}{w:World}{fn:Func}{tmps:Array Value}{vs:List Value}(h:(fn.results.toList.mapM (qlj tmps)).run P w=.ok vs w):(results fn tmps).run P w=Result.ok (qcG vs) w:=by
 have e:results fn tmps=(do
   let vs ←fn.results.mapM (qlj tmps)
   pure (if h:vs.size=1 then vs[0]else .tuple vs)):=rfl
 rw[e,Array.mapM_eq_mapM_toList];simp only[Sem.run_bind,Sem.run_map,h,Result.andThen_ok,Sem.run_pure];congr 1;match vs with
 |[]=>rfl
 |[v]=>rfl
 |v::u::r=>simp[qcG]
theorem qc0 {P:Program}{w:World}{F:Nat→Prop}(tm:Nat→Value):(ps:List PM)→(k:Nat)→{x:PMs.den ps}→{vs:List Value}→{g i:List Nat}→qac P w F ps x vs g i→(∀j,j<ps.length→tm (k+j)=vs.getD j undef)→qci tm ps k vs i
 |[],k,x,vs,g,i,⟨_,_,h3⟩,_=>h3
 |.val t::ps,k,x,vs,g,i,⟨v,r,h1,h2,h3⟩,ht=>by
  subst h1;exact qc0 tm ps (k+1) h3 fun j hj=>by
   have:=ht (j+1) (by simpa using hj);grind
 |.nil _ _::ps,k,x,vs,g,i,⟨r,h1,h3⟩,ht=>by
  subst h1;exact qc0 tm ps (k+1) h3 fun j hj=>by
   have:=ht (j+1) (by simpa using hj);grind
 |.rd _::ps,k,x,vs,g,i,⟨_,_,r,h1,_,_,_,_,h3⟩,ht=>by
  subst h1;exact qc0 tm ps (k+1) h3 fun j hj=>by
   have:=ht (j+1) (by simpa using hj);grind
 |.fn _ _::ps,k,x,vs,g,i,⟨v,r,h1,h2,h3⟩,ht=>by
  subst h1;exact qc0 tm ps (k+1) h3 fun j hj=>by
   have:=ht (j+1) (by simpa using hj);grind
 |.own _ _::ps,k,x,vs,g,i,⟨v,r,g1,g2,h1,h2,h3,h4⟩,ht=>by
  subst h1;exact qc0 tm ps (k+1) h4 fun j hj=>by
   have:=ht (j+1) (by simpa using hj);grind
 |.ior _ _::ps,k,x,vs,g,i,⟨v,r,i1,i2,h1,h2,h3,h4⟩,ht=>by
  subst h1;have h0:tm k=v:=by simpa using ht 0 (by simp)
  refine⟨i1,i2,h2,h0,?_,qc0 tm ps (k+1) h4 fun j hj=>?_⟩
  ·obtain⟨cells,_,hb,_⟩:=h3;exact hb
  ·have:=ht (j+1) (by simpa using hj);grind
 |.iob t::ps,k,x,vs,g,i,⟨b,r,g1,g2,i2,cs,te,h1,h0,h2,h3,h4,h5⟩,ht=>by
  subst h1;have h0:tm k=ptr b 0:=by simpa using ht 0 (by simp)
  refine⟨b,i2,h2,h0,qc0 tm ps (k+1) h5 fun j hj=>?_⟩;have:=ht (j+1) (by simpa using hj);grind
 |.io t::ps,k,x,vs,g,i,⟨b,r,i2,cs,te,h1,h2,h3,h4,h5⟩,ht=>by
  subst h1;have h0:tm k=ptr b 0:=by simpa using ht 0 (by simp)
  refine⟨b,i2,h2,h0,qc0 tm ps (k+1) h5 fun j hj=>?_⟩;have:=ht (j+1) (by simpa using hj);grind
end Go.Vi
namespace Go.Vi
open Go.RowKit
theorem qkB (vs:List Value) (n:Nat) (j:Nat):(vs.toArray++Array.replicate n undef).getD j undef=vs.getD j undef:=by
 rw[Array.getD_eq_getD_getElem?,List.getD_eq_getElem?_getD];grind
theorem qsW {P:Program}{E:Env}(hE:qad E P) {w w':World}{F:Nat→Prop}{fn:Func}{ps:List PM}{rs:List RM}{g i:List Nat}{σ:St}{a:Act}{own:Own}{y:RMs.den rs×PMs.ioDen ps}
  (hpre:∀b∈g++i,¬F b∧b<w.heap.size) (hn:(g++i).Nodup)
  {pn:Pn}(hpar:pn.par=E.hpar) {hT:qcN E.tabs w fun b=>F b∧¬b∈g++i}(h:qK { P,w0:=w,O:=fun b=>b∈g++i,G:=F,pn,T:=E.tabs,hT,hs:=E.hs,gh0:=fun _ _=>none } σ a.tmps w' own) {as:List Value}(hpin:qci (fun s=>a.tmps.getD s undef) ps 0 as i) (he:qnP E fn ps rs σ=some y):
  ∃vs bs js,(results fn a.tmps).run P w'=Result.ok (qcG vs) w'∧(bs++js).Nodup∧(∀b∈bs++js,(b∈g∨w.heap.size≤b)∧b<w'.heap.size)∧qaB w' (qiS w F g i (bs++js)) (qcU rs y.1) vs bs∧qcM w' (qiS w F g i (bs++js)) ps y.2 as i js∧qaA (fun b=>b∈g++i) w w':=by
 haveI:Tabbed E { P,w0:=w,O:=fun b=>b∈g++i,G:=F,pn,T:=E.tabs,hT,hs:=E.hs,gh0:=fun _ _=>none } :=⟨rfl,rfl,hpar⟩;unfold qnP at he;split at he;case h_2=>cases he
 rename_i y1 gone ow z cc hr hz hcc;split at he;case isFalse=>cases he
 rename_i hc;obtain⟨hca,he⟩:=qfi he;injection he with he;subst he;simp only[zad]at hc;have hgn:=qcs hc.1.1;have hap:=qeB hc.1.2;have qN:=qeB hc.2;obtain⟨vs0,bs,k1,k2,k3,k4,k5⟩:=qg8 hE h rs hr ⟨cc,hcc,hca⟩;obtain⟨js,hjn,hios,hio,hj⟩:=qdO h ps 0 hz hpin;have hbi:∀b∈bs,b∉i:=fun b hb hi=>by
  obtain⟨s,hs,hbs⟩:=k3 b hb;obtain⟨et,e,ys,hys⟩:=k5 s hs;obtain⟨s',h1,h2⟩:=hio b hi;have:=h.apart s s' b hbs h1;grind
 have hbj:∀b∈bs,b∉js:=fun b hb hjb=>by
  obtain⟨s,hs,hbs⟩:=k3 b hb;obtain⟨et,e,ys,hys⟩:=k5 s hs;obtain⟨s',_,h1,_,⟨c,h2⟩,_⟩:=hj b hjb;have:=h.apart s s' b hbs h1;grind
 have hji:∀b∈js,b∉i:=fun b hb hi=>by
  obtain⟨s,_,h1,_,⟨c,h2⟩,h3⟩:=hj b hb;obtain⟨s',h4,h5⟩:=hio b hi;have:=h.apart s s' b h1 h4;grind
 have hfree:∀b,Ctx.free { P,w0:=w,O:=fun b=>b∈g++i,G:=F,pn,T:=E.tabs,hT,hs:=E.hs,gh0:=fun _ _=>none } w' own b→qiS w F g i (bs++js) b:=fun b hb=>by
  have hni:b∉i:=fun hi=>by
   obtain⟨s',h1,_⟩:=hio b hi;exact hb.2.2 s' h1
  refine⟨?_,fun hbb=>?_,hni⟩
  ·rcases hb.1 with hb|hb|hb;all_goals grind
  ·rcases zaf.1 hbb with hbb|hbb
   ·obtain⟨s,_,hbs⟩:=k3 b hbb;exact hb.2.2 s hbs
   ·obtain⟨s,_,hbs,_⟩:=hj b hbb;exact hb.2.2 s hbs
 have hmine:∀s b,b∈own s→b∉i→F b∨b∈g∨w.heap.size≤b:=fun s b hb hni=>by
  rcases(h.mine s b hb).1 with hb|hb;all_goals grind
 refine⟨_,bs,js,qh0 k1,zai.2 ⟨k4 hgn,hjn,fun b hb b' hb' e=>hbj b hb (e▸hb')⟩,fun b hb=>?_,qaB.turn rs (.inr fun b hb _=>?_) k2,hios _ (fun b s c _ hc hb hnj=>?_) hfree,h.kept⟩
 ·have hni:b∉i:=(zaf.1 hb).elim (hbi b) (hji b);obtain⟨s,hbs⟩:∃s,b∈own s:=by
   grind
  obtain⟨h1,h2⟩:=h.mine s b hbs;grind
 ·rcases hb with hb|⟨s,hs,hbs,hne⟩
  ·exact hfree b hb
  ·have hni:b∉i:=fun hi=>by
    obtain⟨s',h1,h2⟩:=hio b hi;have:=h.apart s s' b hbs h1;subst this;rcases h2 with⟨h2,_⟩|⟨h2,_⟩
    ·exact hne h2
    grind
   refine⟨hmine s b hbs hni,fun hbb=>?_,hni⟩;rcases zaf.1 hbb with hbb|hbb
   ·obtain⟨s',hs',hbs'⟩:=k3 b hbb;have:=h.apart s s' b hbs hbs';grind
   ·obtain⟨s',_,hbs',hr',_⟩:=hj b hbb;have:=h.apart s s' b hbs hbs';grind
 ·obtain⟨b0,cs,bs',te,b1,b2,b3,b4⟩:=h.box hc;have hb0:=hb;rw[b4]at hb;have hb:b∈bs':=hb;have hbs:b∈own s:=by grind
  have hni:b∉i:=fun hi=>by
   obtain⟨s',h1,h2⟩:=hio b hi;have:=h.apart s s' b hbs h1;subst this;rcases h2 with⟨h2,_⟩|⟨_,et,e,ys,h2⟩
   ·rw[b1]at h2;have:=(qdC h2).1;subst this;have hnd:=h.nodup s;grind
   grind
  refine⟨hmine s b hbs hni,fun hbb=>?_,hni⟩;rcases zaf.1 hbb with hbb|hbb;case inr=>exact hnj hbb
  obtain⟨s',hs',hbs'⟩:=k3 b hbb;have:=h.apart s s' b hbs hbs';grind
def qoD:List Nat→List Nat→Nat→Option Nat
 |k::l,b::i,j=>if k=j then some b else qoD l i j
 |_,_,_=>none
theorem qp0 {tm:Nat→Value}:(l i:List Nat)→l.map tm=i.map (fun b=>ptr b 0)→(∀k b,qoD l i k=some b→tm k=ptr b 0∧k∈l)∧∀k∈l,∃b,qoD l i k=some b
 |[],_,_=>⟨fun k b h=>(by cases h),fun k h=>(by cases h)⟩
 |k::l,[],h=>by simp at h
 |k::l,b::i,h=>by
  simp only[zaC,List.cons.injEq]at h;obtain⟨h1,h2⟩:=qp0 l i h.2;grind [qoD]
theorem qad.pinned {E:Env}{P:Program}(h:qad E P) (l rf:List Nat) (nz:Bool):qad { E with pins:=l,rf:=rf,nzr:=nz } P:=
 ⟨⟨h.heap.ty,h.heap.sl,h.heap.zero,h.heap.ptr,h.heap.elem,h.heap.struct⟩,h.ty,fun t e he=>⟨(h.elem t e he).under,(h.elem t e he).info,(h.elem t e he).notInt⟩,h.dflt,h.size,h.arr,h.struct,h.str,h.int,h.bool,h.err,h.opt,h.map,h.off,h.zero,h.eq,h.mixed,h.lst⟩
theorem qcO {P:Program}{f:Nat}{fn:Func}{c:Code}(hf:P.funcs[f]? =some fn) (hb:fn.body=some c) (hname:(fn.name== "runtime.NumGoroutine")=false) (as:Array Value) (w:World):(callFunc f as).run P w=.ok (.enter f as) w:=by
 simp_all [callFunc]
theorem qu8 {P:Program}{E:Env}(hE:qad E P) (hF:qdr E P) (hH:qfN E P) {N:Nat}{anns:qog}{f:Nat}{fn:Func}{c:Code}(hf:P.funcs[f]? =some fn) (hb:fn.body=some c) (hname:(fn.name== "runtime.NumGoroutine")=false) (D:qH)
  (hrun:∀x y,D.sem x=some y→runF E N anns fn D.ps D.rs x=some y):D.okT P E.tabs f:=by
 refine⟨fun as w=>qcO hf hb hname as w,fun w F x y as g i hT hp hpre hn hy=>?_⟩;have hT':qcN E.tabs w fun b=>F b∧¬b∈g++i:=hT.keep fun b hb hlt=>⟨⟨hb,fun hm=>(hpre b hm).1 hb⟩,hlt,rfl⟩;have he:=hrun x y hy;unfold runF at he;rw[hb]at he;simp only at he;split at he;case isFalse=>cases he
 rename_i hcond;simp only[zad]at hcond;obtain⟨c1,c2⟩:=hcond;have hlen:D.ps.length≤fn.ntmps:=of_decide_eq_true c2;have hpin0:=qc0 (fun s=>(as.toArray++Array.replicate (fn.ntmps-as.toArray.size) undef).getD s undef) D.ps 0 hp fun j _=>by
  grind [qkB]
 obtain⟨ib,hib⟩:=hpin0.boxes D.ps 0;obtain⟨p1,p2⟩:=qp0 (qb1 D.ps 0) ib hib;obtain⟨own,hst⟩:=qt2 (hs0:=E.hs) (pn:=⟨qoD (qb1 D.ps 0) ib,E.hpar⟩) (fn:=fn) hT' hlen hp hpre hn;have fin:∀(σ':St) (a':Act) (w':World) (own':Own),qdt (qcI D.ps 0) { tmps:=as.toArray++Array.replicate (fn.ntmps-as.toArray.size) undef,defers:=[] } a'→qK { P,w0:=w,O:=fun b=>b∈g++i,G:=F,pn:=⟨qoD (qb1 D.ps 0) ib,E.hpar⟩,T:=E.tabs,hT:=hT',hs:=E.hs,gh0:=fun _ _=>none } σ' a'.tmps w' own'→qnP E fn D.ps D.rs σ'=some y→
   a'.defers=[]∧∃v,(results fn a'.tmps).run P w'=.ok v w'∧∃v',Ending.returned v=.returned v'∧D.Post w F as g i y v' w':=by
  intro σ' a' w' own' hk hs hfin;have hpin:qci (fun s=>a'.tmps.getD s undef) D.ps 0 as i:=hpin0.congr D.ps 0 fun s hs=>hk.2 s hs;obtain⟨vs,bs,js,h1,h2,h3,h4,h5,h6⟩:=qsW hE hpre hn rfl hs hpin hfin;exact⟨hk.1,qcG vs,h1,qcG vs,rfl,vs,bs,js,rfl,h2,h3,h4,h5,h6⟩
 haveI:Tabbed { E with pins:=qb1 D.ps 0,rf:=qeO anns.frz (some 1000000007),nzr:=D.rs.any (fun r=>match r with|.nz _=>true|_=>false) } { P,w0:=w,O:=fun b=>b∈g++i,G:=F,pn:=⟨qoD (qb1 D.ps 0) ib,E.hpar⟩,T:=E.tabs,hT:=hT',hs:=E.hs,gh0:=fun _ _=>none } :=⟨rfl,rfl,rfl⟩;refine calls_of_wp hf hb (qpu (E:= { E with pins:=qb1 D.ps 0,rf:=qeO anns.frz (some 1000000007),nzr:=D.rs.any (fun r=>match r with|.nz _=>true|_=>false) }) (C:= { P,w0:=w,O:=fun b=>b∈g++i,G:=F,pn:=⟨qoD (qb1 D.ps 0) ib,E.hpar⟩,T:=E.tabs,hT:=hT',hs:=E.hs,gh0:=fun _ _=>none }) (pin:=qcI D.ps 0) (hE.pinned _ _ _) ⟨fun f C h=>hF f C h,fun k hk=>p2 k hk,fun k b h=>qcv D.ps 0 k (p1 k b h).2,fun f C h=>hH f C h⟩ c c1 he (fun k b h=>(p1 k b h).1) hst ⟨fun σ' a' w' own' hfr hk hs hfin=>fin σ' a' w' own' hk hs hfin,fun i σ' a' w' own' hfr hk hs hfin=>(by cases hfin),fun σ' a' w' own' hfr hk hs hfin=>fin σ' a' w' own' hk hs hfin⟩)
theorem keeps {P:Program}{E:Env}(hE:qad E P) (hF:qdr E P) (hH:qfN E P) {N:Nat}{anns:qog}{f:Nat}{fn:Func}(hf:P.funcs[f]? =some fn) (hb:fn.body.isSome=true) (hname:(fn.name== "runtime.NumGoroutine")=false) {ps:List PM}{rs:List RM}{sem:PMs.den ps→Option (RMs.den rs×PMs.ioDen ps)}
  (hrun:∀x,runF E N anns fn ps rs x=sem x):qH.okT P E.tabs f ⟨ps,rs,sem⟩:=by
 obtain⟨c,hc⟩:=zaE.1 hb;exact qu8 hE hF hH (N:=N) (anns:=anns) hf hc hname ⟨ps,rs,sem⟩ fun x y h=>(hrun x).trans h
end Go.Vi
namespace Go.Vi
noncomputable section
structure TI where
 t:Nat
 ty:Ty
 et:Nat
 fs:List (Nat×Nat)
 z:qcb
 bytes:Nat
 eq:Bool
def qir:List TI→Nat→Option TI
 |[],_=>none
 |x::r,t=>match decEq x.t t with
  |isTrue _=>some x
  |isFalse _=>qir r t
def qcb.zero:qcb→BC
 |.val t=>.val t t.dflt
 |.own et e=>.own et e []
 |.pair a b=>.pair a.zero b.zero
 |.hole n=>.hole n
def qll {α:Type}:List (Nat×α)→Nat→Option α
 |[],_=>none
 |(a,x)::r,k=>match decEq a k with
  |isTrue _=>some x
  |isFalse _=>qll r k
def Env.tab (T:List TI) (fns:List (Nat×qH)):Env where
 ty t:=(qir T t).map (·.ty)
 etid t:=((qir T t).map (·.et)).getD 0
 off t f:=(qir T t).bind fun x=>(x.fs[f]?).map (·.1)
 fty t f:=(((qir T t).bind fun x=>(x.fs[f]?).map (·.2))).getD 0
 zero t:=(qir T t).map (·.z.zero)
 bytes t:=((qir T t).map (·.bytes)).getD 0
 eqok t:=((qir T t).map (·.eq)).getD false
 fn:=qll fns
 pins:=[]
 ownz:=false
 tabs:=fun _=>none
 rf:=[]
def Env.take (L:List Nat) (E:Env):Env:= { E with tk:=L }
def Env.hp (E:Env) (ks:List (Nat×Nat×Ty)) (hs:Nat) (H:List (Nat×Ty)) (ob:List (Nat×Nat)) (xs:List Nat) (fns:List (Nat×qaX)):Env:=
 { E with hon:=true,hks:=ks,hs:=hs,hty:=qll H,hob:=qll ob,hxs:=xs,hfn:=qll fns }
def Env.withLs (E:Env) (l:Nat×Nat×Nat):Env:= { E with hlst:=some l }
end
end Go.Vi
namespace Go.Vi
def Ty.zeroOk:Ty→List Value→Bool
 |.int k,cs=>match cs with
  |[.int k' n]=>decide (k'=k)&&decide (n=0)
  |_=>false
 |.bool,cs=>match cs with
  |[.bool b]=> !b
  |_=>false
 |.str,cs=>match cs with
  |[.string s]=>s.data.toList.isEmpty
  |_=>false
 |.unit,cs=>cs.isEmpty
 |.err,cs=>match cs with
  |[.nilIface]=>true
  |_=>false
 |.opt _,cs=>match cs with
  |[.pointer none]=>true
  |_=>false
 |.map _ _,_=>false
 |.ptr _ _,_=>false
 |.sl _ _,_=>false
 |.pair a b,cs=>a.zeroOk (cs.take a.size)&&b.zeroOk (cs.drop a.size)
 |.slice _,cs=>match cs with
  |[.slice none 0 0]=>true
  |_=>false
 |.arr n e,cs=>decide (cs.length=n*e.size)&&(List.range n).all fun i=>e.zeroOk ((cs.drop (i*e.size)).take e.size)
def qcb.zeroOk:qcb→List Value→Bool
 |.val t,cs=>t.zeroOk cs
 |.own _ _,cs=>match cs with
  |[.slice none 0 0]=>true
  |_=>false
 |.pair a b,cs=>a.zeroOk (cs.take a.zero.size)&&b.zeroOk (cs.drop a.zero.size)
 |.hole n,cs=>decide (cs.length=n)
def qpT (P:Program):List Field→Ty→Nat→Bool
 |[],.unit,_=>true
 |f::fs,.pair a b,off=>decide (f.offset=off)&&(match P.info? f.type with
  |some i=>decide (i.size=a.size)
  |none=>false)&&qpT P fs b (off+a.size)
 |_,_,_=>false
def fsOk (P:Program):List Field→List (Nat×Nat)→Bool
 |_,[]=>true
 |f::fs,(off,ft)::r=>decide (f.offset=off)&&decide (f.type=ft)&&(match P.info? ft with
  |some i=>decide (i.size≠0)
  |none=>false)&&fsOk P fs r
 |[],_::_=>false
def qqz (P:Program) (T:List TI) (et:Nat) (e:Ty):Bool:=
 match P.info? et with
 |some i=>decide (i.size=e.size)&&(match i.zero with
  |some z=>e.zeroOk z.cells.toList&&decide (z.cells.size=e.size)&&(match z with
   |.agg _=>e.agg
   |_=>true)
  |none=>false)&&decide (i.bytes=((qir T et).map (·.bytes)).getD 0)
 |none=>false
def qez (P:Program) (T:List TI) (x:TI) (d:TypeDesc):Ty→Bool
 |.ptr _ _=>false
 |.sl _ _=>false
 |.int k=>match d with
  |.int k'=>decide (k'=k)
  |_=>false
 |.bool=>match d with
  |.bool=>true
  |_=>false
 |.str=>match d with
  |.string=>true
  |_=>false
 |.slice e=>match d with
  |.slice et=>decide (et=x.et)&&qqz P T et e
  |_=>false
 |.arr n e=>match d with
  |.array m et=>decide (m=n)&&decide (et=x.et)&&(match P.info? et with
   |some i=>decide (i.size=e.size)
   |none=>false)
  |_=>false
 |.err=>match d with
  |.interface _=>true
  |_=>false
 |.opt _=>match d with
  |.pointer _=>true
  |_=>false
 |.map k v=>match d with
  |.map kn vn=>decide (vn=x.et)&&(match P.underlying kn with
   |some kd=>qi3 k kd
   |none=>false)&&(match P.info? vn with
   |some i=>(match i.zero with
    |some z=>v.zeroOk z.cells.toList&&(match z with
     |.agg _=>v.agg
     |_=> !v.agg)
    |none=>false)
   |none=>false)
  |_=>false
 |.unit=>match d with
  |.struct fs=>qpT P fs.toList .unit 0&&fsOk P fs.toList x.fs
  |_=>false
 |.pair a b=>match d with
  |.struct fs=>qpT P fs.toList (.pair a b) 0&&fsOk P fs.toList x.fs
  |_=>false
def tiOk (P:Program) (T:List TI) (x:TI):Bool:=
 match P.info? x.t,P.underlying x.t with
 |some i,some d=>decide (i.size=x.ty.size)&&(match i.zero with
  |some z=>(if x.ty.struct then x.ty.zeroOk z.cells.toList else true)&&x.z.zeroOk z.cells.toList
  |none=>false)&&qez P T x d x.ty&&(match d with
  |.struct _=>true
  |_=>x.fs.isEmpty)&&(!x.eq||qvf P x.ty x.t)
 |_,_=>false
def qve (P:Program) (T:List TI):Bool:=P.follows .mixedOrders&&T.all (tiOk P T)
theorem qmB: {T:List TI}→{t:Nat}→{x:TI}→qir T t=some x→x∈T∧x.t=t
 |y::r,t,x,h=>by
  simp only[qir]at h;split at h
  ·injection h with h;subst h;exact⟨zar,by assumption⟩
  ·obtain⟨h1,h2⟩:=qmB h;exact⟨zaj _ h1,h2⟩
theorem Ty.zeroOk_rep {w:World}{F:Nat→Prop}:(t:Ty)→{cs:List Value}→t.zeroOk cs=true→Rep w F t t.dflt cs
 |.int k,cs,h=>by
  simp only[Ty.zeroOk]at h;split at h
  ·simp only[zad,decide_eq_true_eq]at h;obtain⟨rfl,rfl⟩:=h;refine⟨rfl,?_⟩;rename_i k;cases k<;>exact⟨by decide,by decide⟩
  ·cases h
 |.bool,cs,h=>by
  simp only[Ty.zeroOk]at h;split at h
  ·simp at h;subst h;rfl
  ·cases h
 |.err,cs,h=>by
  simp only[Ty.zeroOk]at h;split at h
  ·exact⟨_,rfl,.inl ⟨rfl,rfl⟩⟩
  ·cases h
 |.opt _,cs,h=>by
  simp only[Ty.zeroOk]at h;split at h
  ·exact⟨_,rfl,.inl ⟨rfl,rfl⟩⟩
  ·cases h
 |.map _ _,cs,h=>by cases h
 |.ptr _ _,cs,h=>by cases h
 |.sl _ _,cs,h=>by cases h
 |.str,cs,h=>by
  simp only[Ty.zeroOk]at h;split at h
  ·rename_i s;refine⟨?_,by simp[Ty.dflt]⟩;have h1:s.data.toList=[]:=by simpa using h
   have h2:s.data= #[]:=by
    apply Array.toList_inj.1;rw[h1]
   cases s;simp only at h2;subst h2;rfl
  ·cases h
 |.unit,cs,h=>by
  have:cs=[]:=by simpa[Ty.zeroOk]using h
  exact this
 |.pair a b,cs,h=>by
  simp only[Ty.zeroOk,zad]at h;exact⟨_,_,(zay a.size cs).symm,a.zeroOk_rep h.1,b.zeroOk_rep h.2⟩
 |.slice e,cs,h=>by
  simp only[Ty.zeroOk]at h;split at h
  ·exact⟨_,rfl,.inl ⟨rfl,rfl⟩⟩
  ·cases h
 |.arr n e,cs,h=>by
  simp only[Ty.zeroOk,zad,decide_eq_true_eq,List.all_eq_true,List.mem_range]at h;obtain⟨h1,h2⟩:=h;refine⟨by simp[Ty.dflt],(List.range n).map (fun i=>(cs.drop (i*e.size)).take e.size),by simp,?_,fun i x c hi hc=>?_⟩
  ·clear h2;induction n generalizing cs with
   |zero=>simp at h1;subst h1;rfl
   |succ n ih=>
    have:=ih (cs:=cs.drop e.size) (by rw[zal,h1,zaS];omega);rw[List.range_succ_eq_map,zaC,List.flatten_cons,List.map_map];rw[Nat.zero_mul,zaN];have e2:((fun i=>List.take e.size (List.drop (i*e.size) cs)) ∘ Nat.succ)=fun i=>List.take e.size (List.drop (i*e.size) (cs.drop e.size)):=by
     funext i;simp only[Function.comp,List.drop_drop];rw[Nat.succ_mul,Nat.add_comm]
    rw[e2,←this,zay]
  ·have hx:x=e.dflt:=by
    simp only[Ty.dflt]at hi;rw[List.getElem?_replicate]at hi;split at hi
    ·injection hi with hi;exact hi.symm
    ·cases hi
   rw[List.getElem?_map]at hc;by_cases hin:i<n
   ·rw[List.getElem?_range hin]at hc;simp only[Option.map_some,Option.some.injEq]at hc;rw[hx,←hc];exact e.zeroOk_rep (h2 i hin)
   ·rw[List.getElem?_eq_none (by simpa using hin)]at hc;cases hc
theorem qcb.zeroOk_rep {w:World}{F:Nat→Prop}:(b:qcb)→{cs:List Value}→b.zeroOk cs=true→qaz w F b.zero cs []
 |.val t,cs,h=>⟨rfl,t.zeroOk_rep h⟩
 |.own et e,cs,h=>by
  simp only[qcb.zeroOk]at h;split at h
  ·exact⟨_,rfl,[],World.ownsRow_nil _ _ _ _,rfl,fun i x hi=>by simp at hi⟩
  ·cases h
 |.pair a b,cs,h=>by
  simp only[qcb.zeroOk,zad]at h;exact⟨_,_,[],[],(zay a.zero.size cs).symm,rfl,a.zeroOk_rep h.1,b.zeroOk_rep h.2⟩
 |.hole n,cs,h=>⟨rfl,by simpa[qcb.zeroOk]using h⟩
theorem qcS {P:Program}{w:World}{t:Nat}{i:TypeInfo}(h:P.info? t=some i):(sizeOf t).run P w=.ok i.size w:=by
 simp[sizeOf,typeInfo,h]
theorem qie {P:Program}: {fs:List Field}→{T:Ty}→{off:Nat}→qpT P fs T off=true→Lay P fs T off
 |[],.unit,_,_=>trivial
 |f::fs,.pair a b,off,h=>by
  simp only[qpT,zad,decide_eq_true_eq]at h;obtain⟨⟨h1,h2⟩,h3⟩:=h;split at h2
  ·rename_i i hi;simp only[decide_eq_true_eq]at h2;exact⟨h1,fun w=>by rw[qcS hi,h2],qie h3⟩
  ·cases h2
theorem qs2 {P:Program}: {fs:List Field}→{l:List (Nat×Nat)}→{f:Nat}→{q:Nat×Nat}→fsOk P fs l=true→l[f]? =some q→∃fl,fs[f]? =some fl∧fl.offset=q.1∧fl.type=q.2∧∃i,P.info? fl.type=some i∧i.size≠0
 |fl::fs,(off,ft)::r,f,q,h,hq=>by
  simp only[fsOk,zad,decide_eq_true_eq]at h;obtain⟨⟨⟨h1,h2⟩,h3⟩,h4⟩:=h;cases f with
  |zero=>
   simp at hq;subst hq;refine⟨fl,rfl,h1,h2,?_⟩;subst h2;split at h3
   ·rename_i i hi;exact⟨i,hi,of_decide_eq_true h3⟩
   ·cases h3
  |succ f=>
   simp only[List.getElem?_cons_succ]at hq⊢
   exact qs2 h4 hq
 |_,[],f,q,_,hq=>by simp at hq
 |[],_::_,_,_,h,_=>by cases h
theorem qiD {P:Program}{T:List TI}(h:qve P T=true) (fns:List (Nat×qH)):qad (Env.tab T fns) P:=by
 simp only[qve,zad]at h;have one:∀ {t:Nat}{x:TI},qir T t=some x→x.t=t∧∃i d z,P.info? t=some i∧P.underlying t=some d∧i.zero=some z∧i.size=x.ty.size∧(x.ty.struct=true→x.ty.zeroOk z.cells.toList=true)∧x.z.zeroOk z.cells.toList=true∧qez P T x d x.ty=true∧((∃fs,d=.struct fs)∨x.fs=[])∧(x.eq=true→EqB P t x.ty):=by
  intro t x hx;obtain⟨h1,h2⟩:=qmB hx;have:=List.all_eq_true.1 h.2 x h1;unfold tiOk at this;split at this
  ·rename_i i d hi hd;simp only[zad,decide_eq_true_eq]at this;obtain⟨⟨⟨⟨g1,g2⟩,g3⟩,g4⟩,g5⟩:=this;split at g2
   ·rename_i z hz;simp only[zad]at g2;refine⟨h2,i,d,z,h2▸hi,h2▸hd,hz,g1,fun hs=>?_,g2.2,g3,?_⟩
    ·have:=g2.1;rw[if_pos hs]at this;exact this
    ·refine⟨?_,fun he=>?_⟩
     ·split at g4
      ·exact .inl ⟨_,rfl⟩
      ·exact .inr (by simpa using g4)
     ·rw[he]at g5;exact h2▸qt1 g5
   ·cases g2
  ·cases this
 have ent:∀ {t:Nat}{u:Ty},(Env.tab T fns).ty t=some u→∃x,qir T t=some x∧x.ty=u:=by
  intro t u hu;simp only[Env.tab,zao]at hu;exact hu
 have etid:∀ {t:Nat}{x:TI},qir T t=some x→(Env.tab T fns).etid t=x.et:=by
  intro t x hx;simp[Env.tab,hx]
 refine⟨⟨fun t u h=>(by cases h),fun t k sz h=>(by cases h),fun t u h=>(by cases h),fun t k sz h=>(by cases h),fun t k sz h=>(by cases h),fun t u h=>(by cases h)⟩,?_,?_,?_,?_,?_,?_,?_,?_,?_,?_,?_,?_,?_,?_,?_,h.1,fun _ _ _ h=>by cases h⟩
 ·intro t u hu;obtain⟨x,hx,rfl⟩:=ent hu;obtain⟨_,i,d,z,h1,h2,h3,h4,h5,h6,h7,h8,h9⟩:=one hx;refine⟨⟨i,h1,h4⟩,d,h2,?_⟩;cases hty:x.ty<;>rw[hty]at h7<;>simp only[qez]at h7<;>first|(cases h7;done)|(split at h7<;>first|rfl|cases h7)
 ·intro t e hu;obtain⟨x,hx,hty⟩:=ent hu;obtain⟨_,i,d,z,h1,h2,h3,h4,h5,h6,h7,h8,h9⟩:=one hx;rw[hty]at h7;simp only[qez]at h7;split at h7
  ·rename_i et;simp only[zad,decide_eq_true_eq]at h7;obtain⟨rfl,h7⟩:=h7;unfold qqz at h7;split at h7
   ·rename_i ie hie;simp only[zad,decide_eq_true_eq]at h7;obtain⟨⟨k1,k2⟩,k3⟩:=h7;split at k2
    ·rename_i ze hze;simp only[zad,decide_eq_true_eq]at k2;refine⟨by rw[etid hx];exact h2,⟨ie,ze,by rw[etid hx];exact hie,k1,hze,k2.1.2,?_⟩,fun k hk=>by rw[h2]at hk;cases hk⟩;rw[etid hx];exact k3
    ·cases k2
   ·cases h7
  ·cases h7
 ·intro t e hu;obtain⟨x,hx,hty⟩:=ent hu;obtain⟨_,i,d,z,h1,h2,h3,h4,h5,h6,h7,h8,h9⟩:=one hx;rw[hty]at h7;simp only[qez]at h7;split at h7
  ·rename_i et;simp only[zad,decide_eq_true_eq]at h7;obtain⟨rfl,h7⟩:=h7;unfold qqz at h7;split at h7
   ·rename_i ie hie;simp only[zad,decide_eq_true_eq]at h7;obtain⟨⟨k1,k2⟩,k3⟩:=h7;split at k2
    ·rename_i ze hze;simp only[zad,decide_eq_true_eq]at k2;refine⟨ie,ze,by rw[etid hx];exact hie,hze,fun ha cs hcs=>?_,fun w F=>e.zeroOk_rep k2.1.1⟩;have:=k2.2;rw[hcs]at this;simp only at this;rw[ha]at this;cases this
    ·cases k2
   ·cases h7
  ·cases h7
 ·intro t e hu;rcases hu with hu|⟨n,hu⟩
  ·obtain⟨x,hx,hty⟩:=ent hu;obtain⟨_,i,d,z,h1,h2,h3,h4,h5,h6,h7,h8,h9⟩:=one hx;rw[hty]at h7;simp only[qez]at h7;split at h7
   ·rename_i et;simp only[zad,decide_eq_true_eq]at h7;obtain⟨rfl,h7⟩:=h7;unfold qqz at h7;split at h7
    ·rename_i ie hie;simp only[zad,decide_eq_true_eq]at h7;funext w;rw[etid hx,qcS hie,h7.1.1]
    ·cases h7
   ·cases h7
  ·obtain⟨x,hx,hty⟩:=ent hu;obtain⟨_,i,d,z,h1,h2,h3,h4,h5,h6,h7,h8,h9⟩:=one hx;rw[hty]at h7;simp only[qez]at h7;split at h7
   ·rename_i m et;simp only[zad,decide_eq_true_eq]at h7;obtain⟨⟨rfl,rfl⟩,h7⟩:=h7;split at h7
    ·rename_i ie hie;simp only[decide_eq_true_eq]at h7;funext w;rw[etid hx,qcS hie,h7]
    ·cases h7
   ·cases h7
 ·intro t n e hu;obtain⟨x,hx,hty⟩:=ent hu;obtain⟨_,i,d,z,h1,h2,h3,h4,h5,h6,h7,h8,h9⟩:=one hx;rw[hty]at h7;simp only[qez]at h7;split at h7
  ·rename_i m et;simp only[zad,decide_eq_true_eq]at h7;obtain⟨⟨rfl,rfl⟩,h7⟩:=h7;rw[etid hx];exact h2
  ·cases h7
 ·intro t u hu hs;obtain⟨x,hx,hty⟩:=ent hu;obtain⟨_,i,d,z,h1,h2,h3,h4,h5,h6,h7,h8,h9⟩:=one hx;rw[hty]at h7 h5;have h5:=h5 hs;cases u<;>simp only[Ty.struct]at hs<;>first|cases hs|skip
  all_goals
   simp only[qez]at h7
   split at h7
   ·rename_i fs
    simp only[zad]at h7
    exact⟨fs,z,i,h2,h1,h3,fun w F=>Ty.zeroOk_rep _ h5,qie h7.1⟩
   ·cases h7
 ·intro t hu;obtain⟨x,hx,hty⟩:=ent hu;obtain⟨_,i,d,z,h1,h2,h3,h4,h5,h6,h7,h8,h9⟩:=one hx;rw[hty]at h7;simp only[qez]at h7;split at h7
  ·exact h2
  ·cases h7
 ·intro t k hu;obtain⟨x,hx,hty⟩:=ent hu;obtain⟨_,i,d,z,h1,h2,h3,h4,h5,h6,h7,h8,h9⟩:=one hx;rw[hty]at h7;simp only[qez]at h7;split at h7
  ·simp only[decide_eq_true_eq]at h7;subst h7;exact h2
  ·cases h7
 ·intro t hu;obtain⟨x,hx,hty⟩:=ent hu;obtain⟨_,i,d,z,h1,h2,h3,h4,h5,h6,h7,h8,h9⟩:=one hx;rw[hty]at h7;simp only[qez]at h7;split at h7
  ·exact h2
  ·cases h7
 ·intro t hu;obtain⟨x,hx,hty⟩:=ent hu;obtain⟨_,i,d,z,h1,h2,h3,h4,h5,h6,h7,h8,h9⟩:=one hx;rw[hty]at h7;simp only[qez]at h7;split at h7
  ·exact⟨_,h2⟩
  ·cases h7
 ·intro t e hu;obtain⟨x,hx,hty⟩:=ent hu;obtain⟨_,i,d,z,h1,h2,h3,h4,h5,h6,h7,h8,h9⟩:=one hx;rw[hty]at h7;simp only[qez]at h7;split at h7
  ·exact⟨_,h2⟩
  ·cases h7
 ·intro t k v hu;obtain⟨x,hx,hty⟩:=ent hu;obtain⟨_,i,d,z,h1,h2,h3,h4,h5,h6,h7,h8,h9⟩:=one hx;rw[hty]at h7;simp only[qez]at h7;split at h7
  ·rename_i kn vn;simp only[zad]at h7;obtain⟨⟨k1,k2⟩,k3⟩:=h7;split at k2;case h_2=>cases k2
   rename_i kd hkd;split at k3;case h_2=>cases k3
   rename_i iv hiv;split at k3;case h_2=>cases k3
   rename_i zv hzv;simp only[zad]at k3;refine⟨kn,vn,kd,iv,zv,h2,hkd,k2,hiv,hzv,fun w F=>⟨v.zeroOk_rep k3.1,fun ha=>?_,fun ha cs he=>?_⟩⟩
   ·have k4:=k3.2;split at k4
    ·exact⟨_,rfl⟩
    ·rw[ha]at k4;cases k4
   ·have k4:=k3.2;rw[he]at k4;simp only at k4;rw[ha]at k4;cases k4
  ·cases h7
 ·intro t f n ho;simp only[Env.tab,Option.bind_eq_some_iff,zao]at ho;obtain⟨x,hx,q,hq,rfl⟩:=ho;obtain⟨_,i,d,z,h1,h2,h3,h4,h5,h6,h7,h8,h9⟩:=one hx;rcases h8 with⟨fs,rfl⟩|h8
  ·have hfs:fsOk P fs.toList x.fs=true:=by
    cases hty:x.ty<;>rw[hty]at h7<;>simp only[qez]at h7<;>first|(simp only[zad]at h7;exact h7.2)|cases h7
   obtain⟨fl,g1,g2,g3,g4⟩:=qs2 hfs hq;refine⟨fs,fl,h2,by simpa using g1,g2,?_,g4⟩;simp[Env.tab,hx,hq,g3]
  ·rw[h8]at hq;simp at hq
 ·intro t c hc;simp only[Env.tab,zao]at hc;obtain⟨x,hx,rfl⟩:=hc;obtain⟨_,i,d,z,h1,h2,h3,h4,h5,h6,h7,h8,h9⟩:=one hx;exact⟨i,z,h1,h3,fun w F=>x.z.zeroOk_rep h6⟩
 ·intro t u he hu;obtain⟨x,hx,rfl⟩:=ent hu;obtain⟨_,i,d,z,h1,h2,h3,h4,h5,h6,h7,h8,h9⟩:=one hx;exact h9 (by simpa[Env.tab,hx]using he)
theorem qso {P:Program}{T:List TI}:qdr (Env.tab T []) P:=fun f C h=>by cases h
theorem qrv {P:Program}{T:List TI}{fns:List (Nat×qH)}{f:Nat}{C:qH}(h:C.ok P f) (hF:qdr (Env.tab T fns) P):qdr (Env.tab T ((f,C)::fns)) P:=fun f' C' h'=>by
 simp only[Env.tab,qll]at h';split at h'
 ·rename_i e _;injection h' with h';subst h';subst e;exact h
 ·exact hF f' C' h'
def qrM:TypeDesc→Bool
 |.struct _=>false
 |.array _ _=>false
 |_=>true
def quZ (P:Program) (a b c:Nat):Bool:=match P.info? a,P.underlying a,P.info? b,P.underlying b,P.info? c,P.underlying c with
 |some ia,some (.struct fs),some ib,some db,some ic,some dc=>(((ia.size==2&&ib.size==1)&&(ic.size==1&&qrM db))&&qrM dc)&&(match fs[0]?,fs[1]? with
  |some f0,some f1=>(f0.offset==0&&f1.offset==1)&&(match P.info? f0.type,P.info? f1.type with
   |some i0,some i1=>i0.size !=0&&i1.size !=0
   |_,_=>false)
  |_,_=>false)
 |_,_,_,_,_,_=>false
theorem qtl {P:Program}{a b c:Nat}(h:quZ P a b c=true):LsTy P a b c:=by
 unfold quZ at h;split at h;case h_2=>cases h
 rename_i ia fs ib db ic dc h1 h2 h3 h4 h5 h6;simp only[zad,beq_iff_eq]at h;obtain⟨⟨⟨⟨g1,g2⟩,g3,g4⟩,g5⟩,h⟩:=h;split at h;case h_2=>cases h
 rename_i f0 f1 h7 h8;simp only[zad,beq_iff_eq]at h;obtain⟨⟨g6,g7⟩,h⟩:=h;split at h;case h_2=>cases h
 rename_i i0 i1 h9 h10;simp only[zad,bne_iff_ne]at h;have na:∀d:TypeDesc,qrM d=true→(match d with|.struct _=>true|.array _ _=>true|_=>false)=false:=fun d hd=>by
  cases d<;>first|rfl|(cases hd)
 exact⟨⟨⟨ia,h1,by rw[g1];rfl⟩,_,h2,rfl⟩,⟨⟨ib,h3,by rw[g2];rfl⟩,_,h4,na db g4⟩,⟨⟨ic,h5,by rw[g3];rfl⟩,_,h6,na dc g5⟩,fs,f0,f1,i0,i1,h2,h7,h8,g6,g7,h9,h.1,h10,h.2⟩
theorem qad.withLs {E:Env}{P:Program}(h:qad E P) {a b c:Nat}(hl:quZ P a b c=true):qad (E.withLs (a,b,c)) P:=
 ⟨⟨h.heap.ty,h.heap.sl,h.heap.zero,h.heap.ptr,h.heap.elem,h.heap.struct⟩,h.ty,fun t e he=>⟨(h.elem t e he).under,(h.elem t e he).info,(h.elem t e he).notInt⟩,h.dflt,h.size,h.arr,h.struct,h.str,h.int,h.bool,h.err,h.opt,h.map,h.off,h.zero,h.eq,h.mixed,fun t0 t1 t2 he=>by
  have he:some (a,b,c)=some (t0,t1,t2):=he;injection he with he;injection he with e1 he;injection he with e2 e3;subst e1;subst e2;subst e3;exact qtl hl⟩
theorem qad.take {P:Program}{E:Env}(h:qad E P) (L:List Nat):qad (E.take L) P:=
 ⟨⟨h.heap.ty,h.heap.sl,h.heap.zero,h.heap.ptr,h.heap.elem,h.heap.struct⟩,h.ty,fun t e he=>⟨(h.elem t e he).under,(h.elem t e he).info,(h.elem t e he).notInt⟩,h.dflt,h.size,h.arr,h.struct,h.str,h.int,h.bool,h.err,h.opt,h.map,h.off,h.zero,h.eq,h.mixed,h.lst⟩
end Go.Vi
namespace Go.Vi
open Go.RowKit Go.WideShapes Go.ChangeShapes
def qnF (P:Program) (a:Nat→Bool) (sa:Nat) (b:List Field→Nat→Bool):List Field→Nat→Bool
 |f::r,off=>decide (f.offset=off)&&(decide (P.cellsOf f.type=sa)&&(a f.type&&b r (off+sa)))
 |[],_=>false
def qiT (P:Program):Ty→(Nat→Bool)×(List Field→Nat→Bool)
 |.int k=>(fun t=>match P.underlying t with
  |some (.int k')=>decide (k'=k)
  |_=>false,fun _ _=>false)
 |.bool=>(fun t=>match P.underlying t with
  |some .bool=>true
  |_=>false,fun _ _=>false)
 |.str=>(fun t=>match P.underlying t with
  |some .string=>true
  |_=>false,fun _ _=>false)
 |.err=>(fun _=>false,fun _ _=>false)
 |.opt _=>(fun _=>false,fun _ _=>false)
 |.map _ _=>(fun _=>false,fun _ _=>false)
 |.ptr _ _=>(fun _=>false,fun _ _=>false)
 |.sl _ _=>(fun _=>false,fun _ _=>false)
 |.unit=>(fun t=>match P.underlying t with
  |some (.struct fs)=>fs.toList.isEmpty&&decide (P.cellsOf t=0)
  |_=>false,fun fs _=>fs.isEmpty)
 |.pair a b=>(fun t=>match P.underlying t with
  |some (.struct fs)=>qnF P (qiT P a).1 a.size (qiT P b).2 fs.toList 0&&decide (P.cellsOf t=a.size+b.size)
  |_=>false,qnF P (qiT P a).1 a.size (qiT P b).2)
 |.slice e=>(fun t=>match P.underlying t with
  |some (.slice et)=>decide (P.cellsOf et=e.size)&&(decide (e.size≠0)&&(qiT P e).1 et)
  |_=>false,fun _ _=>false)
 |.arr n e=>(fun t=>match P.underlying t with
  |some (.array m et)=>decide (m=n)&&(decide (P.cellsOf et=e.size)&&(decide (P.cellsOf t=n*e.size)&&(qiT P e).1 et))
  |_=>false,fun _ _=>false)
def Ty.bulk:(t:Ty)→t.den→Nat
 |.int _,_=>1
 |.bool,_=>1
 |.str,s=>List.length (α:=UInt8) s+1
 |.unit,_=>1
 |.err,_=>1
 |.opt _,_=>1
 |.map _ _,_=>1
 |.ptr _ _,_=>1
 |.sl _ _,_=>1
 |.pair a b,x=>a.bulk x.1+b.bulk x.2
 |.slice e,xs=>(List.map e.bulk xs).sum+1
 |.arr _ e,xs=>(List.map e.bulk xs).sum+1
def Ty.good:(t:Ty)→t.den→Prop
 |.int k,n=>k.has n
 |.bool,_=>True
 |.str,s=>List.length (α:=UInt8) s≤maxLen
 |.unit,_=>True
 |.err,_=>True
 |.opt e,x=>match x with
  |some y=>e.good y
  |none=>True
 |.map _ _,_=>True
 |.ptr _ _,_=>True
 |.sl _ _,_=>True
 |.pair a b,x=>a.good x.1∧b.good x.2
 |.slice e,xs=>List.length (xs:List e.den)≤maxLen∧∀y∈(xs:List e.den),e.good y
 |.arr _ e,xs=>∀y∈(xs:List e.den),e.good y
theorem Rep.good {w:World}{F:Nat→Prop}: {t:Ty}→{x:t.den}→{cs:List Value}→Rep w F t x cs→t.good x
 |.int _,_,_,h=>h.2
 |.bool,_,_,_=>trivial
 |.str,_,_,h=>h.2
 |.unit,_,_,_=>trivial
 |.err,_,_,_=>trivial
 |.map _ _,_,_,_=>trivial
 |.ptr _ _,_,_,_=>trivial
 |.sl _ _,_,_,_=>trivial
 |.opt e,x,_,⟨v,_,h⟩=>by
  rcases h with⟨rfl,_⟩|⟨y,a,cs,rfl,_,_,_,_,h⟩
  ·trivial
  ·exact h.good
 |.pair _ _,_,_,⟨_,_,_,h1,h2⟩=>⟨h1.good,h2.good⟩
 |.slice e,xs,_,⟨v,_,h⟩=>by
  refine⟨?_,?_⟩
  ·rcases h with⟨_,h⟩|⟨a,cap,_,h1,h2,_⟩
   ·have h:xs=[]:=h;subst h;exact zaD _
   ·exact Nat.le_trans h1 h2
  intro y hy;rcases h with⟨_,h⟩|⟨a,cap,_,_,_,hx⟩
  ·have h:xs=[]:=h;subst h;cases hy
  ·obtain⟨i,hi,rfl⟩:=List.getElem_of_mem hy;obtain⟨_,_,cs,_,h4⟩:=hx i _ (zac hi);exact h4.good
 |.arr n e,xs,_,⟨hl,css,hcl,hc,hx⟩=>by
  intro y hy;obtain⟨i,hi,rfl⟩:=List.getElem_of_mem hy;exact(hx i _ _ (zac hi) (zac (by have hi:i<List.length xs:=hi;omega))).good
def qnH:(us:List Ty)→PMs.den (us.map .val)→Prop
 |[],_=>True
 |u::us,x=>u.good x.1∧qnH us x.2
theorem qac.good {P:Program}{w:World}{F:Nat→Prop}:(us:List Ty)→{x:PMs.den (us.map .val)}→{vs:List Value}→{g i:List Nat}→qac P w F (us.map .val) x vs g i→qnH us x
 |[],_,_,_,_,_=>trivial
 |_::us,_,_,_,_,⟨_,_,_,h2,h3⟩=>⟨h2.1.good,qac.good us h3⟩
structure qq3 {H:Type}(bk:DataW H→Nat) (bkA:List (DataW H)→Nat):Prop where
 int:∀k n,1≤bk (.lit (.int k n))
 bool:∀b,1≤bk (.lit (.bool b))
 str:∀s,s.length+1≤bk (.lit (.string s))
 nil:1≤bk .nil
 slice:∀es sp,bkA es+1≤bk (.slice es sp)
 agg:∀ps,bkA ps+1≤bk (.agg ps)
 cons:∀d r,bk d+bkA r≤bkA (d::r)
section
variable {H:Type}{enc:TypeId×Value→H}{P:Program}{w:World}{bk:DataW H→Nat}{bkA:List (DataW H)→Nat}
theorem qnG {a:Addr}{n:Nat}{cs:List Value}(h:w.cells? 0 a n=some cs):cs.length=n∧qem w a cs∧(n≠0→a.block<w.heap.size):=by
 obtain⟨_,h1,h2⟩:=World.cells?_some h;refine⟨h1,fun j u hj=>?_,fun hn=>?_⟩
 ·have hlt:j<n:=by
   have:=(zaK.1 hj).1;omega
  rw[h2 j hlt];exact hj
 ·have h0:=h2 0 (by omega);have:∃v,cs[0]? =some v:=⟨_,zac (by omega)⟩;obtain⟨v,hv⟩:=this;rw[hv]at h0;have e:a.add 0=a:=by simp[Addr.add]
  rw[e]at h0;unfold World.cell? at h0;split at h0
  ·rename_i c t hh;exact(Array.getElem?_eq_some_iff.1 hh).1
  ·cases h0
theorem qnv {α β:Type}{R:Nat→α→β→Prop}:(n:Nat)→(ys:List β)→ys.length=n→(∀i y,ys[i]? =some y→∃x,R i x y)→∃xs:List α,xs.length=n∧∀(i:Nat) (x:α) (y:β),xs[i]? =some x→ys[i]? =some y→R i x y
 |0,ys,_,_=>⟨[],rfl,fun i x y h=>by simp at h⟩
 |n+1,[],h,_=>by simp at h
 |n+1,y::ys,h,hr=>by
  obtain⟨x,hx⟩:=hr 0 y rfl;obtain⟨xs,h1,h2⟩:=qnv (R:=fun i=>R (i+1)) n ys (by simpa using h) fun i y hy=>hr (i+1) y (by simpa using hy);refine⟨x::xs,by simp[h1],fun i x' y' hx' hy'=>?_⟩;cases i with
  |zero=>simp at hx' hy';subst hx';subst hy';exact hx
  |succ i=>exact h2 i x' y' (by simpa using hx') (by simpa using hy')
theorem qnx (hb:qq3 bk bkA) {e:Ty}:(xs:List e.den)→(ys:List (DataW H×List MemPlace))→xs.length=ys.length→(∀(i:Nat) (x:e.den) (y:DataW H×List MemPlace),xs[i]? =some x→ys[i]? =some y→e.bulk x≤bk y.1)→(List.map e.bulk xs).sum≤bkA (ys.map (·.1))
 |[],_,_,_=>by simp
 |x::xs,[],h,_=>by simp at h
 |x::xs,y::ys,h,hr=>by
  have h0:=hr 0 x y rfl rfl;have h1:=qnx hb xs ys (by simpa using h) fun i x y hx hy=>hr (i+1) x y (by simpa using hx) (by simpa using hy);have:=hb.cons y.1 (ys.map (·.1));simp only[zaC,List.sum_cons];omega
theorem qsS {t:Nat}(h:(qiT P .unit).1 t=true):∃fs,P.underlying t=some (.struct fs)∧fs.toList=[]∧P.cellsOf t=0:=by
 simp only[qiT]at h;split at h
 ·rename_i fs hu;simp only[zad,decide_eq_true_eq]at h;exact⟨fs,hu,by simpa using h.1,h.2⟩
 ·cases h
theorem qgy (hb:qq3 bk bkA):(u:Ty)→
  (∀(fuel t:Nat) (cs:List Value) (y:DataW H×List MemPlace),(qiT P u).1 t=true→DataW.trod enc P w 0 (fun _=>true) true fuel t cs=some y→∃x:u.den,Rep w (fun b=>b<w.heap.size) u x cs∧u.bulk x≤bk y.1)∧
  (∀(m:Nat) (fs:List Field) (off:Nat) (cs:List Value) (ys:List (DataW H×List MemPlace)),(qiT P u).2 fs off=true→ys.length=fs.length→(∀(i:Nat) (f:Field),fs[i]? =some f→DataW.trod enc P w 0 (fun _=>true) true m f.type ((cs.drop f.offset).take (P.cellsOf f.type))=ys[i]?)→cs.length=off+u.size→
   ∃x:u.den,Rep w (fun b=>b<w.heap.size) u x (cs.drop off)∧u.bulk x≤bkA (ys.map (·.1))+1)
 |.int k=>by
  refine⟨fun fuel t cs y hd h=>?_,fun m fs off cs ys hd=>by cases hd⟩;simp only[qiT]at hd;split at hd
  ·rename_i k' hu;simp only[decide_eq_true_eq]at hd;subst hd;obtain⟨n,rfl,rfl,hw⟩:=DataW.trod_int hu h;refine⟨n,⟨rfl,?_⟩,hb.int k' n⟩;simpa[Lit.wf,IntKind.has]using hw
  ·cases hd
 |.bool=>by
  refine⟨fun fuel t cs y hd h=>?_,fun m fs off cs ys hd=>by cases hd⟩;simp only[qiT]at hd;split at hd
  ·rename_i hu;obtain⟨b,rfl,rfl⟩:=DataW.trod_bool hu h;exact⟨b,rfl,hb.bool b⟩
  ·cases hd
 |.err=>⟨fun fuel t cs y hd h=>(by cases hd),fun m fs off cs ys hd=>by cases hd⟩
 |.opt _=>⟨fun fuel t cs y hd h=>(by cases hd),fun m fs off cs ys hd=>by cases hd⟩
 |.map _ _=>⟨fun fuel t cs y hd h=>(by cases hd),fun m fs off cs ys hd=>by cases hd⟩
 |.ptr _ _=>⟨fun fuel t cs y hd h=>(by cases hd),fun m fs off cs ys hd=>by cases hd⟩
 |.sl _ _=>⟨fun fuel t cs y hd h=>(by cases hd),fun m fs off cs ys hd=>by cases hd⟩
 |.str=>by
  refine⟨fun fuel t cs y hd h=>?_,fun m fs off cs ys hd=>by cases hd⟩;simp only[qiT]at hd;split at hd
  ·rename_i hu;obtain⟨s,rfl,rfl,hl⟩:=DataW.trod_string hu h;refine⟨s.data.toList,⟨by simp,?_⟩,hb.str _⟩;rw[zaG];exact hl
  ·cases hd
 |.unit=>by
  refine⟨fun fuel t cs y hd h=>?_,fun m fs off cs ys hd hl _ hcl=>?_⟩
  ·obtain⟨fs,hu,hf,hc⟩:=qsS hd;obtain⟨xs,n,rfl,rfl,hl,_⟩:=DataW.trod_struct hu h;have:cs=[]:=zaz (by omega);subst this;have:=hb.agg (xs.map (·.1));exact⟨(),rfl,by show 1≤_;simp only;omega⟩
  ·have:cs.drop off=[]:=zaI (by rw[hcl];exact zax _);exact⟨(),this,by show 1≤_;omega⟩
 |.pair a b=>by
  obtain⟨ha,_⟩:=qgy hb a;obtain⟨_,hb2⟩:=qgy hb b;have fld:∀(m:Nat) (fs:List Field) (off:Nat) (cs:List Value) (ys:List (DataW H×List MemPlace)),qnF P (qiT P a).1 a.size (qiT P b).2 fs off=true→ys.length=fs.length→(∀(i:Nat) (f:Field),fs[i]? =some f→DataW.trod enc P w 0 (fun _=>true) true m f.type ((cs.drop f.offset).take (P.cellsOf f.type))=ys[i]?)→cs.length=off+(a.size+b.size)→
   ∃x:(Ty.pair a b).den,Rep w (fun b=>b<w.heap.size) (.pair a b) x (cs.drop off)∧(Ty.pair a b).bulk x≤bkA (ys.map (·.1))+1:=by
   intro m fs off cs ys hd hl hi hcl;cases fs with
   |nil=>cases hd
   |cons f r=>
    simp only[qnF,zad,decide_eq_true_eq]at hd;obtain⟨h1,h2,h3,h4⟩:=hd;cases ys with
    |nil=>simp at hl
    |cons y ys=>
     have h0:=hi 0 f rfl;rw[h1,h2]at h0;obtain⟨xa,k1,k2⟩:=ha m f.type _ y h3 h0;obtain⟨xb,k3,k4⟩:=hb2 m r (off+a.size) cs ys h4 (by simpa using hl) (fun i f' hf'=>by have:=hi (i+1) f' (by simpa using hf');simpa using this) (by omega);refine⟨(xa,xb),⟨_,_,?_,k1,k3⟩,?_⟩
     ·rw[←List.drop_drop,zay]
     ·have:=hb.cons y.1 (ys.map (·.1));show a.bulk xa+b.bulk xb≤_;simp only[zaC];omega
  refine⟨fun fuel t cs y hd h=>?_,fld⟩;simp only[qiT]at hd;split at hd
  ·rename_i fs hu;simp only[zad,decide_eq_true_eq]at hd;obtain⟨xs,n,rfl,rfl,hl,hxl,hxi⟩:=DataW.trod_struct hu h;obtain⟨x,k1,k2⟩:=fld n fs.toList 0 cs xs hd.1 (by simpa using hxl) (fun i f hf=>hxi i f (by simpa using hf)) (by omega);have:=hb.agg (xs.map (·.1));exact⟨x,by simpa using k1,by simp only;omega⟩
  ·cases hd
 |.slice e=>by
  obtain⟨he,_⟩:=qgy hb e;refine⟨fun fuel t cs y hd h=>?_,fun m fs off cs ys hd=>by cases hd⟩;simp only[qiT]at hd;split at hd
  ·rename_i et hu;simp only[zad,decide_eq_true_eq]at hd;obtain⟨h1,h2,h3⟩:=hd;rcases DataW.trod_slice hu h with⟨rfl,rfl⟩|⟨a,len,cap,elems,rest,n,rfl,rfl,rfl,_,g1,g2,g3,g4,_⟩
   ·exact⟨[],⟨_,rfl,.inl ⟨rfl,rfl⟩⟩,by show 0+1≤_;exact hb.nil⟩
   ·obtain⟨xs,k1,k2⟩:=qnv (α:=e.den) (R:=fun i x y=>a.block<w.heap.size∧(∃cs,qem w (a.add (i*e.size)) cs∧Rep w (fun b=>b<w.heap.size) e x cs)∧e.bulk x≤bk y.1) len elems g3 (fun i y hy=>by
     have hlt:i<len:=by
      have:=(zaK.1 hy).1;omega
     have:=g4 i hlt;rw[hy,h1]at this;obtain⟨cs,hc1,hc2⟩:=Option.bind_eq_some_iff.1 this;obtain⟨q1,q2,q3⟩:=qnG hc1;obtain⟨x,r1,r2⟩:=he n et cs y h3 hc2;exact⟨x,by simpa[qam]using q3 h2,⟨cs,q2,r1⟩,r2⟩)
    have idx:∀(i:Nat) (x:e.den),xs[i]? =some x→∃y,elems[i]? =some y:=fun i x hx=>⟨_,zac (by have:=(zaK.1 hx).1;omega)⟩;refine⟨xs,⟨_,rfl,.inr ⟨a,cap,by rw[k1],by omega,g2,fun i x hx=>?_⟩⟩,?_⟩
    ·obtain⟨y,hy⟩:=idx i x hx;obtain⟨q1,q2,_⟩:=k2 i x y hx hy;exact⟨q1,q1,q2⟩
    ·have:=qnx hb xs elems (by omega) fun i x y hx hy=>(k2 i x y hx hy).2.2;have:=hb.slice (elems.map (·.1)) (rest.map (·.1));show(List.map e.bulk xs).sum+1≤_;simp only;omega
  ·cases hd
 |.arr n e=>by
  obtain⟨he,_⟩:=qgy hb e;refine⟨fun fuel t cs y hd h=>?_,fun m fs off cs ys hd=>by cases hd⟩;simp only[qiT]at hd;split at hd
  ·rename_i m et hu;simp only[zad,decide_eq_true_eq]at hd;obtain⟨rfl,h1,h2,h3⟩:=hd;obtain⟨ys,k,rfl,rfl,g1,g2,g3⟩:=DataW.trod_array hu h;obtain⟨xs,k1,k2⟩:=qnv (α:=e.den) (R:=fun i x y=>Rep w (fun b=>b<w.heap.size) e x ((cs.drop (i*e.size)).take e.size)∧e.bulk x≤bk y.1) m ys g2 (fun i y hy=>by
    have hlt:i<m:=by
     have:=(zaK.1 hy).1;omega
    have:=g3 i hlt;rw[hy,h1]at this;exact he k et _ y h3 this)
   refine⟨xs,⟨k1,(List.range m).map (fun i=>(cs.drop (i*e.size)).take e.size),by simp,?_,fun i x c hi hc=>?_⟩,?_⟩
   ·rw[h2]at g1;clear g3 k2 k1 g2 h hu h2;induction m generalizing cs with
    |zero=>simp at g1;subst g1;rfl
    |succ m ih=>
     have:=ih (cs:=cs.drop e.size) (by rw[zal,g1,zaS];omega);rw[List.range_succ_eq_map,zaC,List.flatten_cons,List.map_map];rw[Nat.zero_mul,zaN];have e2:((fun i=>List.take e.size (List.drop (i*e.size) cs)) ∘ Nat.succ)=fun i=>List.take e.size (List.drop (i*e.size) (cs.drop e.size)):=by
      funext i;simp only[Function.comp,List.drop_drop];rw[Nat.succ_mul,Nat.add_comm]
     rw[e2,←this,zay]
   ·have hlt:i<m:=by
     have:=(zaK.1 hi).1;omega
    have hy:ys[i]? =some (ys[i]'(by omega)):=zac (by omega);rw[List.getElem?_map,List.getElem?_range hlt]at hc;simp only[Option.map_some,Option.some.injEq]at hc;rw[←hc];exact(k2 i x _ hi hy).1
   ·have:=qnx hb xs ys (by omega) fun i x y hx hy=>(k2 i x y hx hy).2;have:=hb.agg (ys.map (·.1));show(List.map e.bulk xs).sum+1≤_;simp only;omega
  ·cases hd
theorem qsi {u:Ty}{t:Nat}{v:Value}{r:Reach}{b0:Nat}(hd:(qiT P u).1 t=true) (hv:Value.okWide P w r b0 t v):(u.agg=true→∃cs,v=.agg cs)∧(u.agg=false→∀cs,v≠ .agg cs):=by
 cases u with
 |err=>cases hd
 |opt _=>cases hd
 |map _ _=>cases hd
 |ptr _ _=>cases hd
 |sl _ _=>cases hd
 |int k=>
  simp only[qiT]at hd;split at hd
  ·rename_i hu;obtain⟨n,rfl⟩:=okWide_int hu hv;exact⟨fun h=>(by cases h),fun _ cs h=>(by cases h)⟩
  ·cases hd
 |bool=>
  simp only[qiT]at hd;split at hd
  ·rename_i hu;obtain⟨n,rfl⟩:=okWide_bool hu hv;exact⟨fun h=>(by cases h),fun _ cs h=>(by cases h)⟩
  ·cases hd
 |str=>
  simp only[qiT]at hd;split at hd
  ·rename_i hu;obtain⟨n,rfl⟩:=okWide_string hu hv;exact⟨fun h=>(by cases h),fun _ cs h=>(by cases h)⟩
  ·cases hd
 |slice e=>
  simp only[qiT]at hd;split at hd
  ·rename_i hu;obtain⟨a,n,c,rfl⟩:=okWide_slice hu hv;exact⟨fun h=>(by cases h),fun _ cs h=>(by cases h)⟩
  ·cases hd
 |unit=>
  simp only[qiT]at hd;split at hd
  ·rename_i hu;obtain⟨cs,h,_⟩:=okWide_struct hu hv;exact⟨fun _=>⟨cs,h⟩,fun h=>(by cases h)⟩
  ·cases hd
 |pair a b=>
  simp only[qiT]at hd;split at hd
  ·rename_i hu;obtain⟨cs,h,_⟩:=okWide_struct hu hv;exact⟨fun _=>⟨cs,h⟩,fun h=>(by cases h)⟩
  ·cases hd
 |arr n e=>
  simp only[qiT]at hd;split at hd
  ·rename_i hu;unfold Value.okWide at hv;rw[hu]at hv;obtain⟨cs,h,_⟩:=hv;exact⟨fun _=>⟨cs,h⟩,fun h=>(by cases h)⟩
  ·cases hd
def qlD:(us:List Ty)→PMs.den (us.map .val)→Nat
 |[],_=>0
 |u::us,x=>u.bulk x.1+qlD us x.2
def qhR (P:Program):List Ty→List Nat→Bool
 |[],[]=>true
 |u::us,t::ts=>(qiT P u).1 t&&qhR P us ts
 |_,_=>false
theorem qov (hb:qq3 bk bkA) {r:Reach}{b0:Nat}:(us:List Ty)→{ts:List Nat}→{vs:List Value}→{ds:List (DataW H)}→{ps:List MemPlace}→qhR P us ts=true→(∀(j:Nat) t v,ts[j]? =some t→vs[j]? =some v→Value.okWide P w r b0 t v)→
  DataW.TrodAll enc P w 0 (fun _=>true) true ts vs ds ps→∃x:PMs.den (us.map .val),qac P w (fun b=>b<w.heap.size) (us.map .val) x vs [] []∧qlD us x≤bkA ds
 |[],[],vs,ds,ps,_,_,h=>by
  obtain⟨rfl,rfl,rfl⟩:=trodAll_nil h;exact⟨(),⟨rfl,rfl,rfl⟩,zaD _⟩
 |u::us,t::ts,vs,ds,ps,hd,hv,h=>by
  simp only[qhR,zad]at hd;obtain⟨v,vs',d,ds',p,q,rfl,rfl,rfl,h0,hr⟩:=trodAll_cons h;obtain⟨fuel,h0⟩:=h0;obtain⟨x,k1,k2⟩:=(qgy hb u).1 fuel t _ _ hd.1 h0;obtain⟨xs,k3,k4⟩:=qov hb us hd.2 (fun j t' v' ht hv'=>hv (j+1) t' v' (by simpa using ht) (by simpa using hv')) hr;have:=hb.cons d ds';exact⟨(x,xs),⟨v,vs',rfl,⟨k1,qsi hd.1 (hv 0 t v rfl rfl)⟩,k3⟩,by show u.bulk x+qlD us xs≤_;simp only at k2;omega⟩
theorem qos {W W':World}{sp:Nat→Bool}(hl:laidOutB P=true): {ts:List Nat}→{vs:List Value}→{ds:List (DataW H)}→{ps:List MemPlace}→(∀t∈ts,P.readableRec t=true∧t<P.types.size)→DataW.TrodAll enc P W 0 (fun _=>true) true ts vs ds ps→Below W.heap.size W W'→(∀x∈ps,x.block<W.heap.size)→(∀x∈ps,sp x.block=true)→
  DataW.TrodAll enc P W' 0 sp true ts vs ds ps
 |[],_,_,_,_,h,_,_,_=>by
  obtain⟨rfl,rfl,rfl⟩:=trodAll_nil h;rfl
 |t::ts,_,_,_,ht,h,hb,hlt,hs=>by
  obtain⟨v,vs',d,ds',p,q,rfl,rfl,rfl,h0,hr⟩:=trodAll_cons h;exact trodAll_cons_mk (WideElems.Trod_stays hl (ht t zar).1 (ht t zar).2 h0 (fun x hx=>hb.same (hlt x (zab _ hx))) fun x hx=>hs x (zab _ hx)) (qos hl (fun t' h'=>ht t' (zaj _ h')) hr hb (fun x hx=>hlt x (zaa _ hx)) fun x hx=>hs x (zaa _ hx))
end
end Go.Vi
namespace Go.Vi
open Go.RowKit Go.WideShapes Go.ChangeShapes
section
variable {H:Type}{enc:TypeId×Value→H}{P:Program}
theorem qqL {f:Func}{s:ChangeSpec}{apart fresh handsOn again:Bool}{W W':World}{args:Array Value}{v:Value}{ds gs:List (DataW H)}{before pa pv:List MemPlace}
  (hW:DataW.Whole enc P f.params.toList s.vars apart W args.toList ds gs before)
  (hres:∀(b:Nat) (sp:Nat→Bool) (hd:Bool),DataW.TrodAll enc P W' b sp hd f.resultTypes.toList (v.resultList f.resultTypes.size) (s.fn H (ds++gs)).results [])
  (qgv:∀sp:Nat→Bool,(∀p∈before,sp p.block=true)→DataW.TrodAll enc P W' 0 sp true f.params.toList args.toList (s.fn H (ds++gs)).args pa)
  (hvars:∀sp:Nat→Bool,(∀p∈before,sp p.block=true)→DataW.TrodVars enc P W' sp s.vars (s.fn H (ds++gs)).vars pv)
  (hps:before=pa++pv) (hb:Below W.heap.size W W')
  (hok:∀(j:Nat) (t:TypeId) (r:Value),f.resultTypes[j]? =some t→(v.resultList f.resultTypes.size)[j]? =some r→Value.okWide P W' .any 0 t r):
  s.post enc P f apart fresh handsOn again W args v W':=by
 have hlt:∀p∈before,p.block<W.heap.size:=fun p hp=>hW.lt p hp;have hold:∀p∈before,(fun b=>decide (b<W.heap.size)) p.block=true:=fun p hp=>by simpa using hlt p hp
 refine⟨ds,gs,before,[],pa,pv,hW,hres _ _ _,qgv _ hold,hvars _ hold,World.keptBut_mono (fun p hp=>⟨hp,?_⟩) (hb.frame (· ∈before)),fun _=>?_⟩
 ·rw[hps,zaf]at hp;exact Or.inr hp
 ·obtain⟨_,_,_,_,_,hz,hn⟩:=hW;refine⟨hok,_,_,([]++pa)++pv,⟨[]++pa,pv,trodAll_append (qgv _ (fun _ _=>rfl)) (hres _ _ _),hvars _ (fun _ _=>rfl),rfl,?_,?_⟩,?_⟩
  ·intro b off hp;have hin:MemPlace.cell b off∈before:=by rw[hps];simpa using hp
   rw[hb.frozen (hlt _ hin)];exact hz b off hin
  ·intro ha;have:=hn ha;rw[hps]at this;simpa using this
  ·intro p hp _;rw[hps];simpa using hp
theorem qm4 {T:qo5}{bk:DataW H→Nat}{bkA:List (DataW H)→Nat}(hb:qq3 bk bkA) {B:Nat}{fi:Nat}{fn:Func}{s:ChangeSpec}{apart fresh handsOn again:Bool}{us:List Ty}{ts:List Nat}{tb:Nat}{sem:Nat→PMs.den (us.map .val)→Option (RMs.den [.val .bool]×PMs.ioDen (us.map .val))}
  (hp:fn.params.toList=ts) (hr:fn.resultTypes= #[tb]) (htb:P.underlying tb=some .bool) (hdeep:qhR P us ts=true) (hl:laidOutB P=true) (qcJ:ts.all (fun t=>P.readableRec t&&decide (t<P.types.size))=true) (hvars:s.vars=[])
  (hfn:∀ds:List (DataW H),ds.length=us.length→s.fn H ds= { results:=[.lit (.bool true)],args:=ds })
  (hC:∀N,qH.okT P T fi ⟨us.map .val,[.val .bool],sem N⟩) (hsem:∀x,qnH us x→qlD us x≤B→∃N z,sem N x=some ((true,()),z))
  {W:World}{args:Array Value}{ds gs:List (DataW H)}{before:List MemPlace}{r:Reach}{base:Nat}
  (hT:qcN T W fun b=>b<W.heap.size)
  (qfS:∀(j:Nat) t v,fn.params[j]? =some t→args[j]? =some v→Value.okWide P W r base t v)
  (hW:DataW.Whole enc P fn.params.toList s.vars apart W args.toList ds gs before) (hk:bkA (ds++gs)≤B):
  Calls P fi args W fun e W'=>∃v,e=.returned v∧s.post enc P fn apart fresh handsOn again W args v W':=by
 have hW':=hW;obtain⟨p,q,hA,hV,rfl,hfz,hnd⟩:=hW;rw[hvars]at hV;obtain⟨rfl,rfl⟩:=trodVars_none hV;rw[hp]at hA;have hrd:∀t∈ts,P.readableRec t=true∧t<P.types.size:=fun t ht=>by
  have:=List.all_eq_true.1 qcJ t ht;simpa using this
 have hlen:∀ {ts:List Nat}{us:List Ty}{vs:List Value}{ds:List (DataW H)}{p:List MemPlace},qhR P us ts=true→DataW.TrodAll enc P W 0 (fun _=>true) true ts vs ds p→ds.length=us.length:=by
  intro ts;induction ts with
  |nil=>
   intro us vs ds p hd h;obtain⟨rfl,rfl,rfl⟩:=trodAll_nil h;cases us with
   |nil=>rfl
   |cons u us=>cases hd
  |cons t ts ih=>
   intro us vs ds p hd h;obtain⟨v,vs',d,ds',p,q,rfl,rfl,rfl,h0,hr⟩:=trodAll_cons h;cases us with
   |nil=>cases hd
   |cons u us=>
    simp only[qhR,zad]at hd;simp only[List.length_cons];rw[ih hd.2 hr]
 have hdl:=hlen hdeep hA;obtain⟨x,k1,k2⟩:=qov hb us hdeep (fun j t v ht hv=>qfS j t v (by rw[←Array.getElem?_toList,hp];exact ht) (by rw[←Array.getElem?_toList];exact hv)) hA;rw[zaO]at hk;obtain⟨N,z,hz⟩:=hsem x (qac.good us k1) (by omega);have:=(hC N).2 W (fun b=>b<W.heap.size) x ((true,()),z) args.toList [] [] hT k1 (fun b hb=>by cases hb) zaA hz;rw[Array.toArray_toList]at this;refine this.mono fun e W' ⟨v,he,vs,bs,js,hv,_,_,hcs,_,hkept⟩=>⟨v,he,?_⟩;obtain⟨v',r',b1,b2,rfl,rfl,⟨rfl,hrep,_,hna⟩,hnil,_⟩:=hcs;subst hnil;have hv':v'=.bool true:=by
  have:v'.cells.toList=[.bool true]:=hrep;have hna:=hna rfl;cases v'<;>simp_all [Value.cells]
 rw[hv']at hv;have hv:v=.bool true:=hv;rw[hv];have hbelow:Below W.heap.size W W':=⟨hkept.os,hkept.tape,hkept.output,hkept.size,fun k hk=>hkept.block k hk fun h=>by cases h⟩;have hlt:∀x∈p,x.block<W.heap.size:=fun x hx=>hW'.lt x (by simpa using hx);refine qqL (pa:=p) (pv:=[]) hW' (fun b sp hd=>?_) (fun sp hsp=>?_) (fun sp _=>?_) rfl hbelow (ok_one hr rfl (okWide_bool_mk htb true))
 ·rw[zaO,hfn ds hdl,hr];exact trodAll_cons_mk (p':=[]) (shut_bool htb true) trodAll_mk0
 ·rw[zaO,hfn ds hdl,hp];exact qos hl hrd hA hbelow hlt fun x hx=>hsp x (by simpa using hx)
 ·rw[zaO,hfn ds hdl,hvars];rfl
theorem qoq {bk:DataW H→Nat}{bkA:List (DataW H)→Nat}(hb:qq3 bk bkA) {B:Nat}{fi:Nat}{fn:Func}{s:ChangeSpec}{apart fresh handsOn again:Bool}{us:List Ty}{ts:List Nat}{tb:Nat}{sem:Nat→PMs.den (us.map .val)→Option (RMs.den [.val .bool]×PMs.ioDen (us.map .val))}
  (hp:fn.params.toList=ts) (hr:fn.resultTypes= #[tb]) (htb:P.underlying tb=some .bool) (hdeep:qhR P us ts=true) (hl:laidOutB P=true) (qcJ:ts.all (fun t=>P.readableRec t&&decide (t<P.types.size))=true) (hvars:s.vars=[])
  (hfn:∀ds:List (DataW H),ds.length=us.length→s.fn H ds= { results:=[.lit (.bool true)],args:=ds })
  (hC:∀N,qH.ok P fi ⟨us.map .val,[.val .bool],sem N⟩) (hsem:∀x,qnH us x→qlD us x≤B→∃N z,sem N x=some ((true,()),z))
  {W:World}{args:Array Value}{ds gs:List (DataW H)}{before:List MemPlace}{r:Reach}{base:Nat}
  (qfS:∀(j:Nat) t v,fn.params[j]? =some t→args[j]? =some v→Value.okWide P W r base t v)
  (hW:DataW.Whole enc P fn.params.toList s.vars apart W args.toList ds gs before) (hk:bkA (ds++gs)≤B):
  Calls P fi args W fun e W'=>∃v,e=.returned v∧s.post enc P fn apart fresh handsOn again W args v W':=by
 exact qm4 hb hp hr htb hdeep hl qcJ hvars hfn hC hsem qcN.none qfS hW hk
end
end Go.Vi
namespace Go.Vi
open Go.RowKit
theorem qqE {P:Program}{f:Nat}{fn:Func}(hf:P.funcs[f]? =some fn) (hb:fn.body.isSome=true) (hname:(fn.name== "runtime.NumGoroutine")=false) (φ:List UInt8→List UInt8→Int) (hφ:∀a b,IntKind.i64.has (φ a b))
  (h:∀(a b:ByteArray) (w:World),Calls P f #[.string a,.string b] w fun e w'=>e=.returned (.int .i64 (φ a.data.toList b.data.toList))∧w'=w):
  qH.ok P f ⟨[.val .str,.val .str],[.val (.int .i64)],fun x=>some ((φ x.1 x.2.1,()),())⟩:=by
 obtain⟨c,hc⟩:=zaE.1 hb;refine⟨fun as w=>qcO hf hc hname as w,fun w F x y as g i _ hp hpre hn hy=>?_⟩;obtain⟨a,b,_⟩:=x;obtain⟨v1,r1,rfl,h1,v2,r2,rfl,h2,rfl,rfl,rfl⟩:=hp;obtain⟨e1,_⟩:=q9.str h1;obtain⟨e2,_⟩:=q9.str h2;subst e1;subst e2;injection hy with hy;subst hy;refine(h ⟨List.toArray a⟩ ⟨List.toArray b⟩ w).mono fun e w' ⟨he,hw⟩=>⟨_,he,?_⟩;subst hw;refine qH.Post.mk0 [_] [] rfl zaA (fun b hb=>(by cases hb)) ⟨_,_,[],[],rfl,rfl,⟨rfl,?_⟩,rfl,rfl⟩ ⟨rfl,rfl⟩ (qaA.refl _ _);exact q9.ofInt _ _ (hφ _ _)
theorem qjR (a b:List UInt8):IntKind.i64.has (Lib.compareBytes a b):=by
 have:Lib.compareBytes a b= -1∨Lib.compareBytes a b=0∨Lib.compareBytes a b=1:=by
  induction a generalizing b with
  |nil=>cases b<;>simp[Lib.compareBytes]
  |cons x a ih=>cases b with
   |nil=>simp[Lib.compareBytes]
   |cons y b=>
    simp only[Lib.compareBytes];split
    ·simp
    ·split
     ·simp
     ·exact ih b
 rcases this with h|h|h<;>rw[h]<;>exact⟨by decide,by decide⟩
end Go.Vi
namespace Go.Vi
open Go.RowKit
def quQ (w:World) (g:Nat) (r:(t:Ty)×t.den):Prop:=g<w.heap.size∧∃(cs:List Value) (te:Nat) (fz:Nat×Nat),w.heap[g]? =some (.cells cs.toArray te fz)∧Rep w (fun b=>b<w.heap.size) r.1 r.2 cs
theorem qsc {P:Program}{w:World}{n:String}{g:Nat}{cs:Array Value}(hg:P.globalNamed n=some g) (h:w.var? P n=some cs):g<w.heap.size∧∃(te:Nat) (fz:Nat×Nat),w.heap[g]? =some (.cells cs te fz):=by
 grind [World.var?]
theorem quQ.err {P:Program}{w:World}{n:String}{g:Nat}{t:TypeId}{x:Value}(hg:P.globalNamed n=some g) (h:w.var? P n=some #[.iface t x]):quQ w g ⟨.err,false⟩:=by
 obtain⟨h1,te,fz,h2⟩:=qsc hg h;exact⟨h1,[.iface t x],te,fz,h2,_,rfl,.inr ⟨rfl,t,x,rfl⟩⟩
end Go.Vi
namespace Go.Vi
open Go.RowKit
theorem qaP {P:Program}(w:World) (dT sT ty elem:TypeId) (sz:Nat) (g o dLen dCap:Nat) (a:Addr) (sLen sCap:Nat) (cur:List Value) (t:TypeId) (cs:List Value)
  (hu:P.underlying dT=some (.slice elem)) (hs:(P.info? elem).map (·.size)=some sz)
  (hg:w.heap[g]? =some (.cells cur.toArray t (0,0))) (hn:cs.length=Nat.min sLen dLen*sz)
  (hsrc:∀j v,cs[j]? =some v→w.cell? (a.add j)=some v) (hfit:o+cs.length≤cur.length) (h1:∀v∈cs,v.oneCell'=true):
  (Builtin.copy_ #[dT,sT] ty #[.slice (some ⟨g,o,none⟩) dLen dCap,.slice (some a) sLen sCap]).run P w=
   .ok (goInt (Nat.min sLen dLen)) (w.setRow g (cur.take o++cs++cur.drop (o+cs.length)).toArray):=by
 have hl:=run_loadCells_list (P:=P) w a cs hsrc;have hst:=run_storeCells_at P g o t cs 0 cur.toArray w hg (by omega) h1;simp only[Nat.add_zero]at hst;cases hq:P.info? elem with
 |none=>grind
 |some i=>
  simp_all [run_underlying,Builtin.copy_,Builtin.lenOf,Builtin.firstCells,sizeOf,typeInfo]
theorem qc8 {P:Program}{ops:Array Oper}{o:Oper}{a:Act}{w:World}{K:Act→World→Prop}{Q:Exit→Act→World→Prop}{E:Prop}
  (hg:o.guard=none) (d x:Operand) (dT sT:TypeId) (hop:o.op=Op.call { callee:=Callee.builtin Builtin.copy,args:= #[d,x],argTypes:= #[dT,sT] })
  (v u:Value) (hd:a.eval d=v) (hx:a.eval x=u) {v':Value}{w':World}(hr:(Builtin.copy_ #[dT,sT] o.type #[v,u]).run P w=.ok v' w') (hK:K (a.put o.dst v') w'):
  if Region.wanted o (yielded ops a.tmps)=true then Oper.wp P o a w K Q else E:=by
 have hw:Region.wanted o (yielded ops a.tmps)=true:=by simp[Region.wanted,hg]
 rw[if_pos hw];unfold Oper.wp;simp[execOp,hop,resolve,invoke,builtin,hd,hx,hr,Result.andThen];exact hK
theorem qaA.setRow {O:Nat→Prop}{w0 w:World}{g:Nat}(h:qaA O w0 w) (hg:O g) (cs:Array Value):qaA O w0 (w.setRow g cs):=
 h.trans ⟨rfl,rfl,rfl,by simp_all,fun k _ hk=>setRow_other w g k cs (fun e=>hk (e▸hg))⟩
theorem qax {w:World}{g:Nat}{cur:List Value}{t:TypeId}{fz:Nat×Nat}(h:w.heap[g]? =some (.cells cur.toArray t fz)) (cs:Array Value):(w.setRow g cs).heap[g]? =some (.cells cs t fz):=setRow_heap w g _ cs t fz h
def qcP {α:Type}(R:α→List Value→Prop) (sz:Nat) (xs:List α) (cells:List Value):Prop:=
 cells.length=xs.length*sz∧∀(j:Nat) (x:α),xs[j]? =some x→R x ((cells.drop (j*sz)).take sz)
theorem qcP.append {α:Type}{R:α→List Value→Prop}{sz:Nat}{xs ys:List α}{a b:List Value}(h:qcP R sz xs a) (k:qcP R sz ys b):qcP R sz (xs++ys) (a++b):=by
 refine⟨by rw[zag,zag,h.1,k.1,zaS],fun j x hj=>?_⟩;by_cases hlt:j<xs.length
 ·rw[List.getElem?_append_left hlt]at hj;have h1:(j+1)*sz≤xs.length*sz:=zam _ hlt;rw[zaS,Nat.one_mul]at h1;have h2:=h.2 j x hj;rwa [List.drop_append_of_le_length (by rw[h.1];omega),zas (by rw[zal,h.1];omega)]
 ·rw[List.getElem?_append_right (by omega)]at hj;have h2:=k.2 _ x hj;have e:j*sz=xs.length*sz+(j-xs.length)*sz:=by rw[←zaS];congr 1;omega
  rw[e,List.drop_append,zaI (l:=a) (by rw[h.1];omega),zaR,h.1,Nat.add_sub_cancel_left];exact h2
theorem qcP.take {α:Type}{R:α→List Value→Prop}{sz:Nat}{xs:List α}{a:List Value}(h:qcP R sz xs a) (k:Nat) (hk:k≤xs.length):qcP R sz (xs.take k) (a.take (k*sz)):=by
 have h0:k*sz≤xs.length*sz:=zam _ hk;refine⟨by rw[zae,zae,h.1,zaQ h0,zaQ hk],fun j x hj=>?_⟩;rw[zap]at hj;split at hj;case isFalse=>cases hj
 rename_i hlt;have h1:(j+1)*sz≤k*sz:=zam _ hlt;rw[zaS,Nat.one_mul]at h1;have h2:=h.2 j x hj;grind [List.drop_take]
theorem qcP.drop {α:Type}{R:α→List Value→Prop}{sz:Nat}{xs:List α}{a:List Value}(h:qcP R sz xs a) (k:Nat):qcP R sz (xs.drop k) (a.drop (k*sz)):=by
 refine⟨by rw[zal,zal,h.1,Nat.sub_mul],fun j x hj=>?_⟩;rw[zav]at hj;have h2:=h.2 _ x hj;grind [List.drop_drop]
theorem qcP.mono {α:Type}{R R':α→List Value→Prop}{sz:Nat}{xs:List α}{a:List Value}(h:qcP R sz xs a) (hR:∀x c,R x c→R' x c):qcP R' sz xs a:=⟨h.1,fun j x hj=>hR _ _ (h.2 j x hj)⟩
theorem qO.chunks {w:World}{F:Nat→Prop}{et:Nat}{e:Ty}{xs:List e.den}{v:Value}{bs:List Nat}(h:qO w F et e xs v bs):∃cells,w.ownsRow 0 et e.size v xs.length cells∧bs=v.ownBlock.toList∧qcP (Rep w F e) e.size xs cells:=by
 obtain⟨cells,h1,h2,h3⟩:=h;exact⟨cells,h1,h2,h1.1,h3⟩
theorem qcP.own {w:World}{F:Nat→Prop}{et:Nat}{e:Ty}{xs:List e.den}{v:Value}{cells:List Value}{n:Nat}(h:qcP (Rep w F e) e.size xs cells) (ho:w.ownsRow 0 et e.size v n cells) (hn:n=xs.length):qO w F et e xs v v.ownBlock.toList:=by
 subst hn;exact⟨cells,ho,rfl,h.2⟩
theorem qcP.oneCell {w:World}{F:Nat→Prop}{e:Ty}: {xs:List e.den}→{cells:List Value}→qcP (Rep w F e) e.size xs cells→∀u∈cells,u.oneCell'=true
 |[],cells,h,u,hu=>by
  have:cells=[]:=zaz (by rw[h.1];simp);grind
 |x::xs,cells,h,u,hu=>by
  have h0:=h.2 0 x rfl;rw[Nat.zero_mul,zaN]at h0;rw[←zay e.size cells]at hu;rcases zaf.1 hu with hu|hu
  ·exact h0.oneCell u hu
  ·have h1:=h.drop 1;rw[Nat.one_mul]at h1;exact qcP.oneCell (xs:=xs) h1 u hu
def qmQ (P:Program) (f te sz bytes:Nat):Prop:=∀(w:World) (v vv:Value) (n m i:Nat) (xs vs:List Value),w.ownsRow 0 te sz v n xs→w.ownsRow 0 te sz vv m vs→(∀b,v.ownBlock=some b→vv.ownBlock≠some b)→i≤n→
 (n+m)*bytes≤140737488355328→(∀u∈xs,u.oneCell'=true)→(∀u∈vs,u.oneCell'=true)→
 Calls P f #[v,.int .i64 i,vv] w fun e w'=>∃v',e=.returned v'∧w'.ownsRow 0 te sz v' (n+m) (xs.take (i*sz)++vs++xs.drop (i*sz))∧qaA (fun b=>v.ownBlock=some b) w w'∧∀b,v'.ownBlock=some b→v.ownBlock=some b∨w.heap.size≤b
theorem own_lt {w:World}{te sz n:Nat}{v:Value}{xs:List Value}(h:w.ownsRow 0 te sz v n xs):∀b,v.ownBlock=some b→b<w.heap.size:=fun b hb=>(h.lt b hb).2
theorem qoX {o:Option Nat}{b:Nat}(h:b∈o.toList):o=some b:=by
 grind
theorem nat_of {i:Int}{n:Nat}(h0:0≤i) (h1:i≤(n:Int)):∃j:Nat,i=(j:Int)∧j≤n:=⟨i.toNat,by omega,by omega⟩
end Go.Vi
namespace Go.Vi
open Go.RowKit
section
variable {P:Program}{w:World}{F:Nat→Prop}{gh:Nat→Nat→Option Value}{ks:List (Nat×Nat×Ty)}
theorem qr1 (t:Ty) (x:t.den):(qjy t x).isHeap=false:=by
 unfold qjy;split<;>rfl
theorem qeK {X:Sit}:(ms:List HM)→{x:HMs.den ks ms}→{vs:List Value}→qbH X.P X.w X.F X.gh ks ms x vs→
  vs.length=ms.length∧(qca ks ms x).length=ms.length∧∀k,qS X (qj (qca ks ms x) k).2 (vs.getD k undef) []∧(qj (qca ks ms x) k).2.mentions=[]∧(qj (qca ks ms x) k).2.isHeap=false
 |[],x,vs,h=>by
  have h:vs=[]:=h;subst h;exact⟨rfl,rfl,fun k=>⟨trivial,rfl,rfl⟩⟩
 |.v t::ms,x,vs,⟨v,r,h1,h2,h3⟩=>by
  subst h1;obtain⟨k1,k2,k3⟩:=qeK ms h3;refine⟨by simp[k1],by simp[qca,k2],fun k=>?_⟩;cases k with
  |zero=>exact⟨(qfg h2).1,(qfg h2).2,qr1 _ _⟩
  |succ k=>exact k3 k
 |.fn ts us::ms,x,vs,⟨v,r,h1,h2,h3⟩=>by
  subst h1;obtain⟨k1,k2,k3⟩:=qeK ms h3;refine⟨by simp[k1],by simp[qca,k2],fun k=>?_⟩;cases k with
  |zero=>exact⟨⟨rfl,h2⟩,rfl,rfl⟩
  |succ k=>exact k3 k
 |.hfn ts us::ms,x,vs,⟨v,r,h1,h2,h3⟩=>by
  subst h1;obtain⟨k1,k2,k3⟩:=qeK ms h3;refine⟨by simp[k1],by simp[qca,k2],fun k=>?_⟩;cases k with
  |zero=>exact⟨⟨rfl,h2⟩,rfl,rfl⟩
  |succ k=>exact k3 k
 |.ls::ms,x,vs,⟨v,r,h1,⟨v1,v2,h2,h4,h5⟩,h3⟩=>by
  subst h1;obtain⟨k1,k2,k3⟩:=qeK ms h3;refine⟨by simp[k1],by simp[qca,k2],fun k=>?_⟩;cases k with
  |zero=>exact⟨⟨rfl,v1,v2,h2,h4,h5⟩,rfl,rfl⟩
  |succ k=>exact k3 k
 |.ifc t k sz::ms,x,vs,⟨v,r,h1,⟨v',h2,h4⟩,h3⟩=>by
  subst h1;obtain⟨k1,k2,k3⟩:=qeK ms h3;refine⟨by simp[k1],by simp[qca,k2],fun k=>?_⟩;cases k with
  |zero=>exact⟨⟨rfl,v',h2,h4⟩,rfl,rfl⟩
  |succ k=>exact k3 k
theorem qg3:(ms:List HM)→{x:HMs.den ks ms}→{vs:List Value}→{s:Nat}→{r:(t:Ty)×t.den}→qbH P w F gh ks ms x vs→qhO ks ms x s=some r→qb3 w F gh r.1 r.2 (vs.getD s undef)∧∀b,vs.getD s undef≠ptr b 0
 |[],_,_,s,_,_,he=>by cases s<;>cases he
 |.v t::ms,x,vs,0,r,⟨v,q,h1,h2,h3⟩,he=>by
  unfold qhO at he;split at he
  ·rename_i hc;injection he with he;subst he;subst h1;refine⟨h2,fun b e=>?_⟩;obtain⟨cs,hcs⟩:=h2.2.1 hc;grind [ptr]
  ·cases he
 |.v t::ms,x,vs,s+1,r,⟨v,q,h1,h2,h3⟩,he=>by
  subst h1;exact qg3 ms (s:=s) (x:=x.2) (vs:=q) h3 he
 |.fn _ _::ms,x,vs,0,r,_,he=>by cases he
 |.fn ts us::ms,x,vs,s+1,r,⟨v,q,h1,h2,h3⟩,he=>by
  subst h1;exact qg3 ms (s:=s) (x:=x.2) (vs:=q) h3 he
 |.hfn _ _::ms,x,vs,0,r,_,he=>by cases he
 |.ls::ms,x,vs,0,r,_,he=>by cases he
 |.ls::ms,x,vs,s+1,r,⟨v,q,h1,h2,h3⟩,he=>by
  subst h1;exact qg3 ms (s:=s) (x:=x.2) (vs:=q) h3 he
 |.ifc _ _ _::ms,x,vs,0,r,_,he=>by cases he
 |.ifc _ _ _::ms,x,vs,s+1,r,⟨v,q,h1,h2,h3⟩,he=>by
  subst h1;exact qg3 ms (s:=s) (x:=x.2) (vs:=q) h3 he
 |.hfn ts us::ms,x,vs,s+1,r,⟨v,q,h1,h2,h3⟩,he=>by
  subst h1;exact qg3 ms (s:=s) (x:=x.2) (vs:=q) h3 he
theorem qoe {T:qo5}{bs:List Nat}{ms:List HM}{x:HMs.den ks ms}{p:hden ks}{vs:List Value}{fn:Func}{s0:Nat}(hT:qcN T w fun b=>F b∧¬b∈bs) (hn:(ks.map (·.1)).Nodup) (hh:qL w F gh (qR ks p) bs) (hb:∀b∈bs,¬F b∧b<w.heap.size) (hbn:bs.Nodup) (hp:qbH P w F gh ks ms x vs) (hs:qmX fn ks ms x s0=true):
  ∃own,qK { P,w0:=w,O:=fun b=>b∈bs,G:=F,pn:=⟨fun _=>none,qhO ks ms x s0⟩,T,hT,hs:=s0,gh0:=gh } (qeb fn ks ms p x s0) (vs.toArray++Array.replicate (fn.ntmps-vs.toArray.size) undef) w own:=by
 simp only[qmX,zad,decide_eq_true_eq,Bool.or_eq_true]at hs;obtain⟨h0,hlen,hs⟩:=hs;let X:Sit:= { P,ver:=fun s=>(qj (qeb fn ks ms p x s0) s).1,tm:=fun s=>(vs.toArray++Array.replicate (fn.ntmps-vs.toArray.size) undef).getD s undef,w,F,own:=fun _=>[],gh,pn:=⟨fun _=>none,qhO ks ms x s0⟩ };obtain⟨k1,k2,k3⟩:=qeK (X:=X) ms hp;have hl:(qca ks ms x++zaT (fn.ntmps-ms.length) ((0,.undef):Ent)).length=fn.ntmps:=by grind
 have eO:∀s,s≠s0→qj (qeb fn ks ms p x s0) s=qj (qca ks ms x) s:=fun s hne=>by
  unfold qj qeb;grind
 have eH:qj (qeb fn ks ms p x s0) s0=(0,.heap (qR ks p)):=by
  grind [qj,qeb]
 have hlen':(qeb fn ks ms p x s0).length=fn.ntmps:=by grind [qeb]
 let own:Own:=⟨fun s=>if s=s0 then bs else[],gh⟩;have hfree:∀b,F b→b<w.heap.size→Ctx.free { P,w0:=w,O:=fun b=>b∈bs,G:=F,pn:=⟨fun _=>none,qhO ks ms x s0⟩,T,hT,hs:=s0,gh0:=gh } w own b:=fun b hf hlt=>⟨.inl hf,hlt,fun s hm=>by
  grind⟩
 have hpar:∀r,qhO ks ms x s0=some r→qb3 w F gh r.1 r.2 (vs.getD s0 undef)∧∀b,vs.getD s0 undef≠ptr b 0:=fun r hr=>qg3 ms hp hr;refine⟨own,⟨by grind,qaJ.refl _,qaA.refl _ _,fun s b hm=>?_,fun s=>?_,fun s s' b h1 h2=>?_,fun s hm=>?_,fun s hm=>?_,fun s m hm=>?_,fun s hm=>?_⟩⟩
 ·grind
 ·grind
 ·grind
 ·grind
 ·by_cases e:s=s0
  ·subst e;rw[eH,qkB];simp only[own,if_true];refine⟨by rw[qck];exact hn,qL.keep (fun b hf hlt=>⟨hfree b hf hlt,hlt,rfl⟩) rfl (fun _ _ _=>rfl) hh,fun b=>?_,fun r hr=>(hpar r hr).1.keep (fun b hf hlt=>⟨hfree b hf hlt,hlt,rfl⟩) (qaJ.refl _)⟩;rcases hs with hs|hs
   ·rw[List.getD_eq_getElem?_getD,List.getElem?_eq_none (by omega)];exact fun e=>by cases e
   grind [zaE]
  ·rw[eO s e,qkB];have e1:own.f s=[]:=by grind
   rw[e1];refine qS.keep (X:=X) ?_ ?_ ?_ ?_ (k3 s).1;all_goals grind [qaJ.refl]
 ·by_cases e:s=s0
  ·subst e;rw[eH]at hm;cases hm
  grind
 grind
end
section
variable {C:Ctx}{E:Env}{σ:St}{tm:Array Value}{a:Act}{w w':World}{own:Own} [Tabbed E C]
theorem qur (hE:qad E C.P) (h:qK C σ tm w own) {t:Ty}{gh0:Nat→Nat→Option Value}{nb0:List Nat}(hg0:qaJ own.gh gh0) {ps:List qQ}(hn:(ps.map (·.k)).Nodup) (hh:qL w (C.free w own) gh0 ps nb0) {v:ResultVar}{c:t.den×List qQ×List U×List Nat}(he:(qmH E ps t v).run (qj σ)=some c):
  ∃z,(qlj tm v).run C.P w=.ok z w∧qaw E w (C.free w own) own gh0 nb0 (c.2.1,c.2.2.1) fun gh'=>qb3 w (FW (sit C σ tm w own) c.2.2.2) gh' t c.1 z:=by
 have tmp:∀ {o1:Op1}{z:Value},qaC (sit C σ tm w own) o1 z→(qu9 E ps t o1).run (qj σ)=some c→qaw E w (C.free w own) own gh0 nb0 (c.2.1,c.2.2.1) fun gh'=>qb3 w (FW (sit C σ tm w own) c.2.2.2) gh' t c.1 z:=by
  intro o1 z ho he;unfold qu9 at he;split at he
  ·obtain⟨r,h1,he⟩:=Q.ya he;grind [Q.yb,qaw.yu,q9.toH,qcm]
  ·obtain⟨r,h1,he⟩:=Q.ya he;have:=Q.yb he;subst this;have hco:=qhn (a:= { tmps:=tm,defers:=[] }) h hg0 hn hh ho h1;exact hco.2.imp fun gh' _ hq=>hq.keep (fun b hb hl=>⟨.inl hb,hl,rfl⟩) (qaJ.refl _)
 cases v with
 |tmp s=>
  simp only[qmH,Q.yc]at he;exact⟨tm.getD s undef,rfl,tmp (o1:=⟨some s,(qj σ s).1,(qj σ s).2⟩) ⟨rfl,rfl,h.at_ s⟩ he⟩
 |cell s t'=>
  simp only[qmH,Q.yc]at he;have hat:=h.at_ s;split at he
  ·rename_i T y hbx;split at he;case isFalse=>cases he
   rename_i hty;split at he;case h_2=>cases he
   rename_i y' hy;have:=Q.yb he;subst this;rw[hbx]at hat;obtain⟨b,cs,te,h1,h2,h3,h4⟩:=hat;have h2:w.heap[b]? =some (.cells cs.toArray te (0,0)):=h2;obtain⟨e1,e2⟩:=Ty.yd hy;subst e1;have e2:y=y':=e2;subst e2;have hT:TyB C.P t' T:=hty.elim (fun e=>hE.heap.ty _ _ e) fun e=>hE.ty _ _ e;have hl:=qh6 (w:=w) (ad:=⟨b,0,none⟩) hT (cs:=cs) (fun j u hj=>by grind [qx,qek]) h3.length;refine⟨mkV T cs,?_,qaw.yu hn hh (qb3.mono hg0 (qb3.ofCells (h3.keep (fun b hb hl=>⟨.inl hb,hl,rfl⟩) (qaJ.refl _))))⟩;grind [qlj,ptr,asAddr]
  ·rename_i c' hc;split at he;case isFalse=>cases he
   rename_i hcond;split at he;case h_2=>cases he
   rename_i y f hg;have:=Q.yb he;subst this;obtain⟨z,hz,hr⟩:=qgM (E:=E) hE h (.val t) (v:= .cell s t') (x:=(y,if f then[s]else[])) (by
    simp only[qjo,Q.yc,hc,if_pos hcond,hg];rfl)
   grind [qaw.yu,q9.toH]
  ·cases he
theorem qkS (hE:qad E C.P) (h:qK C σ tm w own):(rs:List Ty)→{gh0:Nat→Nat→Option Value}→{nb0:List Nat}→(hg0:qaJ own.gh gh0)→{ps:List qQ}→(hn:(ps.map (·.k)).Nodup)→(hh:qL w (C.free w own) gh0 ps nb0)→{vars:List ResultVar}→{c:denL rs×List qQ×List U×List Nat}→(qmO E rs ps vars).run (qj σ)=some c→
  ∃vs,(vars.mapM (qlj tm)).run C.P w=.ok vs w∧qaw E w (C.free w own) own gh0 nb0 (c.2.1,c.2.2.1) fun gh'=>qba w (FW (sit C σ tm w own) c.2.2.2) gh' rs c.1 vs
 |[],_,_,hg0,_,hn,hh,[],c,he=>by
  have:=Q.yb he;subst this;exact⟨[],rfl,qaw.yu hn hh rfl⟩
 |t::rs,gh0,nb0,hg0,ps,hn,hh,v::vars,c,he=>by
  obtain⟨c1,h1,he⟩:=Q.ya he;obtain⟨c2,h2,he⟩:=Q.ya he;have:=Q.yb he;subst this;obtain⟨z,hz,gh1,nb1,m1,m2,m3,m4,m5,m6,m7⟩:=qur hE h hg0 hn hh h1;obtain⟨vs,hvs,hr⟩:=qkS hE h rs (hg0.trans m1) m3 m4 h2;refine⟨z::vs,by simp_all,qaw.join m1 m5 m6 m7 (hr.imp fun gh' hg hq=>⟨z,vs,rfl,?_,?_⟩)⟩
  ·exact m2.keep (fun b hb hl=>⟨FW.mono (fun s hs=>zab _ hs) hb,hl,rfl⟩) hg
  ·exact hq.keep (fun b hb hl=>⟨FW.mono (fun s hs=>zaa _ hs) hb,hl,rfl⟩) (qaJ.refl _)
 |[],_,_,_,_,_,_,_::_,_,he=>by cases he
 |_::_,_,_,_,_,_,_,[],_,he=>by cases he
end
section
variable {P:Program}{w w':World}{F:Nat→Prop}{gh:Nat→Nat→Option Value}{ks:List (Nat×Nat×Ty)}
theorem qrk {E:Env}(hE:qad E P) {fn:Func}{rs:List Ty}{bs:List Nat}{σ:St}{a:Act}{own:Own}{q:hden ks}{y:denL rs}(hb:∀b∈bs,¬F b∧b<w.heap.size) {pn:Pn}(hpar:pn.par=E.hpar) {hT:qcN E.tabs w fun b=>F b∧¬b∈bs}
  (h:qK { P,w0:=w,O:=fun b=>b∈bs,G:=F,pn,T:=E.tabs,hT,hs:=E.hs,gh0:=gh } σ a.tmps w' own) (he:qkc E fn ks rs σ=some (q,y)):
  ∃v,(results fn a.tmps).run P w'=Result.ok v w'∧qmY w F gh ks bs rs q y (.returned v) w':=by
 haveI:Tabbed E { P,w0:=w,O:=fun b=>b∈bs,G:=F,pn,T:=E.tabs,hT,hs:=E.hs,gh0:=gh } :=⟨rfl,rfl,hpar⟩;unfold qkc at he;split at he;case h_2=>cases he
 rename_i A hA;obtain⟨ps,hps,hA⟩:=Q.ya hA;obtain⟨hs,hn,hh,hnp⟩:=qb7 (a:=a) h hps;split at he;case isFalse=>cases he
 rename_i hc;simp only[zad]at hc;have hnd:=qcs hc.1;have hap:=qeB hc.2;split at he;case h_2=>cases he
 rename_i p hp;injection he with he;injection he with e1 e2;subst e1;subst e2;obtain⟨vs,hvs,hr⟩:=qkS hE h rs (qaJ.refl _) hn hh hA;obtain⟨gh',nb,g1,g2,g3,g4,g5,g6,g7⟩:=hr.nodup h hnd;have hp:=qhm ks hp;have hmine:∀s b,b∈own s→F b∨b∈bs∨w.heap.size≤b:=fun s b hm=>(h.mine s b hm).1.elim (fun h=>.inr (.inl h)) fun h=>.inr (.inr h);have hfree:∀b,Ctx.free { P,w0:=w,O:=fun b=>b∈bs,G:=F,pn,T:=E.tabs,hT,hs:=E.hs,gh0:=gh } w' own b→qmA w F bs nb b:=fun b hf=>by
  refine⟨hf.1.elim .inl fun h=>.inr h,fun hm=>?_⟩;rcases g7 b hm with h1|⟨u,_,h1⟩
  ·exact hf.2.2 _ h1
  ·exact hf.2.2 _ h1
 refine⟨qcG vs,qh0 hvs,vs,gh',nb,rfl,fun k i v hv=>g1 k i v (h.ghs k i v hv),g6,fun b hm=>?_,?_,g2.keep (fun b hf hl=>⟨?_,hl,rfl⟩) (qaJ.refl _),h.kept⟩
 ·rcases g7 b hm with h1|⟨u,_,h1⟩
  ·exact⟨(h.mine _ b h1).1,(h.mine _ b h1).2⟩
  ·exact⟨(h.mine _ b h1).1,(h.mine _ b h1).2⟩
 ·grind [qL.keep]
 ·rcases hf with hf|⟨s,hs1,hs2,_⟩
  ·exact hfree b hf
  ·refine⟨hmine s b hs2,fun hm=>?_⟩;have hns:=hap s hs1;rcases g7 b hm with h1|⟨u,hu,h1⟩
   ·exact hns (by rw[h.apart s E.hs b hs2 h1];grind)
   ·exact hns (by rw[h.apart s u.s b hs2 h1];grind)
theorem qad.hEnv {E:Env}(h:qad E P) (anns:qog) (ks:List (Nat×Nat×Ty)) (ms:List HM) (x:HMs.den ks ms):qad (hEnv E anns ks ms x) P:=
 ⟨⟨h.heap.ty,h.heap.sl,h.heap.zero,h.heap.ptr,h.heap.elem,h.heap.struct⟩,h.ty,fun t e he=>⟨(h.elem t e he).under,(h.elem t e he).info,(h.elem t e he).notInt⟩,h.dflt,h.size,h.arr,h.struct,h.str,h.int,h.bool,h.err,h.opt,h.map,h.off,h.zero,h.eq,h.mixed,h.lst⟩
theorem quX {E:Env}(hE:qad E P) (hF:qdr E P) (hH:qfN E P) {N:Nat}{anns:qog}{f:Nat}{fn:Func}{c:Code}(hf:P.funcs[f]? =some fn) (hb:fn.body=some c) (hname:(fn.name== "runtime.NumGoroutine")=false) (D:qaX)
  (hrun:∀p x y,D.sem p x=some y→runH E N anns fn D.ks D.ps D.rs p x=some y):D.okT P E.tabs f:=by
 refine⟨fun as w=>qcO hf hb hname as w,fun w F gh p bs x p' y as hT hn hh hbs hbn hp hy=>?_⟩;have hT':qcN E.tabs w fun b=>F b∧¬b∈bs:=hT.keep fun b hb hlt=>⟨⟨hb,fun hm=>(hbs b hm).1 hb⟩,hlt,rfl⟩;have he:=hrun p x (p',y) hy;unfold runH at he;rw[hb]at he;simp only at he;split at he;case isFalse=>cases he
 rename_i hcond;simp only[zad]at hcond;obtain⟨c1,c2⟩:=hcond;obtain⟨own,hst⟩:=qoe (fn:=fn) hT' hn hh hbs hbn hp c2;have hE':=hE.hEnv anns D.ks D.ps x;have fin:∀(σ':St) (a':Act) (w':World) (own':Own),qdt [] { tmps:=as.toArray++Array.replicate (fn.ntmps-as.toArray.size) undef,defers:=[] } a'→qK { P,w0:=w,O:=fun b=>b∈bs,G:=F,pn:=⟨fun _=>none,qhO D.ks D.ps x E.hs⟩,T:=E.tabs,hT:=hT',hs:=E.hs,gh0:=gh } σ' a'.tmps w' own'→qkc (hEnv E anns D.ks D.ps x) fn D.ks D.rs σ'=some (p',y)→
   a'.defers=[]∧∃v,(results fn a'.tmps).run P w'=.ok v w'∧qmY w F gh D.ks bs D.rs p' y (.returned v) w':=fun σ' a' w' own' hk hs hfin=>
  ⟨hk.1,qrk hE' hbs rfl hs hfin⟩
 haveI:Tabbed (hEnv E anns D.ks D.ps x) { P,w0:=w,O:=fun b=>b∈bs,G:=F,pn:=⟨fun _=>none,qhO D.ks D.ps x E.hs⟩,T:=E.tabs,hT:=hT',hs:=E.hs,gh0:=gh } :=⟨rfl,rfl,rfl⟩;exact calls_of_wp hf hb (qpu (E:=hEnv E anns D.ks D.ps x) (C:= { P,w0:=w,O:=fun b=>b∈bs,G:=F,pn:=⟨fun _=>none,qhO D.ks D.ps x E.hs⟩,T:=E.tabs,hT:=hT',hs:=E.hs,gh0:=gh }) (pin:=[]) hE' ⟨fun f C h=>hF f C h,fun k hk=>(by cases hk),fun k b h=>(by cases h),fun f C h=>hH f C h⟩ c c1 he (fun k b h=>(by cases h)) hst ⟨fun σ' a' w' own' hfr hk hs hfin=>fin σ' a' w' own' hk hs hfin,fun i σ' a' w' own' hfr hk hs hfin=>(by cases hfin),fun σ' a' w' own' hfr hk hs hfin=>fin σ' a' w' own' hk hs hfin⟩)
theorem qkX:(ks:List (Nat×Nat×Ty))→∀r∈qR ks (qn6 ks),r.rows=[]
 |[],_,h=>by cases h
 |_::ks,r,h=>by
  rcases zak.1 h with rfl|h
  ·rfl
  ·exact qkX ks r h
theorem qlt:(ks:List (Nat×Nat×Ty))→qbC w F (fun _ _=>none) (qR ks (qn6 ks)) []
 |[]=>rfl
 |q::ks=>⟨[],[],rfl,if h:q.1<100 then .inl ⟨h,[],rfl,rfl,fun _ _=>rfl,fun i r b hi=>by cases hi⟩else .inr ⟨by grind,rfl⟩,qlt ks⟩
theorem qq8 (ks:List (Nat×Nat×Ty)):qL w F (fun _ _=>none) (qR ks (qn6 ks)) []:=⟨qlt ks,fun r hr _ i xs hi=>by grind [qkX]⟩
theorem qsY:(ts:List Ty)→{x:denL ts}→{vs:List Value}→qct w F ts x vs→qbH P w F gh ks (valH ts) (qnK ks ts x) vs
 |[],_,_,h=>h
 |_::ts,_,_,⟨v,r,h1,h2,h3⟩=>⟨v,r,h1,h2.toH,qsY ts h3⟩
theorem qtO {C:Ctx}{E:Env}{σ:St}{tm:Array Value}{own:Own} [Tabbed E C] (hE:qad E C.P) (h:qK C σ tm w own) {t:Ty}{v:ResultVar}{c:t.den×List Nat×List Bool}(he:(qt4 E t v).run (qj σ)=some c) (hc:qb9 c.2.2):
  ∃z,(qlj tm v).run C.P w=.ok z w∧q9 w (FW (sit C σ tm w own) c.2.1) t c.1 z:=by
 cases v with
 |tmp s=>
  simp only[qt4,Q.yc]at he;exact⟨tm.getD s undef,rfl,qsZ (a:= { tmps:=tm,defers:=[] }) h (o1:=⟨some s,(qj σ s).1,(qj σ s).2⟩) ⟨rfl,rfl,h.at_ s⟩ he hc⟩
 |cell s t'=>
  simp only[qt4,Q.yc]at he;have hat:=h.at_ s;split at he
  ·rename_i T y hbx;split at he;case isFalse=>cases he
   rename_i hty;obtain⟨hty,hag⟩:=hty;obtain⟨ps,hps,he⟩:=Q.ya he;obtain⟨hs,hn,hh,hnp⟩:=qb7 (a:= { tmps:=tm,defers:=[] }) h hps;have:=Q.yb he;subst this;rw[hbx]at hat;obtain⟨b,cs,te,h1,h2,h3,h4⟩:=hat;have h2:w.heap[b]? =some (.cells cs.toArray te (0,0)):=h2;have hT:TyB C.P t' T:=hty.elim (fun e=>hE.heap.ty _ _ e) fun e=>hE.ty _ _ e;have hl:=qh6 (w:=w) (ad:=⟨b,0,none⟩) hT (cs:=cs) (fun j u hj=>by grind [qx,qek]) h3.length;have hsome:=hc _ (zah.2 rfl);have hv:=qox hn hh (qb3.ofCells h3) hag (qgU (d:=t.dflt) hsome);refine⟨mkV T cs,?_,hv.mono fun b hb _=>hb.imp id fun hb=>⟨E.hs,zah.2 rfl,hb,hnp.1 b⟩⟩;grind [qlj,ptr,asAddr]
  ·rename_i c' hcb;split at he;case isFalse=>cases he
   rename_i hcond;split at he;case h_2=>cases he
   rename_i y f hg;have:=Q.yb he;subst this;obtain⟨z,hz,hr⟩:=qgM (E:=E) hE h (.val t) (v:= .cell s t') (x:=(y,if f then[s]else[])) (by
    simp only[qjo,Q.yc,hcb,if_pos hcond,hg];rfl)
   grind
  ·cases he
theorem qoy {C:Ctx}{E:Env}{σ:St}{tm:Array Value}{own:Own} [Tabbed E C] (hE:qad E C.P) (h:qK C σ tm w own):(rs:List Ty)→{vars:List ResultVar}→{c:denL rs×List Bool}→(qsF E rs vars).run (qj σ)=some c→qb9 c.2→
  ∃vs,(vars.mapM (qlj tm)).run C.P w=.ok vs w∧qct w (fun b=>C.free w own b∨∃s,b∈own s) rs c.1 vs
 |[],[],c,he,_=>by
  have:=Q.yb he;subst this;exact⟨[],rfl,rfl⟩
 |t::rs,v::vars,c,he,hc=>by
  obtain⟨c1,h1,he⟩:=Q.ya he;obtain⟨c2,h2,he⟩:=Q.ya he;have:=Q.yb he;subst this;obtain⟨z,hz,hr⟩:=qtO hE h h1 (fun b hb=>hc b (zab _ hb));obtain⟨vs,hvs,hrs⟩:=qoy hE h rs h2 (fun b hb=>hc b (zaa _ hb));exact⟨z::vs,by simp_all,z,vs,rfl,hr.mono fun b hb _=>hb.imp id fun ⟨s,_,h,_⟩=>⟨s,h⟩,hrs⟩
 |[],_::_,_,he,_=>by cases he
 |_::_,[],_,he,_=>by cases he
theorem qoh:(us:List Ty)→(y:RMs.den (valRs us))→qsT us (qqF us y)=y
 |[],_=>rfl
 |_::us,y=>Prod.ext rfl (qoh us y.2)
theorem qvg {E:Env}(hE:qad E P) (hF:qdr E P) (hH:qfN E P) {N:Nat}{anns:qog}{f:Nat}{fn:Func}{c:Code}{ks:List (Nat×Nat×Ty)}(hks:(ks.map (·.1)).Nodup) (hf:P.funcs[f]? =some fn) (hb:fn.body=some c) (hname:(fn.name== "runtime.NumGoroutine")=false) {ts us:List Ty}{sem:PMs.den (valPs ts)→Option (RMs.den (valRs us)×PMs.ioDen (valPs ts))}
  (hrun:∀x y,sem x=some y→runT E N anns fn ks ts us (qoL ts x)=some (qqF us y.1)):qH.okT P E.tabs f ⟨valPs ts,valRs us,sem⟩:=by
 refine⟨fun as w=>qcO hf hb hname as w,fun w F x y as g i hT hp hpre hn hy=>?_⟩;obtain⟨hvs,rfl,rfl⟩:=qhP ts hp;have hT':qcN E.tabs w fun b=>F b∧¬b∈([]:List Nat):=hT.keep fun b hb hlt=>⟨⟨hb,by simp⟩,hlt,rfl⟩;have he:=hrun x y hy;unfold runT at he;rw[hb]at he;simp only at he;split at he;case isFalse=>cases he
 rename_i hcond;simp only[zad]at hcond;obtain⟨c1,_,c2⟩:=hcond;have qgv:qbH P w F (fun _ _=>none) ks (valH ts) (qnK ks ts (qoL ts x)) as:=qsY ts hvs;obtain⟨own,hst⟩:=qoe (fn:=fn) hT' hks (qq8 ks) (fun b hb=>by cases hb) zaA qgv c2;have hE':=hE.hEnv anns ks (valH ts) (qnK ks ts (qoL ts x));haveI:Tabbed (hEnv E anns ks (valH ts) (qnK ks ts (qoL ts x))) { P,w0:=w,O:=fun b=>b∈([]:List Nat),G:=F,pn:=⟨fun _=>none,qhO ks (valH ts) (qnK ks ts (qoL ts x)) E.hs⟩,T:=E.tabs,hT:=hT',hs:=E.hs,gh0:=fun _ _=>none } :=⟨rfl,rfl,rfl⟩;have fin:∀(σ':St) (a':Act) (w':World) (own':Own),qdt [] { tmps:=as.toArray++Array.replicate (fn.ntmps-as.toArray.size) undef,defers:=[] } a'→qK { P,w0:=w,O:=fun b=>b∈([]:List Nat),G:=F,pn:=⟨fun _=>none,qhO ks (valH ts) (qnK ks ts (qoL ts x)) E.hs⟩,T:=E.tabs,hT:=hT',hs:=E.hs,gh0:=fun _ _=>none } σ' a'.tmps w' own'→qtY (hEnv E anns ks (valH ts) (qnK ks ts (qoL ts x))) fn us σ'=some (qqF us y.1)→
   a'.defers=[]∧∃v,(results fn a'.tmps).run P w'=.ok v w'∧∃v',Ending.returned v=.returned v'∧qH.Post ⟨valPs ts,valRs us,sem⟩ w F as [] [] y v' w':=by
  intro σ' a' w' own' hk hs hfin;refine⟨hk.1,?_⟩;unfold qtY at hfin;split at hfin;case h_2=>cases hfin
  rename_i A hA;obtain⟨hca,hfin⟩:=qfi hfin;injection hfin with hfin;obtain⟨vs,k1,k2⟩:=qoy hE' hs us hA hca;refine⟨qcG vs,qh0 k1,qcG vs,rfl,qH.Post.mk0 vs [] rfl zaA (fun b hb=>by cases hb) ?_ (qgA ts) (hs.kept.mono fun b hb=>by cases hb)⟩;have e:y.1=qsT us (qqF us y.1):=(qoh us _).symm;show qaB w' _ (qcU (valRs us) y.1) vs [];rw[e,←hfin];refine qiZ us (k2.mono us fun b hb=>?_);refine⟨?_,by simp,by simp⟩;rcases hb with hb|⟨s,hb⟩
  ·rcases hb.1 with h|h|h;all_goals grind
  ·rcases(hs.mine s b hb).1 with h|h;all_goals grind
 exact calls_of_wp hf hb (qpu (E:=hEnv E anns ks (valH ts) (qnK ks ts (qoL ts x))) (C:= { P,w0:=w,O:=fun b=>b∈([]:List Nat),G:=F,pn:=⟨fun _=>none,qhO ks (valH ts) (qnK ks ts (qoL ts x)) E.hs⟩,T:=E.tabs,hT:=hT',hs:=E.hs,gh0:=fun _ _=>none }) (pin:=[]) hE' ⟨fun f C h=>hF f C h,fun k hk=>(by cases hk),fun k b h=>(by cases h),fun f C h=>hH f C h⟩ c c1 he (fun k b h=>(by cases h)) hst ⟨fun σ' a' w' own' hfr hk hs hfin=>fin σ' a' w' own' hk hs hfin,fun i σ' a' w' own' hfr hk hs hfin=>(by cases hfin),fun σ' a' w' own' hfr hk hs hfin=>fin σ' a' w' own' hk hs hfin⟩)
end
end Go.Vi
namespace Go.Vi
def Ty.hzeroOk:Ty→List Value→Bool
 |.pair a b,cs=>a.hzeroOk (cs.take a.size)&&b.hzeroOk (cs.drop a.size)
 |.ptr _ _,cs=>match cs with
  |[.pointer none]=>true
  |_=>false
 |.sl _ _,cs=>match cs with
  |[.slice none 0 0]=>true
  |_=>false
 |t,cs=>t.zeroOk cs
theorem Ty.hzeroOk_rep {w:World}{F:Nat→Prop}{gh:Nat→Nat→Option Value}:(t:Ty)→{cs:List Value}→t.hzeroOk cs=true→qa6 w F gh t t.dflt cs
 |.pair a b,cs,h=>by
  simp only[Ty.hzeroOk,zad]at h;exact⟨_,_,(zay a.size cs).symm,a.hzeroOk_rep h.1,b.hzeroOk_rep h.2⟩
 |.ptr _ _,cs,h=>by
  simp only[Ty.hzeroOk]at h;split at h
  ·exact⟨_,rfl,.inl ⟨rfl,rfl,rfl⟩⟩
  ·cases h
 |.sl _ _,cs,h=>by
  simp only[Ty.hzeroOk]at h;split at h
  ·exact⟨_,rfl,.inl ⟨rfl,rfl,rfl,rfl⟩⟩
  ·cases h
 |.int k,cs,h=>Ty.zeroOk_rep (.int k) h
 |.bool,cs,h=>Ty.zeroOk_rep .bool h
 |.str,cs,h=>Ty.zeroOk_rep .str h
 |.unit,cs,h=>Ty.zeroOk_rep .unit h
 |.slice e,cs,h=>Ty.zeroOk_rep (.slice e) h
 |.arr n e,cs,h=>Ty.zeroOk_rep (.arr n e) h
 |.err,cs,h=>Ty.zeroOk_rep .err h
 |.opt e,cs,h=>Ty.zeroOk_rep (.opt e) h
 |.map k v,cs,h=>Ty.zeroOk_rep (.map k v) h
def qsw (P:Program) (t n:Nat):Bool:=match P.info? t with
 |some i=>decide (i.size=n)
 |none=>false
def qg2 (P:Program) (E:Env) (t:Nat) (d:TypeDesc):Ty→Bool
 |.ptr _ sz=>match d with
  |.pointer p=>qsw P p sz
  |_=>false
 |.sl _ sz=>match d with
  |.slice et=>decide (et=E.etid t)&&(match P.info? et with
   |some i=>decide (i.size=sz)&&decide (i.bytes=E.bytes et)&&(match i.zero with
    |some z=>decide (z.cells.size=sz)
    |none=>false)
   |none=>false)
  |_=>false
 |.unit=>match d with
  |.struct fs=>qpT P fs.toList .unit 0
  |_=>false
 |.pair a b=>match d with
  |.struct fs=>qpT P fs.toList (.pair a b) 0
  |_=>false
 |u=>(match d with
  |.struct _=>false
  |.array _ _=>false
  |_=> !u.agg)
def hiOk (P:Program) (E:Env) (x:Nat×Ty):Bool:=
 match P.info? x.1,P.underlying x.1 with
 |some i,some d=>decide (i.size=x.2.size)&&(match i.zero with
  |some z=>x.2.hzeroOk z.cells.toList
  |none=>false)&&qg2 P E x.1 d x.2
 |_,_=>false
theorem qmu {α:Type}: {l:List (Nat×α)}→{k:Nat}→{x:α}→qll l k=some x→(k,x)∈l
 |(a,y)::r,k,x,h=>by
  simp only[qll]at h;split at h
  ·grind
  ·exact zaj _ (qmu h)
theorem qrs {P:Program}{t n:Nat}(h:qsw P t n=true):(sizeOf t).run P=fun w=>.ok n w:=by
 grind [qcS,qsw]
theorem qrT {P:Program}{E:Env}(hE:qad E P) {ks:List (Nat×Nat×Ty)}{hs:Nat}{H:List (Nat×Ty)}{ob:List (Nat×Nat)}{xs:List Nat}{fns:List (Nat×qaX)}(h:H.all (hiOk P E)=true):qad (E.hp ks hs H ob xs fns) P:=by
 have one:∀ {t:Nat}{u:Ty},qll H t=some u→∃i d z,P.info? t=some i∧P.underlying t=some d∧i.zero=some z∧i.size=u.size∧u.hzeroOk z.cells.toList=true∧qg2 P E t d u=true:=by
  intro t u ht;have:=List.all_eq_true.1 h _ (qmu ht);grind [hiOk]
 refine⟨⟨fun t u ht=>?_,fun t k sz ht=>?_,fun t u ht=>?_,fun t k sz ht=>?_,fun t k sz ht=>?_,fun t u ht hst=>?_⟩,hE.ty,fun t e he=>⟨(hE.elem t e he).under,(hE.elem t e he).info,(hE.elem t e he).notInt⟩,hE.dflt,hE.size,hE.arr,hE.struct,hE.str,hE.int,hE.bool,hE.err,hE.opt,hE.map,hE.off,hE.zero,hE.eq,hE.mixed,hE.lst⟩
 ·obtain⟨i,d,z,h1,h2,h3,h4,h5,h6⟩:=one ht;refine⟨⟨i,h1,h4⟩,d,h2,?_⟩;clear one h ht;cases d<;>cases u<;>first|rfl|grind [qg2]
 ·obtain⟨i,d,z,h1,h2,h3,h4,h5,h6⟩:=one ht;simp only[qg2]at h6;split at h6;case h_2=>cases h6
  rename_i et;simp only[zad,decide_eq_true_eq]at h6;obtain⟨e1,e2⟩:=h6;subst e1;refine⟨h2,?_⟩;split at e2;case h_2=>cases e2
  rename_i i' hi';simp only[zad,decide_eq_true_eq]at e2;funext w;show(sizeOf (E.etid t)).run P w=_;grind [qcS]
 ·obtain⟨i,d,z,h1,h2,h3,h4,h5,h6⟩:=one ht;exact⟨i,z,h1,h3,fun w F gh=>u.hzeroOk_rep h5⟩
 ·obtain⟨i,d,z,h1,h2,h3,h4,h5,h6⟩:=one ht;simp only[qg2]at h6;grind [qrs]
 ·obtain⟨i,d,z,h1,h2,h3,h4,h5,h6⟩:=one ht;simp only[qg2]at h6;split at h6;case h_2=>cases h6
  rename_i et;simp only[zad,decide_eq_true_eq]at h6;obtain⟨e1,e2⟩:=h6;subst e1;split at e2;case h_2=>cases e2
  rename_i i' hi';simp only[zad,decide_eq_true_eq]at e2;obtain⟨⟨e2,e3⟩,e4⟩:=e2;split at e4;case h_2=>cases e4
  rename_i z' hz';exact⟨i',z',hi',e2,hz',of_decide_eq_true e4,e3⟩
 ·obtain⟨i,d,z,h1,h2,h3,h4,h5,h6⟩:=one ht;cases u with
  |unit=>
   simp only[qg2]at h6;grind [Ty.hzeroOk_rep,qie]
  |pair a b=>
   simp only[qg2]at h6;grind [Ty.hzeroOk_rep,qie]
  |_=>cases hst
theorem qsd {E:Env}{P:Program}(h:E.hfn=fun _=>none):qfN E P:=fun f C hf=>by grind
def HOk (P:Program) (G:qo5) (l:List (Nat×qaX)):Prop:=∀f C,qll l f=some C→qaX.okT P G f C
theorem HOk.nil {P:Program}{G:qo5}:HOk P G []:=fun f C h=>by cases h
theorem HOk.cons {P:Program}{G:qo5}{l:List (Nat×qaX)}{f:Nat}{C:qaX}(h:qaX.okT P G f C) (hl:HOk P G l):HOk P G ((f,C)::l):=fun f' C' h'=>by
 simp only[qll]at h';split at h'
 ·grind
 ·exact hl f' C' h'
theorem quA {P:Program}{E:Env}(hE:qad E P) (hF:qdr E P) (hH:qfN E P) {N:Nat}{anns:qog}{f:Nat}{fn:Func}(hf:P.funcs[f]? =some fn) (hb:fn.body.isSome=true) (hname:(fn.name== "runtime.NumGoroutine")=false) {ks:List (Nat×Nat×Ty)}{ms:List HM}{rs:List Ty}{sem:hden ks→HMs.den ks ms→Option (hden ks×denL rs)}
  (hrun:∀p x,runH E N anns fn ks ms rs p x=sem p x):qaX.okT P E.tabs f ⟨ks,ms,rs,sem⟩:=by
 obtain⟨c,hc⟩:=zaE.1 hb;exact quX hE hF hH (N:=N) (anns:=anns) hf hc hname ⟨ks,ms,rs,sem⟩ fun p x y h=>(hrun p x).trans h
theorem qnO {P:Program}{T:qo5}{f:Nat}{fn:Func}(hf:P.funcs[f]? =some fn) (hb:fn.body.isSome=true) (hname:(fn.name== "runtime.NumGoroutine")=false) {ks:List (Nat×Nat×Ty)}{ms:List HM}{rs:List Ty}:qaX.okT P T f ⟨ks,ms,rs,fun _ _=>none⟩:=by
 obtain⟨c,hc⟩:=zaE.1 hb;exact⟨fun as w=>qcO hf hc hname as w,fun w F gh p bs x p' y as _ _ _ _ _ _ hy=>by cases hy⟩
noncomputable def semT (ts us:List Ty) (F:denL ts→Option (denL us)) (x:PMs.den (valPs ts)):Option (RMs.den (valRs us)×PMs.ioDen (valPs ts)):=qkj (fun y=>(qsT us y,PMs.yg (valPs ts))) (F (qoL ts x))
theorem qnL:(us:List Ty)→(y:denL us)→qqF us (qsT us y)=y
 |[],_=>rfl
 |_::us,y=>Prod.ext rfl (qnL us y.2)
theorem keepsT {P:Program}{E:Env}(hE:qad E P) (hF:qdr E P) (hH:qfN E P) {N:Nat}{anns:qog}{f:Nat}{fn:Func}(hf:P.funcs[f]? =some fn) (hb:fn.body.isSome=true) (hname:(fn.name== "runtime.NumGoroutine")=false) {ks:List (Nat×Nat×Ty)}(hks:(ks.map (·.1)).Nodup) {ts us:List Ty}{F:denL ts→Option (denL us)}
  (hrun:∀x,runT E N anns fn ks ts us x=F x):qH.okT P E.tabs f ⟨valPs ts,valRs us,semT ts us F⟩:=by
 obtain⟨c,hc⟩:=zaE.1 hb;refine qvg hE hF hH (N:=N) (anns:=anns) hks hf hc hname fun x y h=>?_;grind [qeE,zao,qnL,semT]
end Go.Vi
namespace Go.Vi
open Go.RowKit
noncomputable def qkm {α:Type}(bytes:Nat) (rows:List (Option (List α))) (s:Int×(Int×Int)) (i:Int) (v:Int×(Int×Int)):Option (List (Option (List α))×(Int×(Int×Int))):=
 match qcJ rows s,qcJ rows v with
 |some xs,some ys=>if(0≤i∧i≤(xs.length:Int)∧0<ys.length)∧(s.2.1=0∧v.2.1=0∧s.1≠v.1)∧(xs.length+ys.length)*bytes≤140737488355328 then
   some ((if s.1= -1 then rows else rows.set s.1.toNat none)++[some (xs.take i.toNat++ys++xs.drop i.toNat)],((rows.length:Int),(0,((xs.length+ys.length:Nat):Int))))else none
 |_,_=>none
section
variable {P:Program}{w:World}{F:Nat→Prop}{gh:Nat→Nat→Option Value}
theorem qje {ps:List qQ}{nb:List Nat}{q:qQ}{k:Nat}(hn:(ps.map (·.k)).Nodup) (hh:qL w F gh ps nb) (hq:qcg k ps=some q) {s:Int×(Int×Int)}{v:Value}(hs:qe2 gh k q.e.size s v) (hlo:s.2.1=0) {xs:List q.e.den}(hx:qcJ q.rows s=some xs):
  (s.1= -1∧xs=[]∧v=.slice none 0 0)∨∃xs0 hd b1 b3 c1 c2 c3,0≤s.1∧qN q.rows s.1=some xs0∧gh k s.1.toNat=some hd∧nb=b1++((c1++(c2++c3))++b3)∧c2=hd.ownBlock.toList∧v.ownBlock=hd.ownBlock∧qI w F gh q.et q.e xs v c2∧qI w F gh q.et q.e xs0 hd c2:=by
 have hk:=(qcD hq).1;obtain⟨b1,b2,b3,p1,p2,p3⟩:=hh.find hn hq;rcases hs with⟨h0,h1,h2,h3⟩|⟨s0,s1,s2,ad,n,cap,s3,s4,s5,s6⟩
 ·refine .inl ⟨h0,?_,h3⟩;rcases qiV hx with⟨_,h⟩|⟨zs,hz,h⟩
  ·exact h
  ·have:=(qbN hz).1;omega
 right;rcases qiV hx with⟨h,_⟩|⟨xs0,hz,h⟩
 ·omega
 obtain⟨hd,c1,c2,c3,g1,g2,g3,g4⟩:=p2.row hz;have hqk:q.k=k:=(qcF hq).1;rw[hqk,s3]at g1;injection g1 with g1;subst g1;have hc2:c2=(Value.slice ad n cap).ownBlock.toList:=by obtain⟨_,_,e3,_⟩:=g3;exact e3
 have hxn:xs0.length=n:=by
  obtain⟨ad2,cap2,e1,_⟩:=g3.form;injection e1 with _ e1 _;exact e1.symm
 have hx2:xs=xs0.take s.2.2.toNat:=by rw[h,hlo];rfl
 have hsl:v=sliced ad 0 s.2.2.toNat cap q.e.size:=by
  rcases s6 with h|⟨h,_⟩
  ·rw[h,hlo];rfl
  ·omega
 refine⟨xs0,_,b1,b3,c1,c2,c3,s0,hz,s3,by rw[p1,g2],hc2,?_,?_,g3⟩
 ·rw[hsl,qbL];cases ad<;>rfl
 ·by_cases hf:s.2.2.toNat=n
  ·rw[hx2,hf,←hxn,List.take_length,hsl,hf,qbL];exact g3
  ·obtain⟨g,rfl⟩:∃g,ad=some ⟨g,0,none⟩:=by
    rcases s4.2.2 with h|h
    ·omega
    ·exact h
   have hv:v=.slice (some ⟨g,0,none⟩) s.2.2.toNat cap:=by rw[hsl,qbL]
   rw[hx2,hv];exact g3.cut (by omega)
theorem qr3 {ps:List qQ}{nb:List Nat}{q:qQ}{k:Nat}(hn:(ps.map (·.k)).Nodup) (hh:qL w F gh ps nb) (hq:qcg k ps=some q) (hro:∀r∈ps,r.k<100) (hnb:nb.Nodup) (hF0:∀b,F b→b∉nb) (hlt:∀b∈nb,b<w.heap.size)
  {s:Int×(Int×Int)}{v:Value}(hs:qe2 gh k q.e.size s v) (hlo:s.2.1=0) {xs:List q.e.den}(hx:qcJ q.rows s=some xs) {W:World}{v':Value}{zs:List q.e.den}(hK:qaA (fun b=>v.ownBlock=some b) w W) (h3:qI W F gh q.et q.e zs v' v'.ownBlock.toList)
  (h4:∀b,v'.ownBlock=some b→(v.ownBlock=some b∨w.heap.size≤b)∧b<W.heap.size):
  ∃gh' nb',qaJ gh gh'∧qL W F gh' (pset { q with rows:=(if s.1= -1 then q.rows else q.rows.set s.1.toNat none)++[some zs] } ps) nb'∧qe2 gh' k q.e.size ((q.rows.length:Int),(0,(zs.length:Int))) v'∧nb'.Nodup∧
   (∀b∈nb',(w.heap.size≤b∧b<W.heap.size)∨b∈nb)∧qaA (fun b=>b∈nb) w W:=by
 have hk:=(qcD hq).1;have hqk:q.k=k:=(qcF hq).1;obtain⟨b1,b2,b3,p1,p2,p3⟩:=hh.find hn hq;obtain⟨ad2,cap2,hv',hok⟩:=h3.form;have roE:∀(q':qQ) (gh':Nat→Nat→Option Value) (F':Nat→Prop) (nb':List Nat),q'.k=k→qhX W F' gh' nb' (pset q' ps):=fun q' gh' F' nb' e r hr hrk=>by
  rcases qhf hr with rfl|hr
  ·omega
  ·have:=hro r hr;omega
 subst hqk;rcases qje hn hh hq hs hlo hx with⟨h0,_,hv0⟩|⟨xs0,hd,c0,c4,c1,c2,c3,k0,k1,k2,k3,k4,k5,k6,k7⟩
 ·subst hv0;have hk0:qaA (fun b=>b∈nb) w W:=hK.mono fun b hb=>by cases hb
  have hfresh:∀b∈v'.ownBlock.toList,w.heap.size≤b∧b<W.heap.size:=fun b hb=>by
   obtain⟨h,h'⟩:=h4 b (qoX hb);rcases h with h|h
   ·cases h
   ·exact⟨h,h'⟩
  have keepF:∀b,F b→b<w.heap.size→F b∧b<W.heap.size∧W.heap[b]? =w.heap[b]? :=fun b hb hl=>⟨hb,zaq hl hK.size,hK.block b hl (by simp[Value.ownBlock])⟩;have hh':=qL.keep keepF (gh':=gh) rfl (fun b hb hl=>hK.block b hl (by simp[Value.ownBlock])) hh;obtain⟨d1,d2,d3,q1,q2,q3⟩:=hh'.add hn hq h3;have hperm:(d1++((d2++v'.ownBlock.toList)++d3)).Perm (v'.ownBlock.toList++nb):=by
   rw[q1];refine List.perm_iff_count.2 fun x=>?_;simp only[List.count_append];omega
  rw[if_pos h0];refine⟨_,_,q2.1,by rw[←qbW];exact q3,.inr ⟨by show(0:Int)≤(q.rows.length:Int);omega,zaF _,by show(0:Int)≤(zs.length:Int);omega,ad2,zs.length,cap2,?_,hok,zaF _,.inl ?_⟩,hperm.nodup_iff.2 (zai.2 ⟨by cases v'.ownBlock<;>simp,hnb,fun x hx y hy e=>?_⟩),fun b hb=>?_,hk0⟩
  ·show qfr gh q.k q.rows.length v' q.k ((q.rows.length:Int)).toNat=_;rw[zat,qd3,hv']
  ·show v'=sliced ad2 0 ((zs.length:Int)).toNat cap2 _;rw[zat,qbL];exact hv'
  ·subst e;have:=(hfresh x hx).1;have:=hlt x hy;omega
  ·rcases zaf.1 (hperm.mem_iff.1 hb)with h|h
   ·exact .inl (hfresh b h)
   ·exact .inr h
 ·obtain⟨hd',d1,d2,d3,g1,g2,g3,g4⟩:=p2.row k1;rw[k2]at g1;injection g1 with g1;subst g1;have hd2:d2=hd.ownBlock.toList:=by obtain⟨_,_,e3,_⟩:=g3;exact e3
  have hvb:∀b,v.ownBlock=some b→b∈d2:=fun b hb=>by rw[hd2,←k5,hb];simp
  have hK2:qaA (fun b=>b∈d2) w W:=hK.mono hvb;have hc2:∀b∈d2,b∈nb:=fun b hb=>by
   rw[p1,g2];exact zaa _ (zab _ (zaa _ (zab _ hb)))
  have hk0:qaA (fun b=>b∈nb) w W:=hK2.mono hc2;have keepF:∀b,F b→b<w.heap.size→F b∧b<W.heap.size∧W.heap[b]? =w.heap[b]? :=fun b hb hl=>⟨hb,zaq hl hK.size,hK2.block b hl (fun hm=>hF0 b hb (hc2 b hm))⟩;have hn':(b1++((d1++(d2++d3))++b3)).Nodup:=by rw[←g2,←p1];exact hnb
  have o1:∀b,b∈b1∨b∈b3→b<w.heap.size→W.heap[b]? =w.heap[b]? :=fun b hb hl=>hK2.block b hl fun hm=>by
   simp only[zai,zaf]at hn';obtain⟨_,⟨⟨_,⟨_,_,k1⟩,k2⟩,_,k3⟩,k4⟩:=hn';rcases hb with hb|hb
   ·exact k4 b hb b (.inl (.inr (.inl hm))) rfl
   ·exact k3 b (.inr (.inl hm)) b hb rfl
  have o2:∀b,b∈d1∨b∈d3→b<w.heap.size→W.heap[b]? =w.heap[b]? :=fun b hb hl=>hK2.block b hl fun hm=>by
   simp only[zai,zaf]at hn';obtain⟨_,⟨⟨_,⟨_,_,k1⟩,k2⟩,_,k3⟩,k4⟩:=hn';rcases hb with hb|hb
   ·exact k2 b hb b (.inl hm) rfl
   ·exact k1 b hm b hb rfl
  have hdead:=g4 W F gh none [] keepF (qaJ.refl _) rfl o2 rfl;have qdc:=qbA.add (p:= { q with rows:=q.rows.set s.1.toNat none }) hdead h3;have hgn:gh q.k (q.rows.set s.1.toNat none).length=none:=by
   obtain⟨_,_,_,g,_⟩:=p2;exact g _ (by simp)
  have hout:=qg1 (hd:=v') hgn;have hheap:=p3 W F _ { q with rows:=q.rows.set s.1.toNat none++[some zs] } _ keepF hout o1 rfl qdc;have hperm1:(b1++(((d1++([]++d3))++v'.ownBlock.toList)++b3)).Perm (v'.ownBlock.toList++(b1++(d1++(d3++b3)))):=List.perm_iff_count.2 fun x=>by
   simp only[List.count_append,List.count_nil];omega
  have hperm2:(b1++((d1++(d2++d3))++b3)).Perm (d2++(b1++(d1++(d3++b3)))):=List.perm_iff_count.2 fun x=>by
   simp only[List.count_append];omega
  have hn2:=hperm2.nodup_iff.1 hn';rw[zai]at hn2;have hrest:∀b∈b1++(d1++(d3++b3)),b∈nb:=fun b hb=>by
   rw[p1,g2];exact hperm2.mem_iff.2 (zaa _ hb)
  have hfresh:∀b∈v'.ownBlock.toList,(w.heap.size≤b∧b<W.heap.size)∨b∈d2:=fun b hb=>by
   obtain⟨h,h'⟩:=h4 b (qoX hb);rcases h with h|h
   ·exact .inr (hvb b h)
   ·exact .inl ⟨h,h'⟩
  rw[if_neg (by omega)];refine⟨_,_,hout.1,⟨hheap,roE _ _ _ _ rfl⟩,.inr ⟨by show(0:Int)≤(q.rows.length:Int);omega,zaF _,by show(0:Int)≤(zs.length:Int);omega,ad2,zs.length,cap2,?_,hok,zaF _,.inl ?_⟩,hperm1.nodup_iff.2 (zai.2 ⟨by cases v'.ownBlock<;>simp,hn2.2.1,fun x hx y hy e=>?_⟩),fun b hb=>?_,hk0⟩
  ·show qfr gh q.k (q.rows.set s.1.toNat none).length v' q.k ((q.rows.length:Int)).toNat=_;rw[zat,List.length_set,qd3,hv']
  ·show v'=sliced ad2 0 ((zs.length:Int)).toNat cap2 _;rw[zat,qbL];exact hv'
  ·subst e;rcases hfresh x hx with h|h
   ·have:=hlt x (hrest x hy);omega
   ·exact hn2.2.2 x h x hy rfl
  ·rcases zaf.1 (hperm1.mem_iff.1 hb)with h|h
   ·exact(hfresh b h).imp id (hc2 b)
   ·exact .inr (hrest b h)
theorem qI.chunks {et:Nat}{e:Ty}{xs:List e.den}{v:Value}{bs:List Nat}(h:qI w F gh et e xs v bs):∃cells,w.ownsRow 0 et e.size v xs.length cells∧bs=v.ownBlock.toList∧qcP (qa6 w F gh e) e.size xs cells:=by
 obtain⟨cells,h1,h2,h3⟩:=h;exact⟨cells,h1,h2,h1.1,h3⟩
theorem qi2 {T:qo5}{f te bytes:Nat}{fn:Func}{ks:List (Nat×Nat×Ty)}{k:Nat}{e:Ty}{q:hden ks→List (Option (List e.den))}{u:hden ks→List (Option (List e.den))→hden ks}
  (hq:∀p,qcg k (qR ks p)=some ⟨k,te,e,q p⟩) (hu:∀p v,qR ks (u p v)=pset ⟨k,te,e,v⟩ (qR ks p)) (hro:ks.all (fun r=>decide (r.1<100))=true)
  (hf:P.funcs[f]? =some fn) (hb:fn.body.isSome=true) (hname:(fn.name== "runtime.NumGoroutine")=false) (hw:qmQ P f te e.size bytes) (hpos:0<e.size):
  qaX.okT P T f ⟨ks,[.v (.sl k e.size),.v (.int .i64),.v (.sl k e.size)],[.sl k e.size],fun p x=>(qkm bytes (q p) x.1 x.2.1 x.2.2.1).map fun r=>(u p r.1,(r.2,()))⟩:=by
 obtain⟨c,hc⟩:=zaE.1 hb;refine⟨fun as w=>qcO hf hc hname as w,fun w F gh p bs x p' y as hT hks hh hbs hnd hp hy=>?_⟩;obtain⟨s,i,t,⟨⟩⟩:=x;obtain⟨v1,r1,rfl,h1,v2,r2,rfl,h2,v3,r3,rfl,h3,rfl⟩:=hp;simp only at h1 h2 h3 hy hh;obtain⟨R,hR,hy⟩:=zao.1 hy;injection hy with e1 e2;subst e1 e2;have hkn:((qR ks p).map (·.k)).Nodup:=by rw[qck];exact hks
 have slOf:∀ {s:Int×(Int×Int)}{v:Value},qb3 w F gh (.sl k e.size) s v→qe2 gh k e.size s v:=fun {s} {v} h=>by
  obtain⟨v',hc,hr⟩:=h.1;have:v.cells.toList=[v]:=by rw[qaN (h.2.2 rfl)]
  rw[this]at hc;injection hc with hc;subst hc;exact hr
 have h1:=slOf h1;have h3:=slOf h3;obtain⟨rfl,_⟩:=q9.int (show q9 w F (.int .i64) i v2 from h2);unfold qkm at hR;split at hR;case h_2=>cases hR
 rename_i xs ys hx hyy;split at hR;case isFalse=>cases hR
 rename_i hcond;obtain⟨⟨c1,c2,c3⟩,⟨c4,c5,c6⟩,c7⟩:=hcond;obtain⟨j,rfl,hj⟩:=nat_of c1 c2;rw[zat]at hR;injection hR with hR;subst hR;have hF0:∀b,F b→b∉bs:=fun b hb hm=>(hbs b hm).1 hb;have hlt:∀b∈bs,b<w.heap.size:=fun b hm=>(hbs b hm).2;have hall:∀r∈qR ks p,r.k<100:=fun r hr=>by
  have h:r.k∈(qR ks p).map (·.k):=List.mem_map_of_mem hr;rw[qck]at h;obtain⟨x,hx,he⟩:=List.mem_map.1 h;have:=List.all_eq_true.1 hro x hx;rw[←he];simpa using this
 have hh0:qL w (fun b=>F b∧b<w.heap.size) gh (qR ks p) bs:=qL.keep (fun b hb hl=>⟨⟨hb,hl⟩,hl,rfl⟩) rfl (fun _ _ _=>rfl) hh;obtain⟨b1,b2,b3,p1,p2,_⟩:=hh0.find hkn (hq p);rcases qje hkn hh0 (hq p) h3 c5 hyy with⟨_,rfl,_⟩|⟨ys0,hd3,_,_,_,d2,_,t0,t1,t2,t3,t4,t5,t6,_⟩
 ·cases c3
 obtain⟨d1,g1,hne⟩:∃d1,qI w (fun b=>F b∧b<w.heap.size) gh te e xs v1 d1∧∀b,v1.ownBlock=some b→b∈bs∧v3.ownBlock≠some b:=by
  rcases qje hkn hh0 (hq p) h1 c4 hx with⟨_,rfl,rfl⟩|⟨xs0,hd1,_,_,_,d1,_,s0,s1,s2,s3,s4,s5,s6,_⟩
  ·exact⟨[],⟨[],⟨by simp,.inl ⟨rfl,rfl⟩⟩,rfl,fun i x h=>by cases h⟩,fun b hb=>by cases hb⟩
  ·refine⟨d1,s6,fun b hb=>⟨?_,fun hb3=>?_⟩⟩
   ·rw[s3,s4,←s5,hb];simp
   ·have hnd2:b2.Nodup:=(zai.1 (zai.1 (p1▸hnd)).2.1).1;have:=p2.uniq (b:=b) hnd2 (qbN s1).2 (qbN t1).2 s2 t2 (by rw[←s5,hb];simp) (by rw[←t5,hb3];simp);omega
 obtain⟨cs1,w1,e1,k1⟩:=g1.chunks;obtain⟨cs3,w3,e3,k3⟩:=t6.chunks;refine(hw w v1 v3 xs.length ys.length j cs1 cs3 w1 w3 (fun b hb=>(hne b hb).2) hj c7 (qfP.ones hpos k1.1 k1.2) (qfP.ones hpos k3.1 k3.2)).mono ?_;rintro en w' ⟨v',rfl,a1,a2,a3⟩;have keepF:∀b,(F b∧b<w.heap.size)→b<w.heap.size→(F b∧b<w.heap.size)∧b<w'.heap.size∧w'.heap[b]? =w.heap[b]? :=fun b hb hl=>⟨hb,zaq hl a2.size,a2.block b hl fun hm=>hF0 b hb.1 (hne b hm).1⟩;have hk:=((k1.take j hj).append k3).append (k1.drop j);have hl:(xs.take j++ys++xs.drop j).length=xs.length+ys.length:=by
  simp only[zag,zae,zal];omega
 have hz:qI w' (fun b=>F b∧b<w.heap.size) gh te e (xs.take j++ys++xs.drop j) v' v'.ownBlock.toList:=⟨_,by rw[hl];exact a1,rfl,fun i x hx=>(hk.2 i x hx).keep keepF (qaJ.refl _)⟩;obtain⟨gh',nb',m1,m2,m3,m4,m5,m6⟩:=qr3 hkn hh0 (hq p) hall hnd (fun b hb=>hF0 b hb.1) hlt h1 c4 hx a2 hz (fun b hb=>⟨a3 b hb,own_lt a1 b hb⟩);rw[hl]at m3;refine⟨[v'],gh',nb',rfl,m1,m4,fun b hb=>⟨(m5 b hb).symm.imp id (·.1),(m5 b hb).elim (·.2) fun h=>zaq (hlt b h) a2.size⟩,?_,⟨v',[],rfl,⟨⟨v',?_,m3⟩,fun h=>(by cases h),fun _=>?_⟩,rfl⟩,m6⟩
 ·rw[hu];refine qL.keep (fun b hb hl=>⟨⟨.inl hb.1,fun hm=>?_⟩,hl,rfl⟩) rfl (fun _ _ _=>rfl) m2;rcases m5 b hm with h|h
  ·omega
  ·exact hF0 b hb.1 h
 ·obtain⟨ad,cap,hv,_⟩:=hz.form;rw[qaN (v:=v') (by rintro⟨cs⟩ h;rw[hv]at h;cases h)]
 ·obtain⟨ad,cap,hv,_⟩:=hz.form;rintro⟨cs⟩ h;rw[hv]at h;cases h
end
end Go.Vi
namespace Go.Vi
open Go.RowKit Go.Lib
def qo4:List Value→Nat→List Value→List Value
 |xs,_,[]=>xs
 |xs,o,v::r=>qo4 (xs.set o v) (o+1) r
theorem qj5:(vs:List Value)→(o:Nat)→(xs:List Value)→(qo4 xs o vs).length=xs.length
 |[],_,_=>rfl
 |v::r,o,xs=>by rw[qo4,qj5 r];simp
theorem qnB:(vs:List Value)→(o:Nat)→(xs:List Value)→(k:Nat)→k<xs.length→(qo4 xs o vs)[k]? =if o≤k∧k<o+vs.length then vs[k-o]? else xs[k]?
 |[],o,xs,k,_=>by rw[qo4,if_neg (by simp)]
 |v::r,o,xs,k,hk=>by
  rw[qo4,qnB r (o+1) _ k (by simpa using hk)];by_cases h1:o+1≤k∧k<o+1+r.length
  ·rw[if_pos h1,if_pos (by simp;omega),show k-o=(k-(o+1))+1 by omega];rfl
  ·rw[if_neg h1,List.getElem?_set];by_cases h2:o=k
   ·subst h2;rw[if_pos rfl,if_pos hk,if_pos (by simp)];simp
   ·rw[if_neg h2,if_neg (by simp;omega)]
theorem qfR {e:TypeId}{size g n cap:Nat}:(vs:List Value)→(o:Nat)→{w:World}→{xs:List Value}→w.ownsRow 0 e size (.slice (some ⟨g,0,none⟩) n cap) n xs→
  (w.setCells g o vs).ownsRow 0 e size (.slice (some ⟨g,0,none⟩) n cap) n (qo4 xs o vs)∧qaA (fun b=>b∈[g]) w (w.setCells g o vs)
 |[],_,w,xs,h=>⟨h,qaA.refl _ _⟩
 |v::r,o,w,xs,h=>by
  obtain⟨h1,h2⟩:=h.stored o v;obtain⟨h3,h4⟩:=qfR r (o+1) h1;rw[World.setCells,qo4];exact⟨h3,((qaA.yt h2).mono fun k hk=>by injection hk with hk;subst hk;exact zar).trans h4⟩
theorem qjz {a b sz:Nat}(h:a<b):a*sz+sz≤b*sz:=by
 have:=zam sz (show a+1≤b from h);rwa [zaS,Nat.one_mul]at this
theorem qqU {α:Type}{R:α→List Value→Prop}{sz:Nat}{xs:List α}{cells:List Value}(h:qcP R sz xs cells) {i j:Nat}(hi:i<xs.length) (hj:j<xs.length):
  qcP R sz ((xs.set i xs[j]).set j xs[i]) (qo4 (qo4 cells (i*sz) ((cells.drop (j*sz)).take sz)) (j*sz) ((cells.drop (i*sz)).take sz)):=by
 have hci:=qjz (sz:=sz) hi;have hcj:=qjz (sz:=sz) hj;have hl:=h.1;have lX:((cells.drop (i*sz)).take sz).length=sz:=by simp;omega
 have lY:((cells.drop (j*sz)).take sz).length=sz:=by simp;omega
 refine⟨by rw[qj5,qj5];simpa using hl,fun t x hx=>?_⟩;have ht:t<xs.length:=by
  have:=(zaK.1 hx).1;simpa using this
 have hct:=qjz (sz:=sz) ht;have part:∀(m:Nat),m<xs.length→(∀k,k<sz→(qo4 (qo4 cells (i*sz) ((cells.drop (j*sz)).take sz)) (j*sz) ((cells.drop (i*sz)).take sz))[t*sz+k]? =cells[m*sz+k]?)→
   (((qo4 (qo4 cells (i*sz) ((cells.drop (j*sz)).take sz)) (j*sz) ((cells.drop (i*sz)).take sz)).drop (t*sz)).take sz)=(cells.drop (m*sz)).take sz:=fun m hm hk=>by
  refine List.ext_getElem? fun k=>?_;rw[zap,zap];by_cases hks:k<sz
  ·rw[if_pos hks,if_pos hks,zav,zav,hk k hks]
  ·rw[if_neg hks,if_neg hks]
 have get:∀k,k<sz→(qo4 (qo4 cells (i*sz) ((cells.drop (j*sz)).take sz)) (j*sz) ((cells.drop (i*sz)).take sz))[t*sz+k]? =if t=j then cells[i*sz+k]? else if t=i then cells[j*sz+k]? else cells[t*sz+k]? :=fun k hk=>by
  rw[qnB _ _ _ _ (by rw[qj5];omega),qnB _ _ _ _ (by omega),lX,lY];have away:∀m,m<xs.length→t≠m→¬(m*sz≤t*sz+k∧t*sz+k<m*sz+sz):=fun m hm hne hh=>by
   rcases Nat.lt_or_gt_of_ne hne with hlt|hgt
   ·have:=qjz (sz:=sz) hlt;omega
   ·have:=qjz (sz:=sz) hgt;omega
  by_cases e:t=j
  ·subst e;rw[if_pos ⟨by omega,by omega⟩,if_pos rfl,zap,if_pos (by omega),zav];congr 1;omega
  ·rw[if_neg (away j hj e),if_neg e];by_cases e2:t=i
   ·subst e2;rw[if_pos ⟨by omega,by omega⟩,if_pos rfl,zap,if_pos (by omega),zav];congr 1;omega
   ·rw[if_neg (away i hi e2),if_neg e2]
 by_cases e:t=j
 ·subst e;have:xs[i]=x:=by
   rw[List.getElem?_set,if_pos rfl,if_pos (by simpa using ht)]at hx;injection hx
  subst this;rw[part i hi fun k hk=>by rw[get k hk,if_pos rfl]];exact h.2 i _ (zac hi)
 ·rw[List.getElem?_set,if_neg (fun hh=>e hh.symm)]at hx;by_cases e2:t=i
  ·subst e2;have:xs[j]=x:=by
    rw[List.getElem?_set,if_pos rfl,if_pos (by simpa using ht)]at hx;injection hx
   subst this;rw[part j hj fun k hk=>by rw[get k hk,if_neg e,if_pos rfl]];exact h.2 j _ (zac hj)
  ·rw[List.getElem?_set,if_neg (fun hh=>e2 hh.symm)]at hx;rw[part t ht fun k hk=>by rw[get k hk,if_neg e,if_neg e2]];exact h.2 t x hx
noncomputable def qvQ {α:Type}(xs:List α) (i j:Int):List α:=match xs[i.toNat]?,xs[j.toNat]? with
 |some a,some b=>(xs.set i.toNat b).set j.toNat a
 |_,_=>xs
noncomputable def qu2 {ks:List (Nat×Nat×Ty)}{α:Type}(q:hden ks→List (Option (List α))) (u:hden ks→List (Option (List α))→hden ks) (s:Int×(Int×Int)) (p:hden ks) (x:Int×(Int×Unit)):Option (hden ks×Unit):=
 match qN (q p) s.1 with
 |some xs=>if(0≤x.1∧x.1<s.2.2)∧(0≤x.2.1∧x.2.1<s.2.2)then some (u p ((q p).set s.1.toNat (some (qvQ xs x.1 x.2.1))),())else none
 |none=>none
theorem qvd {P:Program}{w:World}{F:Nat→Prop}{gh:Nat→Nat→Option Value}{ks:List (Nat×Nat×Ty)}{k te:Nat}{e:Ty}{q:hden ks→List (Option (List e.den))}{u:hden ks→List (Option (List e.den))→hden ks}{s:Int×(Int×Int)}{v:Value}{fs:Nat}(gS:Bool)
  (hq:∀p,qcg k (qR ks p)=some ⟨k,te,e,q p⟩) (hu:∀p v,qR ks (u p v)=pset ⟨k,te,e,v⟩ (qR ks p)) (hro:ks.all (fun r=>decide (r.1<100))=true)
  (hx:∀args W,(callFunc fs args).run P W=((Extern.ReflectliteSwapper.swap gS args).run P W).andThen fun v w'=>.ok (.value v) w') {ie:TypeInfo}(hie:P.info? te=some ie) (hsz:ie.size=e.size) (hagg:∀w,(isAgg te).run P w=.ok true w)
  (hs:qe2 gh k e.size s v) (hlo:s.2.1=0):qdT P w F gh ks [.int .i64,.int .i64] [] (qu2 q u s) (.func (.func fs) #[] #[v,typeHandle P te]):=by
 refine⟨fs,_,rfl,fun w' F' gh' p bs x p' y as hk hg hn hh hb hbn hx2 hy=>.inr ?_⟩;obtain⟨i,j,⟨⟩⟩:=x;obtain⟨z1,r1,rfl,h1,z2,r2,rfl,h2,rfl⟩:=hx2;obtain⟨rfl,_⟩:=q9.int (show q9 w' F' (.int .i64) i z1 from h1);obtain⟨rfl,_⟩:=q9.int (show q9 w' F' (.int .i64) j z2 from h2);unfold qu2 at hy;split at hy;case h_2=>cases hy
 rename_i xs hrw;split at hy;case isFalse=>cases hy
 rename_i hc;injection hy with hy;injection hy with hy _;subst hy;obtain⟨⟨i0,i1⟩,j0,j1⟩:=hc;simp only at i0 i1 j0 j1;have hkn:((qR ks p).map (·.k)).Nodup:=by rw[qck];exact hn
 obtain⟨b1,b2,b3,p1,p2,p3⟩:=hh.find hkn (hq p);obtain⟨hd,d1,d2,d3,g1,g2,g3,g4⟩:=p2.row hrw;rcases hs.mono hg with⟨h0,_,h3,_⟩|⟨s0,_,_,ad,n,cap,s3,s4,s5,s6⟩
 ·omega
 have g1:gh' k s.1.toNat=some hd:=g1;rw[g1]at s3;injection s3 with s3;subst s3;obtain⟨g,rfl⟩:∃g,ad=some ⟨g,0,none⟩:=by
  rcases s4.2.2 with h|h
  ·omega
  ·exact h
 have hv:v=.slice (some ⟨g,0,none⟩) s.2.2.toNat cap:=by
  rcases s6 with h|⟨h,_⟩
  ·rw[h,hlo];exact qbL ..
  ·omega
 obtain⟨cells,ho,hbs,hch⟩:=g3.chunks;have hxn:xs.length=n:=by
  obtain⟨_,_,e1,_⟩:=g3.form;injection e1 with _ e1 _;exact e1.symm
 subst hxn;have ho:w'.ownsRow 0 te e.size (.slice (some ⟨g,0,none⟩) xs.length cap) xs.length cells:=ho;have hch:qcP (qa6 w' F' gh' e) e.size xs cells:=hch;obtain⟨a,rfl⟩:=Int.eq_ofNat_of_zero_le i0;obtain⟨b,rfl⟩:=Int.eq_ofNat_of_zero_le j0;have ha:a<xs.length:=by omega
 have hb':b<xs.length:=by omega
 have hca:=qjz (sz:=e.size) ha;have hcb:=qjz (sz:=e.size) hb';have hl:=hch.1;have hlen:∀ {x:e.den}{c:List Value},qa6 w' F' gh' e x c→c.length=e.size:=fun h=>h.length;have one:∀m,m<xs.length→∀v∈(cells.drop (m*e.size)).take e.size,v.oneCell'=true:=fun m hm v hv=>(hch.2 m _ (zac hm)).oneCell v hv;have cell:∀m,m<xs.length→∀k v,((cells.drop (m*e.size)).take e.size)[k]? =some v→w'.cell? ⟨g,0+m*ie.size+k,none⟩=some v:=fun m hm k v hk=>by
  rw[zap]at hk;split at hk
  ·rename_i hks;rw[zav]at hk;have:=qjz (sz:=e.size) hm;rw[hsz,zaP,ho.cellAt _ (by omega),hk]
  ·cases hk
 have frz:∀m k,w'.frozen? ⟨g,0+m*ie.size+k,none⟩=false:=fun m k=>ho.frozenAt _;have hrun:=run_swap_cells (P:=P) gS te ie hie hagg g 0 s.2.2.toNat cap a b (by omega) (by omega) ((cells.drop (a*e.size)).take e.size) ((cells.drop (b*e.size)).take e.size) (by simp;omega) (by simp;omega)
  (one a ha) (one b hb') w' (cell a ha) (cell b hb') (fun k _=>frz a k) (fun k _=>frz b k)
 obtain⟨o1,k1⟩:=qfR ((cells.drop (b*e.size)).take e.size) (0+a*ie.size) ho;obtain⟨o2,k2⟩:=qfR ((cells.drop (a*e.size)).take e.size) (0+b*ie.size) o1;have hK:=k1.trans k2;rw[hsz,zaP,zaP]at hrun o2 hK;clear k1 k2 o1;generalize (w'.setCells g (a*e.size) ((cells.drop (b*e.size)).take e.size)).setCells g (b*e.size) ((cells.drop (a*e.size)).take e.size)=W at hrun o2 hK;have hbg:d2=[g]:=by rw[hbs];rfl
 have hsw:qvQ xs (a:Int) (b:Int)=(xs.set a xs[b]).set b xs[a]:=by
  unfold qvQ;simp only[zat,zac ha,zac hb']
 rw[←hbg]at hK;have hc2:∀b∈d2,b∈bs:=fun b hb=>by
  rw[p1,g2];exact zaa _ (zab _ (zaa _ (zab _ hb)))
 refine⟨.tuple #[],W,?_,[],gh',bs,rfl,qaJ.refl _,hbn,fun b hm=>⟨.inl hm,zaq (hb b hm).2 hK.size⟩,?_,rfl,hK.mono hc2⟩
 ·rw[hx];show((Extern.ReflectliteSwapper.swap gS #[.int .i64 a,.int .i64 b,v,typeHandle P te]).run P w').andThen _=_;rw[hv,hrun];rfl
 have keepF:∀c,F' c→c<w'.heap.size→F' c∧c<W.heap.size∧W.heap[c]? =w'.heap[c]? :=fun c hc hl=>⟨hc,zaq hl hK.size,hK.block c hl (fun hm=>(hb c (hc2 c hm)).1 hc)⟩;have hn':(b1++((d1++(d2++d3))++b3)).Nodup:=by rw[←g2,←p1];exact hbn
 have o1':∀c,c∈b1∨c∈b3→c<w'.heap.size→W.heap[c]? =w'.heap[c]? :=fun c hc hl=>hK.block c hl fun hm=>by
  simp only[zai,zaf]at hn';obtain⟨_,⟨⟨_,⟨_,_,k1⟩,k2⟩,_,k3⟩,k4⟩:=hn';rcases hc with hc|hc
  ·exact k4 c hc c (.inl (.inr (.inl hm))) rfl
  ·exact k3 c (.inr (.inl hm)) c hc rfl
 have o2':∀c,c∈d1∨c∈d3→c<w'.heap.size→W.heap[c]? =w'.heap[c]? :=fun c hc hl=>hK.block c hl fun hm=>by
  simp only[zai,zaf]at hn';obtain⟨_,⟨⟨_,⟨_,_,k1⟩,k2⟩,_,k3⟩,k4⟩:=hn';rcases hc with hc|hc
  ·exact k2 c hc c (.inl hm) rfl
  ·exact k1 c hm c hc rfl
 have hc2':=qqU hch ha hb';have hrow2:=g4 W F' gh' (some (qvQ xs (a:Int) (b:Int))) d2 keepF (qaJ.refl _) rfl o2' ⟨_,by rw[hsw];simpa using o2,hbs,fun t x hx=>by
  rw[hsw]at hx;exact(hc2'.2 t x hx).keep keepF (qaJ.refl _)⟩
 have hheap:=p3 W F' gh' _ _ keepF ⟨qaJ.refl _,fun _ _=>rfl⟩ o1' rfl hrow2;rw[←g2,←p1]at hheap;have hfin:qL W F' gh' (qR ks (u p ((q p).set s.1.toNat (some (qvQ xs (a:Int) (b:Int)))))) bs:=by
  rw[hu];exact⟨hheap,fun r hr hrk=>by
   have:r.k∈(qR ks (u p ((q p).set s.1.toNat (some (qvQ xs (a:Int) (b:Int)))))).map (·.k):=by rw[hu];exact List.mem_map_of_mem hr
   rw[qck]at this;obtain⟨z,hz,he⟩:=List.mem_map.1 this;have:=List.all_eq_true.1 hro z hz;have:z.1<100:=by simpa using this
   omega⟩
 exact qL.keep (fun c hc hl=>⟨⟨.inl hc,fun hm=>(hb c hm).1 hc⟩,hl,rfl⟩) rfl (fun _ _ _=>rfl) hfin
section
open Go.Extern Go.Extern.Rtype
variable {P:Program}{t e t0:Nat}{i0:TypeInfo}
theorem qvu (hun:∀w,(under t).run P w=.ok (t0,i0) w) (hd:i0.desc=.slice e) (w:World):(kind t).run P w=.ok 23 w:=by
 simp[kind,hun,hd,Result.andThen]
theorem qqN (hun:∀w,(under t).run P w=.ok (t0,i0) w) (hd:i0.desc=.slice e) (p:Option Addr) (n c:Nat) (w:World):
  (ReflectliteValue.unpack (.iface t (.slice p n c))).run P w=.ok (.agg #[typeHandle P t,.pointer (some ⟨w.heap.size,0,none⟩),.int .u64 151]) (w.alloc (.cells #[.slice p n c] t)):=by
 simp[ReflectliteValue.unpack,ReflectliteValue.mk,newVar,newRow,handle,qvu hun hd,Result.andThen,Value.cells,ReflectliteValue.flagIndir]
theorem rn_len (hun:∀w,(under t).run P w=.ok (t0,i0) w) (hd:i0.desc=.slice e) (hu:P.underlying t=some (.slice e)) (hpk:P.packed t=false) (a:Addr) (p:Option Addr) (n c:Nat) (w:World) (ha:w.cell? a=some (.slice p n c)):
  (ReflectliteValue.method (ReflectliteValue.valueError "reflectlite.Value.Len" 0) ReflectliteValue.len #[.agg #[typeHandle P t,.pointer (some a),.int .u64 151]]).run P w=.ok (.int .i64 n) w:=by
 rw[rl_method];simp only[Sem.run_bind,run_parts t a hpk w,Result.andThen];simp[handleType,typeHandle,ReflectliteValue.len,hun,hd,loadVar,isAgg,underlying,hu,ha,Builtin.len_,goInt,Result.andThen]
theorem qjb {ie:TypeInfo}(hun:∀w,(under t).run P w=.ok (t0,i0) w) (hd:i0.desc=.slice e) (hie:P.info? e=some ie) (ke:Nat) (hke:∀w,(kind e).run P w=.ok ke w)
  (p:Option Addr) (n c:Nat) (f:Nat) (hf:P.funcs.findIdx? (·.name== "internal/reflectlite" ++ ".Swapper$" ++toString (swapperK n ie ke))=some f) (w:World):
  (ReflectliteSwapper.swapper "internal/reflectlite" (ReflectliteValue.valueError "Swapper") #[.iface t (.slice p n c)]).run P w
   =.ok (.func (.func f) #[] (if swapperK n ie ke≤2 then #[]else #[.slice p n c,typeHandle P e])) w:=by
 have hel:∀w,(elem? t).run P w=.ok (some e) w:=fun w=>by simp[elem?,hun,hd,Result.andThen]
 rw[rl_swapper];simp only[Sem.run_bind,hel,Result.andThen,rl_info e ie hie,hke,handle,Sem.run_pure];change Sem.run P (ReflectliteSwapper.literal "internal/reflectlite" (swapperK n ie ke) (if swapperK n ie ke≤2 then #[]else #[.slice p n c,typeHandle P e])) w=_;simp at hf;simp[ReflectliteSwapper.literal,hf,Result.andThen]
end
theorem qsm {P:Program}{w:World}{F:Nat→Prop}{gh:Nat→Nat→Option Value}{ks:List (Nat×Nat×Ty)}{ts us:List Ty}{f:Nat}{caps:Array Value}:qdT P w F gh ks ts us (fun _ _=>none) (.func (.func f) #[] caps):=
 ⟨f,caps,rfl,fun _ _ _ _ _ _ _ _ _ _ _ _ _ _ _ _ h=>by cases h⟩
end Go.Vi
namespace Go.Vi
theorem qd8 {S R:Type}(n:Nat) (step:(S→Option R)→S→Option R) (s:S):qaE (n+1) step s=step (qaE n step) s:=rfl
theorem qeI {S R:Type}{step:(S→Option R)→S→Option R}(m:S→Nat) (I:S→Prop) (out:S→R) (h:∀(ih:S→Option R) (s:S),I s→(∀s',I s'→m s'<m s→ih s'=some (out s'))→step ih s=some (out s)):∀(n:Nat) (s:S),I s→m s<n→qaE n step s=some (out s)
 |0,s,_,hm=>absurd hm (Nat.not_lt_zero _)
 |n+1,s,hI,hm=>h (qaE n step) s hI fun s' hI' hm'=>qeI m I out h n s' hI' (by omega)
theorem qf {α:Type}(x:α):qp (some x)=true:=by rw[qaI];rfl
theorem qg {α:Type}(x d:α):qy (some x) d=x:=by rw[qbh];rfl
theorem qim {z:Int}(h1: -9223372036854775808≤z) (h2:z<9223372036854775808):IntKind.wrap .i64 z=z:=by
 simp[IntKind.wrap,IntKind.signed,IntKind.bits];split<;>omega
theorem qa3 {α:Type}{c:Bool}{a b:α}(h:c=true):(bif c then a else b)=a:=by rw[h];rfl
theorem qa7 {α:Type}{c:Bool}{a b:α}(h:c=false):(bif c then a else b)=b:=by rw[h];rfl
theorem qa4 (x y:Int):eqI x y=decide (x=y):=by rw[qcc];rfl
theorem qaM (x y:Int):neI x y= !decide (x=y):=by rw[qkd];rfl
theorem qpo (x y:List UInt8):eqS x y=decide (x=y):=by rw[qpn];by_cases h:x=y<;>simp[h]
theorem qum {α:Type}(c:Bool) (a b:Option α):(bif c then a else b)=if c=true then a else b:=by cases c<;>rfl
theorem quN (c d:Bool):(bif c then c else d)=(c||d):=by cases c<;>rfl
theorem condB (c a b:Bool):(bif c then a else b)=((c&&a)||(!c&&b)):=by cases c<;>simp
theorem qg6 {α:Type}{xs:List α}{i:Nat}{d x:α}(h:xs[i]? =some x):qJ xs (i:Int) d=x:=by
 rw[qhk];simp[List.getD,h]
theorem qvJ {i n:Nat}(h:i<n):inB (i:Int) (n:Int)=true:=by
 rw[qf4];simp;omega
end Go.Vi
namespace Go.Vi
theorem qan (x y:Int):ltI x y=decide (x<y):=qbz x y
theorem qdX (x y:Int):leI x y=decide (x≤y):=qdZ x y
theorem qbG (i n:Int):inB i n=decide (0≤i∧i<n):=by rw[qf4];simp
theorem qdv (l h n:Int):inS l h n=decide (0≤l∧l≤h∧h≤n):=by rw[qhS];simp
theorem qbK {x y:Int}(h1: -9223372036854775808≤x+y) (h2:x+y<9223372036854775808):qaj .i64 x y=x+y:=by rw[qjW,qim h1 h2]
theorem qby {x y:Int}(h1: -9223372036854775808≤x-y) (h2:x-y<9223372036854775808):qaF .i64 x y=x-y:=by rw[qjY,qim h1 h2]
theorem qvz {x:Int}(h1: -9223372036854775808≤x) (h2:x<9223372036854775808):qcE .i64 x=x:=by rw[qiF,qim h1 h2]
theorem iquo64 {x y:Int}(hx:0≤x) (hy:0<y) (h2:x<9223372036854775808):qth .i64 x y=x/y:=by
 have h3:x/y≤x:=Int.ediv_le_self _ hx;have h4:0≤x/y:=Int.ediv_nonneg hx (by omega);grind [qnd,qim]
theorem qa2 {i:Nat}(h:i<4611686018427387904):qaj .i64 (i:Int) 1=((i+1:Nat):Int):=by
 grind [qjW,qim]
theorem qkT {α:Type}{xs:List α}{i:Nat}(h:i<xs.length):ltI (i:Int) (qn xs)=true:=by grind [qbz,qv]
theorem qk9 {α:Type}{xs:List α}{i:Nat}(h:¬i<xs.length):ltI (i:Int) (qn xs)=false:=by grind [qbz,qv]
theorem qer {α:Type}{xs:List α}{i:Nat}(h:i<xs.length):inB (i:Int) (qn xs)=true:=by rw[qv];exact qvJ h
theorem qd1 {α:Type}{xs:List α}{i:Nat}(h:i<xs.length):xs.drop i=xs[i]::xs.drop (i+1):=zaB h
theorem qkz {α:Type}{xs:List α}{i:Nat}(h:i<xs.length):xs.take (i+1)=xs.take i++[xs[i]]:=by simp_all
theorem qb0 {α:Type}{xs:List α}{i:Nat}(d:α) (h:i<xs.length):qJ xs (i:Int) d=xs[i]:=qg6 (zac h)
theorem qj8 {α β:Type}{xs:List α}{ys:List β}{b:Nat}(h:(xs.length+ys.length)*b≤140737488355328):qc1 (qn xs) (qn ys) b=true:=by
 grind [qgY,qv]
theorem qtH {α:Type}(xs:List α) (i:Nat):qb6 xs 0 (i:Int)=xs.take i:=by
 rw[qeL];simp
theorem qup (n:Int):IntKind.wrap .u64 n=n%18446744073709551616:=by simp[IntKind.wrap,IntKind.signed,IntKind.bits]
end Go.Vi
namespace Go.Vi
def Ret {α:Type}(P:α→Prop) (o:Option α):Prop:=∃r,o=some r∧P r
theorem Ret.mk {α:Type}{P:α→Prop}{r:α}(h:P r):Ret P (some r):=⟨r,rfl,h⟩
theorem Ret.mono {α:Type}{P Q:α→Prop}{o:Option α}(h:Ret P o) (hq:∀r,P r→Q r):Ret Q o:=by
 obtain⟨r,e,p⟩:=h;exact⟨r,e,hq r p⟩
theorem Ret.lt {α β:Type}{P:α→Prop}{v:β}{f:β→Option α}(h:∀c,c=v→Ret P (f c)):Ret P (let c:=v;f c):=h v rfl
theorem Ret.J {α β:Type}{P:α→Prop}{v:β}{f:β→Option α}(h:∀y,y=v→Ret P (f y)):Ret P (qT v f):=by grind [qak]
theorem Ret.R {α β:Type}{P:α→Prop}{n:Nat}{v:β}{f:β→Option α}(h:∀y,y=v→Ret P (f y)):Ret P (qbl n v f):=by grind [qdn]
theorem Ret.Jv {α β:Type}{P:α→Prop}{v:β}{f:β→Option α}(h:Ret P (f v)):Ret P (qT v f):=by rw[qak];exact h
theorem Ret.Rv {α β:Type}{P:α→Prop}{n:Nat}{v:β}{f:β→Option α}(h:Ret P (f v)):Ret P (qbl n v f):=by rw[qdn];exact h
theorem Ret.G {α:Type}{P:α→Prop}{c:Bool}{a b:Option α}(hc:c=true) (h:Ret P a):Ret P (bif c then a else b):=by grind
theorem Ret.F {α:Type}{P:α→Prop}{c:Bool}{a b:Option α}(hc:c=false) (h:Ret P b):Ret P (bif c then a else b):=by grind
theorem Ret.B {α:Type}{P:α→Prop}{c:Bool}{a b:Option α}(ht:c=true→Ret P a) (hf:c=false→Ret P b):Ret P (bif c then a else b):=by
 grind
theorem Ret.it {S R:Type}{P:R→Prop}{step:(S→Option R)→S→Option R}(I:Nat→S→Prop): {N:Nat}→{m:Nat}→{s:S}→I m s→m<N→(∀k s ih,k<N→I k s→(∀k' s',k'<k→I k' s'→Ret P (ih s'))→Ret P (step ih s))→Ret P (qaE N step s)
 |N+1,m,s,h0,hN,hs=>hs m s (qaE N step) hN h0 fun k' s' hk h=>Ret.it I h (by omega) fun k s ih hk=>hs k s ih (by omega)
section
variable {α:Type}{q:List (Option (List α))}{i j:Int}{r r':List α}
theorem qP (h:qN q i=some r):0≤i∧i<qn q:=by
 grind [qa9,qv]
theorem qar (h:qN q i=some r):qN (qdD q i r') i=some r':=by
 grind [qec,qa9]
theorem qcu (hi:0≤i) (hn:j≠i):qN (qdD q i r') j=qN q j:=by
 grind [qec,qa9]
theorem qc7:qN (qdc q r) (qn q)=some r:=by
 grind [qbW,qa9,qv]
theorem qeh (h:qN q i=some r):qN (qdc q r') i=some r:=by
 grind [qbW,qa9]
theorem qpg:qn (qdD q i r')=qn q:=by grind [qec,qv]
theorem qfx:qn (qdc q r')=qn q+1:=by grind [qbW,qv]
def Sl (q:List (Option (List α))) (h:Int×(Int×Int)) (xs:List α):Prop:=
 (h=(-1,(0,0))∧xs=[])∨∃r,qN q h.1=some r∧h.2.1=0∧h.2.2=(xs.length:Int)∧r.take xs.length=xs
variable {h:Int×(Int×Int)}{xs:List α}
theorem Sl.len (s:Sl q h xs):qaS h.2.2 h.2.1=(xs.length:Int):=by
 rw[qdF];rcases s with⟨rfl,rfl⟩|⟨r,_,h1,h2,_⟩;all_goals grind
theorem Sl.lo (s:Sl q h xs):h.2.1=0:=by
 rcases s with⟨rfl,_⟩|⟨_,_,h1,_⟩;all_goals grind
theorem Sl.hi (s:Sl q h xs):h.2.2=(xs.length:Int):=by
 rcases s with⟨rfl,rfl⟩|⟨_,_,_,h1,_⟩;all_goals grind
theorem Sl.row (s:Sl q h xs) {k:Nat}(hk:k<xs.length):∃r,qN q h.1=some r∧r.take xs.length=xs∧xs.length≤r.length:=by
 rcases s with⟨_,rfl⟩|⟨r,h0,_,_,h3⟩;all_goals grind
theorem qnl {r:List α}{n k:Nat}(h:r.take n=xs) (hk:k<xs.length):r[k]? =some xs[k]:=by
 grind
theorem qbp (k:Nat):qX 0 (k:Int)=(k:Int):=by rw[qed];omega
theorem Sl.get (s:Sl q h xs) {k:Nat}(hk:k<xs.length) (d:α) (e:List α):qJ (qy (qN q h.1) e) (qX h.2.1 (k:Int)) d=xs[k]:=by
 obtain⟨r,h0,h1,_⟩:=s.row hk;rw[h0,qg,s.lo,qbp];exact qg6 (qnl h1 hk)
theorem Sl.alive (s:Sl q h xs) {k:Nat}(hk:k<xs.length):qp (qN q h.1)=true∧leI 0 h.1=true∧0≤h.1:=by
 obtain⟨r,h0,h1⟩:=s.row hk;refine⟨by rw[h0,qf],?_,(qP h0).1⟩;rw[qdX];exact decide_eq_true (qP h0).1
theorem Sl.set (s:Sl q h xs) {k:Nat}(hk:k<xs.length) (v:α) (e:List α):Sl (qdD q h.1 (qdz (qy (qN q h.1) e) (qX h.2.1 (k:Int)) v)) h (xs.set k v):=by
 obtain⟨r,h0,h1,h2⟩:=s.row hk;refine .inr ⟨_,qar h0,s.lo,by rw[List.length_set];exact s.hi,?_⟩;rw[h0,qg,s.lo,qbp,qbv,List.length_set];grind [List.take_set]
theorem Sl.add (s:Sl q h xs):Sl (qdc q r') h xs:=by
 rcases s with s|⟨r,h0,h1⟩
 ·exact .inl s
 ·exact .inr ⟨r,qeh h0,h1⟩
theorem Sl.new:Sl (qdc q xs) (qn q,(0,qn xs)) xs:= .inr ⟨xs,qc7,rfl,qv xs,List.take_length⟩
theorem Sl.nil:Sl q (-1,(0,0)) []:= .inl ⟨rfl,rfl⟩
theorem Sl.lt (s:Sl q h xs):h.1<qn q:=by
 rcases s with⟨rfl,_⟩|⟨r,h0,_⟩
 ·grind [qv]
 ·exact(qP h0).2
theorem Sl.read (s:Sl q h xs):qcJ q h=some xs:=by
 rw[qls];rcases s with⟨rfl,rfl⟩|⟨r,h0,h1,h2,h3⟩
 ·rfl
 ·have hp:=(qP h0).1;rw[if_neg (by omega),←qa9,h0,h1,h2];simp[h3]
end
def Kp {α:Type}(P:Int→Prop) (q q':List (Option (List α))):Prop:=∀j,¬P j→∀r,qN q j=some r→qN q' j=some r
section
variable {α:Type}{q q' q2:List (Option (List α))}{h:Int×(Int×Int)}{xs r':List α}{P Q:Int→Prop}{i:Int}
theorem Kp.refl:Kp P q q:=fun _ _ _ h=>h
theorem Kp.add:Kp P q (qdc q r'):=fun _ _ _ h=>qeh h
theorem Kp.set (hi:0≤i) (hp:P i):Kp P q (qdD q i r'):=fun j hj r h=>by grind [qcu]
theorem Kp.trans (h1:Kp P q q') (h2:Kp P q' q2):Kp P q q2:=fun j hj r h=>h2 j hj r (h1 j hj r h)
theorem Kp.mono (h1:Kp P q q') (h2:∀j,P j→Q j):Kp Q q q':=fun j hj r h=>h1 j (fun e=>hj (h2 j e)) r h
theorem Sl.kp (s:Sl q h xs) (k:Kp P q q') (hn:0≤h.1→¬P h.1):Sl q' h xs:=by
 rcases s with s|⟨r,h0,h1⟩
 ·exact .inl s
 ·exact .inr ⟨r,k _ (hn (qP h0).1) _ h0,h1⟩
end
def Dis (l:List Int):Prop:=l.Pairwise fun a b=>a=b→a<0
theorem Dis.ins {l1 l2:List Int}{n:Int}(h:Dis (l1++l2)) (hn:∀a∈l1++l2,a<n):Dis (l1++[n]++l2):=by
 unfold Dis at *
 grind [List.pairwise_cons]
theorem Dis.nil:Dis []:=List.Pairwise.nil
theorem Dis.sub {l l':List Int}(h:Dis l) (hs:zaU l' l):Dis l':=List.Pairwise.sublist hs h
theorem Dis.perm {l l':List Int}(h:Dis l) (hp:List.Perm l l'):Dis l':=(hp.pairwise_iff (fun h e=>by omega)).1 h
theorem Dis.at {l:List Int}(h:Dis l) {i j:Nat}(hi:i<l.length) (hj:j<l.length) (hn:i≠j) (h0:0≤l[i]):l[j]≠l[i]:=fun e=>by
 grind [List.pairwise_iff_getElem,Dis]
theorem Dis.set {l:List Int}{k:Nat}{v:Int}(h:Dis l) (hk:k<l.length) (hv:v=l[k]∨v<0∨∀a∈l,a<v):Dis (l.set k v):=by
 rcases hv with hv|hv|hv
 ·simp_all
 ·grind [List.pairwise_iff_getElem,Dis]
 ·unfold Dis at *
  rw[List.pairwise_iff_getElem]at *
  grind [List.getElem_mem]
def L2 {α β:Type}(R:α→β→Prop) (hs:List α) (xs:List β):Prop:=hs.length=xs.length∧∀(k:Nat) (h1:k<hs.length) (h2:k<xs.length),R hs[k] xs[k]
theorem L2.nil {α β:Type}{R:α→β→Prop}:L2 R [] []:=⟨rfl,fun k h=>by cases h⟩
theorem L2.imp {α β:Type}{R R':α→β→Prop}{hs:List α}{xs:List β}(h:L2 R hs xs) (hr:∀(k:Nat) (h1:k<hs.length) (h2:k<xs.length),R hs[k] xs[k]→R' hs[k] xs[k]):L2 R' hs xs:=⟨h.1,fun k h1 h2=>hr k h1 h2 (h.2 k h1 h2)⟩
theorem L2.set {α β:Type}{R:α→β→Prop}{hs:List α}{xs:List β}{k:Nat}{a:α}{b:β}(h:L2 R hs xs) (hr:R a b):L2 R (hs.set k a) (xs.set k b):=by
 refine⟨by simp[h.1],fun j h1 h2=>?_⟩;rw[List.getElem_set,List.getElem_set];split
 ·exact hr
 ·exact h.2 j (by simpa using h1) (by simpa using h2)
theorem L2.cons {α β:Type}{R:α→β→Prop}{hs:List α}{xs:List β}{a:α}{b:β}:L2 R (a::hs) (b::xs)↔R a b∧L2 R hs xs:=by
 constructor
 ·intro h;exact⟨h.2 0 (by simp) (by simp),by simpa using h.1,fun k h1 h2=>h.2 (k+1) (by simpa using h1) (by simpa using h2)⟩
 ·rintro⟨h1,h2⟩;refine⟨by simp[h2.1],fun k k1 k2=>?_⟩;cases k with
  |zero=>exact h1
  |succ k=>exact h2.2 k (by simpa using k1) (by simpa using k2)
theorem L2.filter {α β:Type}{R:α→β→Prop}{f:α→Bool}{g:β→Bool}(hfg:∀a b,R a b→f a=g b): {hs:List α}→{xs:List β}→L2 R hs xs→L2 R (hs.filter f) (xs.filter g)
 |[],[],_=>L2.nil
 |[],_::_,h=>by cases h.1
 |_::_,[],h=>by cases h.1
 |a::hs,b::xs,h=>by
  obtain⟨h1,h2⟩:=L2.cons.1 h;rw[List.filter_cons,List.filter_cons,hfg _ _ h1];split
  ·exact L2.cons.2 ⟨h1,L2.filter hfg h2⟩
  ·exact L2.filter hfg h2
theorem L2.take {α β:Type}{R:α→β→Prop}: {hs:List α}→{xs:List β}→(k:Nat)→L2 R hs xs→L2 R (hs.take k) (xs.take k)
 |[],[],_,_=>by grind
 |[],_::_,_,h=>by cases h.1
 |_::_,[],_,h=>by cases h.1
 |_::_,_::_,0,_=>L2.nil
 |_::_,_::_,k+1,h=>L2.cons.2 ⟨(L2.cons.1 h).1,L2.take k (L2.cons.1 h).2⟩
theorem L2.drop {α β:Type}{R:α→β→Prop}: {hs:List α}→{xs:List β}→(k:Nat)→L2 R hs xs→L2 R (hs.drop k) (xs.drop k)
 |[],[],_,_=>by grind
 |[],_::_,_,h=>by cases h.1
 |_::_,[],_,h=>by cases h.1
 |_::_,_::_,0,h=>h
 |_::_,_::_,k+1,h=>L2.drop k (L2.cons.1 h).2
theorem L2.app {α β:Type}{R:α→β→Prop}: {hs hs':List α}→{xs xs':List β}→L2 R hs xs→L2 R hs' xs'→L2 R (hs++hs') (xs++xs')
 |[],_,[],_,_,h=>h
 |[],_,_::_,_,h,_=>by cases h.1
 |_::_,_,[],_,h,_=>by cases h.1
 |_::_,_,_::_,_,h,h'=>L2.cons.2 ⟨(L2.cons.1 h).1,L2.app (L2.cons.1 h).2 h'⟩
section
variable {α:Type}{g:α→α}{xs:List α}{i:Nat}
end
theorem qjV {α β:Type}{f:α→Option β}: {xs:List α}→{ys:List β}→(mapO f xs=some ys↔xs.length=ys.length∧∀k (h1:k<xs.length) (h2:k<ys.length),f xs[k]=some ys[k])
 |[],ys=>by
  grind [mapO]
 |x::xs,ys=>by
  simp only[mapO];constructor
  ·intro h;split at h
   ·rename_i y zs h1 h2;injection h with h;subst h;obtain⟨g1,g2⟩:=qjV.1 h2;grind
   ·cases h
  ·rintro⟨h1,h2⟩;cases ys with
   |nil=>cases h1
   |cons y ys=>
    have e1:f x=some y:=h2 0 (by simp) (by simp);have e2:mapO f xs=some ys:=qjV.2 ⟨by simpa using h1,fun k k1 k2=>h2 (k+1) (by simpa using k1) (by simpa using k2)⟩;rw[e1,e2]
theorem L2.mapO {α β:Type}{R:α→β→Prop}{f:α→Option β}{hs:List α}{xs:List β}(h:L2 R hs xs) (hf:∀a b,R a b→f a=some b):mapO f hs=some xs:=qjV.2 ⟨h.1,fun k h1 h2=>hf _ _ (h.2 k h1 h2)⟩
end Go.Vi
set_option linter.unusedSimpArgs false
set_option maxRecDepth 100000
namespace Go.Vi
noncomputable section
def qjB {α:Type}(d:α) (N:Nat) (x:((List α)×(Int×(Int×(((α×(α×Unit))→(Option (Int×Unit)))×Unit))))):(Option (Unit×((List α)×Unit))):=
 (qaE (S:=((List α)×(Int×Unit))) (R:=(Unit×((List α)×Unit))) N (fun ih0=>(fun p1=>(bif (ltI p1.2.1 x.2.2.1)then(qaE (S:=((List α)×(Int×Unit))) (R:=(Unit×((List α)×Unit))) N (fun ih2=>(fun p3=>(bif (((!(ltI x.2.1 p3.2.1))||(inB p3.2.1 (qn p3.1)))&&(((!(ltI x.2.1 p3.2.1))||(inB (qaF .i64 p3.2.1 1) (qn p3.1)))&&((!(ltI x.2.1 p3.2.1))||(qp (x.2.2.2.1 ((qJ p3.1 p3.2.1 d),((qJ p3.1 (qaF .i64 p3.2.1 1) d),())))))))then(bif ((ltI x.2.1 p3.2.1)&&(ltI (qy (x.2.2.2.1 ((qJ p3.1 p3.2.1 d),((qJ p3.1 (qaF .i64 p3.2.1 1) d),()))) (0,())).1 0))then(bif ((inB (qaF .i64 p3.2.1 1) (qn p3.1))&&((inB p3.2.1 (qn p3.1))&&((inB p3.2.1 (qn p3.1))&&(inB (qaF .i64 p3.2.1 1) (qn (qdz p3.1 p3.2.1 (qJ p3.1 (qaF .i64 p3.2.1 1) d)))))))then(ih2 ((qdz (qdz p3.1 p3.2.1 (qJ p3.1 (qaF .i64 p3.2.1 1) d)) (qaF .i64 p3.2.1 1) (qJ p3.1 p3.2.1 d)),((qaF .i64 p3.2.1 1),())))else none)else(ih0 (p3.1,((qaj .i64 p1.2.1 1),()))))else none))) (p1.1,(p1.2.1,())))else(some ((),(p1.1,())))))) (x.1,((qaj .i64 x.2.1 1),())))
def qhD {α:Type}(d:α) (N:Nat) (x:((List α)×(Int×(Int×(Int×(((α×(α×Unit))→(Option (Int×Unit)))×Unit)))))):(Option (Unit×((List α)×Unit))):=
 (qaE (S:=((List α)×(Int×Unit))) (R:=(Unit×((List α)×Unit))) N (fun ih0=>(fun p1=>(bif (ltI p1.2.1 x.2.2.2.1)then(bif ((inB (qaj .i64 x.2.2.1 p1.2.1) (qn p1.1))&&((inB (qaj .i64 x.2.1 p1.2.1) (qn p1.1))&&((inB (qaj .i64 x.2.1 p1.2.1) (qn p1.1))&&(inB (qaj .i64 x.2.2.1 p1.2.1) (qn (qdz p1.1 (qaj .i64 x.2.1 p1.2.1) (qJ p1.1 (qaj .i64 x.2.2.1 p1.2.1) d)))))))then(ih0 ((qdz (qdz p1.1 (qaj .i64 x.2.1 p1.2.1) (qJ p1.1 (qaj .i64 x.2.2.1 p1.2.1) d)) (qaj .i64 x.2.2.1 p1.2.1) (qJ p1.1 (qaj .i64 x.2.1 p1.2.1) d)),((qaj .i64 p1.2.1 1),())))else none)else(some ((),(p1.1,())))))) (x.1,(0,())))
def qeu {α:Type}(d:α) (N:Nat) (x:((List α)×(Int×(Int×(Int×(((α×(α×Unit))→(Option (Int×Unit)))×Unit)))))):(Option (Unit×((List α)×Unit))):=
 (qT (qaF .i64 x.2.2.1 x.2.1) (fun y0=>(qaE (S:=((List α)×(Int×(Int×Unit)))) (R:=(Unit×((List α)×Unit))) N (fun ih1=>(fun p2=>(bif (neI p2.2.1 p2.2.2.1)then(bif (bif (ltI p2.2.2.1 p2.2.1)then(qp (qhD d N (p2.1,((qaF .i64 x.2.2.1 p2.2.1),(x.2.2.1,(p2.2.2.1,(x.2.2.2.2.1,())))))))else(qp (qhD d N (p2.1,((qaF .i64 x.2.2.1 p2.2.1),((qaF .i64 (qaj .i64 x.2.2.1 p2.2.2.1) p2.2.1),(p2.2.1,(x.2.2.2.2.1,()))))))))then(ih1 ((bif (ltI p2.2.2.1 p2.2.1)then(qy (qhD d N (p2.1,((qaF .i64 x.2.2.1 p2.2.1),(x.2.2.1,(p2.2.2.1,(x.2.2.2.2.1,())))))) ((),(([]:List α),()))).2.1 else(qy (qhD d N (p2.1,((qaF .i64 x.2.2.1 p2.2.1),((qaF .i64 (qaj .i64 x.2.2.1 p2.2.2.1) p2.2.1),(p2.2.1,(x.2.2.2.2.1,())))))) ((),(([]:List α),()))).2.1),((bif (ltI p2.2.2.1 p2.2.1)then(qaF .i64 p2.2.1 p2.2.2.1)else p2.2.1),((bif (ltI p2.2.2.1 p2.2.1)then p2.2.2.1 else(qaF .i64 p2.2.2.1 p2.2.1)),()))))else none)else(bif (qp (qhD d N (p2.1,((qaF .i64 x.2.2.1 p2.2.1),(x.2.2.1,(p2.2.1,(x.2.2.2.2.1,())))))))then(some ((),((qy (qhD d N (p2.1,((qaF .i64 x.2.2.1 p2.2.1),(x.2.2.1,(p2.2.1,(x.2.2.2.2.1,())))))) ((),(([]:List α),()))).2.1,())))else none)))) (x.1,(y0,((qaF .i64 x.2.2.2.1 x.2.2.1),()))))))
def qkx {α:Type}(d:α) (N:Nat) (Fs:((List α)×(Int×(Int×(Int×(((α×(α×Unit))→(Option (Int×Unit)))×Unit)))))→(Option (Unit×((List α)×Unit)))) (x:((List α)×(Int×(Int×(Int×(((α×(α×Unit))→(Option (Int×Unit)))×Unit)))))):(Option (Unit×((List α)×Unit))):=
 (bif (eqI (qaF .i64 x.2.2.1 x.2.1) 1)then(qaE (S:=((List α)×(Int×(Int×Unit)))) (R:=(Unit×((List α)×Unit))) N (fun ih0=>(fun p1=>(bif (ltI p1.2.1 p1.2.2.1)then(bif (leI 0 1)then(qT (qcE .i64 (qlZ .u64 (qcE .u64 (qaj .i64 p1.2.1 p1.2.2.1)) 1)) (fun y2=>(bif ((inB y2 (qn p1.1))&&((inB x.2.1 (qn p1.1))&&(qp (x.2.2.2.2.1 ((qJ p1.1 y2 d),((qJ p1.1 x.2.1 d),()))))))then(ih0 (p1.1,((bif (ltI (qy (x.2.2.2.2.1 ((qJ p1.1 y2 d),((qJ p1.1 x.2.1 d),()))) (0,())).1 0)then(qaj .i64 y2 1)else p1.2.1),((bif (ltI (qy (x.2.2.2.2.1 ((qJ p1.1 y2 d),((qJ p1.1 x.2.1 d),()))) (0,())).1 0)then p1.2.2.1 else y2),()))))else none)))else none)else(qaE (S:=((List α)×(Int×Unit))) (R:=(Unit×((List α)×Unit))) N (fun ih2=>(fun p3=>(bif (ltI p3.2.1 (qaF .i64 p1.2.1 1))then(bif ((inB (qaj .i64 p3.2.1 1) (qn p3.1))&&((inB p3.2.1 (qn p3.1))&&((inB p3.2.1 (qn p3.1))&&(inB (qaj .i64 p3.2.1 1) (qn (qdz p3.1 p3.2.1 (qJ p3.1 (qaj .i64 p3.2.1 1) d)))))))then(ih2 ((qdz (qdz p3.1 p3.2.1 (qJ p3.1 (qaj .i64 p3.2.1 1) d)) (qaj .i64 p3.2.1 1) (qJ p3.1 p3.2.1 d)),((qaj .i64 p3.2.1 1),())))else none)else(some ((),(p3.1,())))))) (p1.1,(x.2.1,())))))) (x.1,(x.2.2.1,(x.2.2.2.1,()))))else(bif (eqI (qaF .i64 x.2.2.2.1 x.2.2.1) 1)then(qaE (S:=((List α)×(Int×(Int×Unit)))) (R:=(Unit×((List α)×Unit))) N (fun ih0=>(fun p1=>(bif (ltI p1.2.1 p1.2.2.1)then(bif (leI 0 1)then(qT (qcE .i64 (qlZ .u64 (qcE .u64 (qaj .i64 p1.2.1 p1.2.2.1)) 1)) (fun y2=>(bif ((inB x.2.2.1 (qn p1.1))&&((inB y2 (qn p1.1))&&(qp (x.2.2.2.2.1 ((qJ p1.1 x.2.2.1 d),((qJ p1.1 y2 d),()))))))then(ih0 (p1.1,((bif (!(ltI (qy (x.2.2.2.2.1 ((qJ p1.1 x.2.2.1 d),((qJ p1.1 y2 d),()))) (0,())).1 0))then(qaj .i64 y2 1)else p1.2.1),((bif (!(ltI (qy (x.2.2.2.2.1 ((qJ p1.1 x.2.2.1 d),((qJ p1.1 y2 d),()))) (0,())).1 0))then p1.2.2.1 else y2),()))))else none)))else none)else(qaE (S:=((List α)×(Int×Unit))) (R:=(Unit×((List α)×Unit))) N (fun ih2=>(fun p3=>(bif (ltI p1.2.1 p3.2.1)then(bif ((inB (qaF .i64 p3.2.1 1) (qn p3.1))&&((inB p3.2.1 (qn p3.1))&&((inB p3.2.1 (qn p3.1))&&(inB (qaF .i64 p3.2.1 1) (qn (qdz p3.1 p3.2.1 (qJ p3.1 (qaF .i64 p3.2.1 1) d)))))))then(ih2 ((qdz (qdz p3.1 p3.2.1 (qJ p3.1 (qaF .i64 p3.2.1 1) d)) (qaF .i64 p3.2.1 1) (qJ p3.1 p3.2.1 d)),((qaF .i64 p3.2.1 1),())))else none)else(some ((),(p3.1,())))))) (p1.1,(x.2.2.1,())))))) (x.1,(x.2.1,(x.2.2.1,()))))else(bif (leI 0 1)then(qT (qcE .i64 (qlZ .u64 (qcE .u64 (qaj .i64 x.2.1 x.2.2.2.1)) 1)) (fun y0=>(qT (qaj .i64 y0 x.2.2.1) (fun y1=>(qT (bif (ltI y0 x.2.2.1)then(qaF .i64 y1 x.2.2.2.1)else x.2.1) (fun y2=>(qT (bif (ltI y0 x.2.2.1)then y0 else x.2.2.1) (fun y3=>(qaE (S:=((List α)×(Int×(Int×Unit)))) (R:=(Unit×((List α)×Unit))) N (fun ih4=>(fun p5=>(bif (ltI p5.2.1 p5.2.2.1)then(bif (leI 0 1)then(qT (qcE .i64 (qlZ .u64 (qcE .u64 (qaj .i64 p5.2.1 p5.2.2.1)) 1)) (fun y6=>(bif ((inB (qaF .i64 (qaF .i64 y1 1) y6) (qn p5.1))&&((inB y6 (qn p5.1))&&(qp (x.2.2.2.2.1 ((qJ p5.1 (qaF .i64 (qaF .i64 y1 1) y6) d),((qJ p5.1 y6 d),()))))))then(ih4 (p5.1,((bif (!(ltI (qy (x.2.2.2.2.1 ((qJ p5.1 (qaF .i64 (qaF .i64 y1 1) y6) d),((qJ p5.1 y6 d),()))) (0,())).1 0))then(qaj .i64 y6 1)else p5.2.1),((bif (!(ltI (qy (x.2.2.2.2.1 ((qJ p5.1 (qaF .i64 (qaF .i64 y1 1) y6) d),((qJ p5.1 y6 d),()))) (0,())).1 0))then p5.2.2.1 else y6),()))))else none)))else none)else(qT (qaF .i64 y1 p5.2.1) (fun y6=>(qT ((ltI p5.2.1 x.2.2.1)&&(ltI x.2.2.1 y6)) (fun y7=>(bif (bif y7 then(qp (qeu d N (p5.1,(p5.2.1,(x.2.2.1,(y6,(x.2.2.2.2.1,())))))))else true)then(qT ((ltI x.2.1 p5.2.1)&&(ltI p5.2.1 y0)) (fun y8=>(bif (bif y8 then(qp (Fs ((bif y7 then(qy (qeu d N (p5.1,(p5.2.1,(x.2.2.1,(y6,(x.2.2.2.2.1,())))))) ((),(([]:List α),()))).2.1 else p5.1),(x.2.1,(p5.2.1,(y0,(x.2.2.2.2.1,())))))))else true)then(qT ((ltI y0 y6)&&(ltI y6 x.2.2.2.1)) (fun y9=>(bif (bif y9 then(qp (Fs ((bif y8 then(qy (Fs ((bif y7 then(qy (qeu d N (p5.1,(p5.2.1,(x.2.2.1,(y6,(x.2.2.2.2.1,())))))) ((),(([]:List α),()))).2.1 else p5.1),(x.2.1,(p5.2.1,(y0,(x.2.2.2.2.1,())))))) ((),(([]:List α),()))).2.1 else(bif y7 then(qy (qeu d N (p5.1,(p5.2.1,(x.2.2.1,(y6,(x.2.2.2.2.1,())))))) ((),(([]:List α),()))).2.1 else p5.1)),(y0,(y6,(x.2.2.2.1,(x.2.2.2.2.1,())))))))else true)then(some ((),((bif y9 then(qy (Fs ((bif y8 then(qy (Fs ((bif y7 then(qy (qeu d N (p5.1,(p5.2.1,(x.2.2.1,(y6,(x.2.2.2.2.1,())))))) ((),(([]:List α),()))).2.1 else p5.1),(x.2.1,(p5.2.1,(y0,(x.2.2.2.2.1,())))))) ((),(([]:List α),()))).2.1 else(bif y7 then(qy (qeu d N (p5.1,(p5.2.1,(x.2.2.1,(y6,(x.2.2.2.2.1,())))))) ((),(([]:List α),()))).2.1 else p5.1)),(y0,(y6,(x.2.2.2.1,(x.2.2.2.2.1,())))))) ((),(([]:List α),()))).2.1 else(bif y8 then(qy (Fs ((bif y7 then(qy (qeu d N (p5.1,(p5.2.1,(x.2.2.1,(y6,(x.2.2.2.2.1,())))))) ((),(([]:List α),()))).2.1 else p5.1),(x.2.1,(p5.2.1,(y0,(x.2.2.2.2.1,())))))) ((),(([]:List α),()))).2.1 else(bif y7 then(qy (qeu d N (p5.1,(p5.2.1,(x.2.2.1,(y6,(x.2.2.2.2.1,())))))) ((),(([]:List α),()))).2.1 else p5.1))),())))else none)))else none)))else none)))))))) (x.1,(y2,(y3,()))))))))))))else none)))
def qh3 {α:Type}(d:α) (N:Nat) (M:Nat):((List α)×(Int×(Int×(Int×(((α×(α×Unit))→(Option (Int×Unit)))×Unit)))))→(Option (Unit×((List α)×Unit))):=
 Nat.rec (motive:=fun _=>((List α)×(Int×(Int×(Int×(((α×(α×Unit))→(Option (Int×Unit)))×Unit)))))→(Option (Unit×((List α)×Unit)))) (fun _=>none) (fun _ Fs=>qkx d N Fs) M
def qlw {α:Type}(d:α) (N:Nat):((List α)×(Int×(Int×(Int×(((α×(α×Unit))→(Option (Int×Unit)))×Unit)))))→(Option (Unit×((List α)×Unit))):=qh3 d N N
def qqh {α:Type}(d:α) (N:Nat) (x:((List α)×(Int×(((α×(α×Unit))→(Option (Int×Unit)))×Unit)))):(Option (Unit×((List α)×Unit))):=
 (qaE (S:=((List α)×(Int×(Int×Unit)))) (R:=(Unit×((List α)×Unit))) N (fun ih0=>(fun p1=>(bif (leI p1.2.2.1 x.2.1)then(bif (qp (qjB d N (p1.1,(p1.2.1,(p1.2.2.1,(x.2.2.1,()))))))then(qT (qy (qjB d N (p1.1,(p1.2.1,(p1.2.2.1,(x.2.2.1,()))))) ((),(([]:List α),()))).2.1 (fun ys2=>(qT p1.2.2.1 (fun y3=>(ih0 (ys2,(y3,((qaj .i64 y3 20),()))))))))else none)else(bif (qp (qjB d N (p1.1,(p1.2.1,(x.2.1,(x.2.2.1,()))))))then(qaE (S:=((List α)×(Int×Unit))) (R:=(Unit×((List α)×Unit))) N (fun ih2=>(fun p3=>(bif (ltI p3.2.1 x.2.1)then(qaE (S:=((List α)×(Int×(Int×Unit)))) (R:=(Unit×((List α)×Unit))) N (fun ih4=>(fun p5=>(bif (leI p5.2.2.1 x.2.1)then(bif (qp (qlw d N (p5.1,(p5.2.1,((qaj .i64 p5.2.1 p3.2.1),(p5.2.2.1,(x.2.2.1,())))))))then(qT (qy (qlw d N (p5.1,(p5.2.1,((qaj .i64 p5.2.1 p3.2.1),(p5.2.2.1,(x.2.2.1,())))))) ((),(([]:List α),()))).2.1 (fun ys6=>(qT p5.2.2.1 (fun y7=>(ih4 (ys6,(y7,((qaj .i64 y7 (qoc .i64 2 p3.2.1)),()))))))))else none)else(qT (qaj .i64 p5.2.1 p3.2.1) (fun y6=>(bif (bif (ltI y6 x.2.1)then(qp (qlw d N (p5.1,(p5.2.1,(y6,(x.2.1,(x.2.2.1,())))))))else true)then(ih2 ((bif (ltI y6 x.2.1)then(qy (qlw d N (p5.1,(p5.2.1,(y6,(x.2.1,(x.2.2.1,())))))) ((),(([]:List α),()))).2.1 else p5.1),((qoc .i64 p3.2.1 2),())))else none)))))) (p3.1,(0,((qoc .i64 2 p3.2.1),()))))else(some ((),(p3.1,())))))) ((qy (qjB d N (p1.1,(p1.2.1,(x.2.1,(x.2.2.1,()))))) ((),(([]:List α),()))).2.1,(20,())))else none)))) (x.1,(0,(20,()))))
theorem qch {S R:Type}{st1 st2:(S→Option R)→S→Option R}(μ:S→Nat) (I:S→Prop) (Q:Option R→Option R→Prop)
  (hs:∀ih1 ih2 p,I p→(∀q,I q→μ q<μ p→Q (ih1 q) (ih2 q))→Q (st1 ih1 p) (st2 ih2 p)):∀(N:Nat) (p:S),I p→μ p<N→Q (qaE N st1 p) (qaE N st2 p)
 |0,p,_,h=>by omega
 |N+1,p,hI,h=>by
  rw[qd8,qd8];exact hs _ _ p hI fun q hq hm=>qch μ I Q hs N q hq (by omega)
structure Ck {α:Type}(P:α→Prop) (n:Nat) (ys:List α):Prop where
 len:ys.length=n
 all:∀x∈ys,P x
def Res {α:Type}(P:α→Prop) (n:Nat) (r s:Option (Unit×(List α×Unit))):Prop:=∃out,Ck P n out∧r=some ((),(out,()))∧s=some ((),(out,()))
theorem Ck.inB {α:Type}{P:α→Prop}{n:Nat}{ys:List α}(h:Ck P n ys) {i:Int}(h0:0≤i) (h1:i<(n:Int)):inB i (qn ys)=true:=by
 rw[qbG,qv,h.len];simp;omega
theorem Ck.get {α:Type}{P:α→Prop}{n:Nat}{ys:List α}(h:Ck P n ys) (d:α) {i:Int}(h0:0≤i) (h1:i<(n:Int)):P (qJ ys i d):=by
 obtain⟨k,rfl⟩:∃k:Nat,i=(k:Int):=⟨i.toNat,by omega⟩;have hk:k<ys.length:=by rw[h.len];omega
 rw[qb0 _ hk];exact h.all _ (List.getElem_mem hk)
theorem Ck.set {α:Type}{P:α→Prop}{n:Nat}{ys:List α}(h:Ck P n ys) (i:Int) {v:α}(hv:P v):Ck P n (qdz ys i v):=by
 rw[qbv];refine⟨by rw[List.length_set];exact h.len,fun x hx=>?_⟩;rcases List.mem_or_eq_of_mem_set hx with hx|rfl
 ·exact h.all x hx
 ·exact hv
theorem ltT {x y:Int}(h:x<y):ltI x y=true:=by grind [qan]
theorem ltF {x y:Int}(h:¬x<y):ltI x y=false:=by grind [qan]
theorem leT {x y:Int}(h:x≤y):leI x y=true:=by grind [qdZ]
theorem leF {x y:Int}(h:¬x≤y):leI x y=false:=by grind [qdZ]
theorem eqT {x y:Int}(h:x=y):eqI x y=true:=by grind [qa4]
theorem eqF {x y:Int}(h:¬x=y):eqI x y=false:=by grind [qa4]
theorem neT {x y:Int}(h:¬x=y):neI x y=true:=by rw[qaM];simp[h]
theorem neF {x y:Int}(h:x=y):neI x y=false:=by rw[qaM];simp[h]
theorem qif {x y:Int}(hx:0≤x) (hy:0≤y) (h:x+y≤4398046511104):qcE .i64 (qlZ .u64 (qcE .u64 (qaj .i64 x y)) 1)=(x+y)/2:=by
 have e1:qaj .i64 x y=x+y:=qbK (by omega) (by omega);have e2:qcE .u64 (x+y)=x+y:=by rw[qiF,qup];omega
 have e3:qlZ .u64 (x+y) 1=(x+y)/2:=by
  rw[qnz];have:(2:Int)^ (min (1:Int).toNat IntKind.u64.bits)=2:=by decide
  grind
 grind [qvz]
section
variable {α:Type}{P:α→Prop}{n:Nat}(d:α) {φ ψ:(α×(α×Unit))→Option (Int×Unit)}{N:Nat}
end
end
end Go.Vi
set_option linter.unusedSimpArgs false
set_option linter.unusedVariables false
set_option maxRecDepth 100000
namespace Go.Vi
noncomputable section
theorem qbY {S R:Type}{st:(S→Option R)→S→Option R}(μ:S→Nat) (I:S→Prop) (Q:Option R→Prop)
  (hs:∀ih p,I p→(∀q,I q→μ q<μ p→Q (ih q))→Q (st ih p)):∀(N:Nat) (p:S),I p→μ p<N→Q (qaE N st p)
 |0,p,_,h=>by omega
 |N+1,p,hI,h=>by
  rw[qd8];exact hs _ p hI fun q hq hm=>qbY μ I Q hs N q hq (by omega)
structure Cmp {α:Type}(P:α→Prop) (φ:(α×(α×Unit))→Option (Int×Unit)) (le:α→α→Prop):Prop where
 ans:∀a b,P a→P b→∃c,φ (a,(b,()))=some (c,())∧(c<0↔¬le b a)
 tot:∀a b,P a→P b→le a b∨le b a
 trans:∀a b c,P a→P b→P c→le a b→le b c→le a c
section
variable {α:Type}{P:α→Prop}{n:Nat}(d:α) {φ:(α×(α×Unit))→Option (Int×Unit)}{le:α→α→Prop}{N:Nat}
theorem Cmp.refl (h:Cmp P φ le) {a:α}(ha:P a):le a a:=(h.tot a a ha ha).elim id id
structure Seg (d:α) (n:Nat) (a b:Int) (xs ys:List α):Prop where
 perm:ys.Perm xs
 out:∀k:Int,0≤k→k<(n:Int)→(k<a∨b≤k)→qJ ys k d=qJ xs k d
 inn:∀k:Int,a≤k→k<b→∃m,a≤m∧m<b∧qJ ys k d=qJ xs m d
theorem Seg.refl (a b:Int) (xs:List α):Seg d n a b xs xs:=⟨.refl _,fun _ _ _ _=>rfl,fun k h1 h2=>⟨k,h1,h2,rfl⟩⟩
theorem Seg.trans {a b:Int}{xs ys zs:List α}(h1:Seg d n a b xs ys) (h2:Seg d n a b ys zs):Seg d n a b xs zs:=
 ⟨h2.perm.trans h1.perm,fun k q1 q2 q3=>(h2.out k q1 q2 q3).trans (h1.out k q1 q2 q3),fun k q1 q2=>by
  obtain⟨m,m1,m2,m3⟩:=h2.inn k q1 q2;obtain⟨l,l1,l2,l3⟩:=h1.inn m m1 m2;exact⟨l,l1,l2,m3.trans l3⟩⟩
theorem Seg.mono {a b a' b':Int}{xs ys:List α}(h:Seg d n a b xs ys) (h0:0≤a') (hn:b'≤(n:Int)) (ha:a'≤a) (hb:b≤b'):Seg d n a' b' xs ys:=
 ⟨h.perm,fun k q1 q2 q3=>h.out k q1 q2 (by omega),fun k q1 q2=>by
  by_cases hk:a≤k∧k<b
  ·obtain⟨m,m1,m2,m3⟩:=h.inn k hk.1 hk.2;exact⟨m,by omega,by omega,m3⟩
  ·exact⟨k,q1,q2,h.out k (by omega) (by omega) (by omega)⟩⟩
theorem Seg.ck {a b:Int}{xs ys:List α}(h:Seg d n a b xs ys) (hx:Ck P n xs):Ck P n ys:=
 ⟨by rw[h.perm.length_eq];exact hx.len,fun x q=>hx.all x (h.perm.mem_iff.1 q)⟩
theorem qoG {xs:List α}(hl:xs.length=n) {i k:Int}(h0:0≤i) (h1:i<(n:Int)) (h2:0≤k) (v:α):qJ (qdz xs i v) k d=if k=i then v else qJ xs k d:=by
 rw[qhk,qhk,qbv];by_cases h:k=i
 ·subst h;rw[if_pos rfl,List.getD_eq_getElem?_getD,List.getElem?_set_self (by omega)];rfl
 ·rw[if_neg h,List.getD_eq_getElem?_getD,List.getD_eq_getElem?_getD,List.getElem?_set_ne (by omega)]
def swp (xs:List α) (i j:Int):List α:=qdz (qdz xs i (qJ xs j d)) j (qJ xs i d)
theorem qgT {xs:List α}(hl:xs.length=n) {i j:Int}(i0:0≤i) (i1:i<(n:Int)) (j0:0≤j) (j1:j<(n:Int)) (k:Int) (h2:0≤k):qJ (swp d xs i j) k d=if k=j then qJ xs i d else if k=i then qJ xs j d else qJ xs k d:=by
 unfold swp;rw[qoG d (n:=n) (by rw[qbv,List.length_set];exact hl) j0 j1 h2,qoG d hl i0 i1 h2]
theorem qiQ {xs:List α}(hl:xs.length=n) {a b i j:Int}(a0:0≤a) (bn:b≤(n:Int)) (i0:a≤i) (i1:i<b) (j0:a≤j) (j1:j<b):Seg d n a b xs (swp d xs i j):=by
 have g:=qgT d hl (i:=i) (j:=j) (by omega) (by omega) (by omega) (by omega);refine⟨?_,fun k q1 q2 q3=>?_,fun k q1 q2=>?_⟩
 ·unfold swp;have hi:i.toNat<xs.length:=by omega
  have hj:j.toNat<xs.length:=by omega
  have e1:qJ xs i d=xs[i.toNat]:=by rw[qhk,List.getD_eq_getElem?_getD,zac hi];rfl
  have e2:qJ xs j d=xs[j.toNat]:=by rw[qhk,List.getD_eq_getElem?_getD,zac hj];rfl
  rw[e1,e2,qbv,qbv];exact List.set_set_perm hi hj
 ·rw[g k q1,if_neg (by omega),if_neg (by omega)]
 ·rw[g k (by omega)];by_cases h1:k=j
  ·exact⟨i,i0,i1,by rw[if_pos h1]⟩
  ·by_cases h2:k=i
   ·exact⟨j,j0,j1,by rw[if_neg h1,if_pos h2]⟩
   ·exact⟨k,q1,q2,by rw[if_neg h1,if_neg h2]⟩
theorem qkb (xs:List α) (i k:Int) (v:α):inB k (qn (qdz xs i v))=inB k (qn xs):=by
 rw[qbG,qbG,qv,qv,qbv,List.length_set]
def Srt (d:α) (le:α→α→Prop) (a b:Int) (xs:List α):Prop:=∀i j,a≤i→i≤j→j<b→le (qJ xs i d) (qJ xs j d)
def qom (P:α→Prop) (d:α) (n:Nat) (le:α→α→Prop) (a b:Int) (xs:List α) (r:Option (Unit×(List α×Unit))):Prop:=∃out,r=some ((),(out,()))∧Seg d n a b xs out∧Srt d le a b out
theorem ql6 (hφ:Cmp P φ le) (hn:n≤1099511627776) (hN:n+1<N) {xs:List α}(h:Ck P n xs) {a b:Int}(ha:0≤a) (ha2:a≤(n:Int)) (hb:b≤(n:Int)):qom P d n le a b xs (qjB d N (xs,(a,(b,(φ,()))))):=by
 simp only[qjB];have ea:qaj .i64 a 1=a+1:=qbK (by omega) (by omega);rw[ea];by_cases hab:¬a<b
 ·obtain⟨M,rfl⟩:∃M,N=M+1:=⟨N-1,by omega⟩;rw[qd8];simp only[ltF (show ¬a+1<b by omega),cond_false];exact⟨xs,rfl,.refl d a b xs,fun i j h1 h2 h3=>by omega⟩
 refine qbY (S:=List α×(Int×Unit)) (fun p=>(b-p.2.1).toNat) (fun p=>Seg d n a b xs p.1∧a+1≤p.2.1∧p.2.1≤(n:Int)+1∧Srt d le a p.2.1 p.1) (qom P d n le a b xs) ?_ N _ ⟨.refl d a b xs,by simp only;omega,by simp only;omega,fun i j h1 h2 h3=>by
  simp only at h3;have:i=j:=by omega
  subst this;exact hφ.refl (h.get d (by omega) (by omega))⟩ (by simp only;omega)
 rintro ih ⟨ys,i,⟨⟩⟩ ⟨hs,hi,hi2,hsrt⟩ hih;simp only at hs hi hi2 hsrt hih⊢
 by_cases hc:i<b
 ·simp only[ltT hc,cond_true];refine qbY (S:=List α×(Int×Unit)) (fun p=>(p.2.1-a).toNat) (fun p=>Seg d n a b xs p.1∧a≤p.2.1∧p.2.1≤i∧∀x y,a≤x→x<y→y≤i→y≠p.2.1→le (qJ p.1 x d) (qJ p.1 y d)) (qom P d n le a b xs) ?_ N _ ⟨hs,by simp only;omega,by simp only;omega,fun x y h1 h2 h3 h4=>hsrt x y h1 (by omega) (by simp only at h4⊢;omega)⟩ (by simp only;omega);rintro jh ⟨zs,j,⟨⟩⟩ ⟨hz,hj1,hj2,hord⟩ hjh;simp only at hz hj1 hj2 hord hjh⊢
  have hzc:=hz.ck d h;have ei:qaj .i64 i 1=i+1:=qbK (by omega) (by omega);have fin:(a<j→le (qJ zs (j-1) d) (qJ zs j d))→Srt d le a (i+1) zs:=fun hle x y h1 h2 h3=>by
   by_cases hxy:x=y
   ·subst hxy;exact hφ.refl (hzc.get d (by omega) (by omega))
   by_cases hyj:y=j
   ·subst hyj;by_cases hx:x=y-1
    ·rw[hx];exact hle (by omega)
    ·exact hφ.trans _ _ _ (hzc.get d (by omega) (by omega)) (hzc.get d (i:=y-1) (by omega) (by omega)) (hzc.get d (by omega) (by omega)) (hord x (y-1) h1 (by omega) (by omega) (by omega)) (hle (by omega))
   ·exact hord x y h1 (by omega) (by omega) hyj
  by_cases hja:a<j
  ·have s1:qaF .i64 j 1=j-1:=qby (by omega) (by omega);have pj:=hzc.get d (i:=j) (by omega) (by omega);have pk:=hzc.get d (i:=j-1) (by omega) (by omega);obtain⟨c,e1,e3⟩:=hφ.ans _ _ pj pk;have b1:=hzc.inB (i:=j) (by omega) (by omega);have b2:=hzc.inB (i:=j-1) (by omega) (by omega);simp only[ltT hja,s1,b1,b2,e1,qf,qg,Bool.not_true,Bool.false_or,zaw,cond_true,Bool.true_and,qkb];by_cases hc0:c<0
   ·simp only[ltT hc0,cond_true];have hnle:=e3.1 hc0;have hle:le (qJ zs j d) (qJ zs (j-1) d):=(hφ.tot _ _ pj pk).elim id (fun q=>absurd q hnle);have hsg:=qiQ d hzc.len (a:=a) (b:=b) (i:=j) (j:=j-1) ha hb (by omega) (by omega) (by omega) (by omega);have g:=qgT d hzc.len (i:=j) (j:=j-1) (by omega) (by omega) (by omega) (by omega);refine hjh (swp d zs j (j-1),(j-1,())) ⟨hz.trans d hsg,by simp only;omega,by simp only;omega,fun x y h1 h2 h3 h4=>?_⟩ (by simp only;omega);simp only at h4⊢
    rw[g x (by omega),g y (by omega)];rw[if_neg h4];by_cases hy:y=j
    ·rw[if_pos hy];by_cases hx:x=j-1
     ·rw[if_pos hx];exact hle
     ·rw[if_neg hx,if_neg (by omega)];exact hord x (j-1) h1 (by omega) (by omega) (by omega)
    ·rw[if_neg hy];by_cases hx:x=j-1
     ·rw[if_pos hx];exact hord j y (by omega) (by omega) h3 hy
     ·rw[if_neg hx];by_cases hx2:x=j
      ·rw[if_pos hx2];exact hord (j-1) y (by omega) (by omega) h3 hy
      ·rw[if_neg hx2];exact hord x y h1 h2 h3 hy
   ·simp only[ltF hc0,cond_false,ei];have hle:le (qJ zs (j-1) d) (qJ zs j d):=Classical.byContradiction fun q=>hc0 (e3.2 q);exact hih _ ⟨hz,by simp only;omega,by simp only;omega,fin fun _=>hle⟩ (by simp only;omega)
  ·simp only[ltF hja,Bool.not_false,Bool.true_or,zaw,cond_true,Bool.false_and,cond_false,ei];exact hih _ ⟨hz,by simp only;omega,by simp only;omega,fin fun q=>absurd q hja⟩ (by simp only;omega)
 ·simp only[ltF hc,cond_false];exact⟨ys,rfl,hs,fun x y h1 h2 h3=>hsrt x y h1 h2 (by omega)⟩
def HpAt (d:α) (le:α→α→Prop) (f hi:Int) (ys:List α) (k:Int):Prop:=(2*k+1<hi→le (qJ ys (f+(2*k+1)) d) (qJ ys (f+k) d))∧(2*k+2<hi→le (qJ ys (f+(2*k+2)) d) (qJ ys (f+k) d))
structure Sft (d:α) (le:α→α→Prop) (f lo hi:Int) (ys:List α) (r:Int):Prop where
 rest:∀k,lo≤k→k<hi→k≠r→HpAt d le f hi ys k
 up:∀p,lo≤p→(2*p+1=r∨2*p+2=r)→(2*r+1<hi→le (qJ ys (f+(2*r+1)) d) (qJ ys (f+p) d))∧(2*r+2<hi→le (qJ ys (f+(2*r+2)) d) (qJ ys (f+p) d))
theorem Sft.done {f lo hi:Int}{ys:List α}{r:Int}(h:Sft d le f lo hi ys r) (hr:HpAt d le f hi ys r):∀k,lo≤k→k<hi→HpAt d le f hi ys k:=fun k h1 h2=>by
 by_cases hk:k=r
 ·rw[hk];exact hr
 ·exact h.rest k h1 h2 hk
theorem Sft.step (hφ:Cmp P φ le) {ys:List α}(hc:Ck P n ys) {f lo hi:Int}(f0:0≤f) (fn:f+hi≤(n:Int)) (l0:0≤lo) {r c:Int}(h:Sft d le f lo hi ys r) (hr:lo≤r) (hcr:c=2*r+1∨c=2*r+2) (hch:c<hi)
  (hle:le (qJ ys (f+r) d) (qJ ys (f+c) d)) (hmax:∀o,(o=2*r+1∨o=2*r+2)→o<hi→le (qJ ys (f+o) d) (qJ ys (f+c) d)):Sft d le f lo hi (swp d ys (f+r) (f+c)) c:=by
 have g:=qgT d hc.len (i:=f+r) (j:=f+c) (by omega) (by omega) (by omega) (by omega);have gc:qJ (swp d ys (f+r) (f+c)) (f+c) d=qJ ys (f+r) d:=by rw[g _ (by omega),if_pos rfl]
 have gr:qJ (swp d ys (f+r) (f+c)) (f+r) d=qJ ys (f+c) d:=by rw[g _ (by omega),if_neg (by omega),if_pos rfl]
 have go:∀k,0≤k→k≠r→k≠c→qJ (swp d ys (f+r) (f+c)) (f+k) d=qJ ys (f+k) d:=fun k h0 h1 h2=>by rw[g _ (by omega),if_neg (by omega),if_neg (by omega)]
 have key:∀k,lo≤k→k<hi→k≠c→∀o,(o=2*k+1∨o=2*k+2)→o<hi→le (qJ (swp d ys (f+r) (f+c)) (f+o) d) (qJ (swp d ys (f+r) (f+c)) (f+k) d):=fun k k1 k2 k3 o ho oh=>by
  by_cases hk:k=r
  ·subst hk;rw[gr];by_cases hoc:o=c
   ·rw[hoc,gc];exact hle
   ·rw[go o (by omega) (by omega) hoc];exact hmax o ho oh
  ·have hold:=h.rest k k1 k2 hk;by_cases hor:o=r
   ·rw[hor,gr,go k (by omega) hk k3];have hu:=h.up k k1 (by omega);rcases hcr with q|q
    ·rw[q];exact hu.1 (by omega)
    ·rw[q];exact hu.2 (by omega)
   ·rw[go o (by omega) hor (by omega),go k (by omega) hk k3];rcases ho with q|q
    ·rw[q];exact hold.1 (by omega)
    ·rw[q];exact hold.2 (by omega)
 refine⟨fun k k1 k2 k3=>⟨fun q=>key k k1 k2 k3 _ (.inl rfl) q,fun q=>key k k1 k2 k3 _ (.inr rfl) q⟩,fun p p1 p2=>?_⟩;have hp:p=r:=by omega
 subst hp;have hold:=h.rest c (by omega) hch (by omega);rw[gr];exact⟨fun q=>by rw[go _ (by omega) (by omega) (by omega)];exact hold.1 q,fun q=>by rw[go _ (by omega) (by omega) (by omega)];exact hold.2 q⟩
theorem Cmp.flip (hφ:Cmp P φ le) {u v:α}(pu:P u) (pv:P v) (h:¬le v u):le u v:=(hφ.tot u v pu pv).elim id fun q=>absurd q h
structure PInv (d:α) (n:Nat) (le:α→α→Prop) (a b:Int) (xs:List α) (p:α) (ys:List α) (i j:Int):Prop where
 seg:Seg d n a b xs ys
 ai:a<i
 ij:i≤j+1
 jb:j<b
 at_:qJ ys a d=p
 lo:∀k,a<k→k<i→le (qJ ys k d) p
 hi:∀k,j<k→k<b→le p (qJ ys k d)
def PPost (d:α) (n:Nat) (le:α→α→Prop) (a b:Int) (xs:List α) (r:Option ((Int×(Bool×Unit))×(List α×Unit))):Prop:=∃out mid fl,r=some ((mid,(fl,())),(out,()))∧Seg d n a b xs out∧a≤mid∧mid<b∧(∀k,a≤k→k<mid→le (qJ out k d) (qJ out mid d))∧∀k,mid<k→k<b→le (qJ out mid d) (qJ out k d)
theorem PInv.fin {a b:Int}{xs ys:List α}{p:α}{i j:Int}(h:PInv d n le a b xs p ys i j) (hc:Ck P n ys) (ha:0≤a) (hb:b≤(n:Int)) (hij:j<i) (fl:Bool):PPost d n le a b xs (some ((j,(fl,())),(swp d ys j a,()))):=by
 have h1:=h.ai;have h2:=h.ij;have h3:=h.jb;have g:=qgT d hc.len (i:=j) (j:=a) (by omega) (by omega) (by omega) (by omega);have gj:qJ (swp d ys j a) j d=p:=by
  rw[g j (by omega)];by_cases q:j=a
  ·rw[if_pos q,q];exact h.at_
  ·rw[if_neg q,if_pos rfl];exact h.at_
 refine⟨_,j,fl,rfl,h.seg.trans d (qiQ d hc.len ha hb (by omega) (by omega) (by omega) (by omega)),by omega,by omega,fun k k1 k2=>?_,fun k k1 k2=>?_⟩
 ·rw[gj,g k (by omega)];by_cases q:k=a
  ·rw[if_pos q];exact h.lo j (by omega) (by omega)
  ·rw[if_neg q,if_neg (by omega)];exact h.lo k (by omega) (by omega)
 ·rw[gj,g k (by omega),if_neg (by omega),if_neg (by omega)];exact h.hi k k1 k2
theorem PInv.swap {a b:Int}{xs ys:List α}{p:α}{i j:Int}(h:PInv d n le a b xs p ys i j) (hc:Ck P n ys) (ha:0≤a) (hb:b≤(n:Int)) (hij:i<j) (hj:le (qJ ys j d) p) (hi:le p (qJ ys i d)):PInv d n le a b xs p (swp d ys i j) (i+1) (j-1):=by
 have h1:=h.ai;have h2:=h.ij;have h3:=h.jb;have g:=qgT d hc.len (i:=i) (j:=j) (by omega) (by omega) (by omega) (by omega);refine⟨h.seg.trans d (qiQ d hc.len ha hb (by omega) (by omega) (by omega) (by omega)),by omega,by omega,by omega,?_,fun k k1 k2=>?_,fun k k1 k2=>?_⟩
 ·rw[g a ha,if_neg (by omega),if_neg (by omega)];exact h.at_
 ·rw[g k (by omega),if_neg (by omega)];by_cases q:k=i
  ·rw[if_pos q];exact hj
  ·rw[if_neg q];exact h.lo k k1 (by omega)
 ·rw[g k (by omega)];by_cases q:k=j
  ·rw[if_pos q];exact hi
  ·rw[if_neg q,if_neg (by omega)];exact h.hi k (by omega) k2
def Pre (d:α) (le:α→α→Prop) (a b:Int) (xs:List α):Prop:=0<a→∀k,a≤k→k<b→le (qJ xs (a-1) d) (qJ xs k d)
theorem Seg.pre {a b:Int}{xs ys:List α}(h:Seg d n a b xs ys) (hb:b≤(n:Int)) (hp:Pre d le a b xs):Pre d le a b ys:=fun a0 k k1 k2=>by
 obtain⟨m,m1,m2,m3⟩:=h.inn k k1 k2;rw[h.out (a-1) (by omega) (by omega) (by omega),m3];exact hp a0 m m1 m2
theorem qpM (hφ:Cmp P φ le) {u v:α}(pu:P u) (pv:P v):∃c,φ (u,(v,()))=some (c,())∧((c<0)∧¬le v u∧le u v∨¬(c<0)∧le v u):=by
 obtain⟨c,a1,a2⟩:=hφ.ans u v pu pv;by_cases hc:c<0
 ·exact⟨c,a1,.inl ⟨hc,a2.1 hc,hφ.flip pu pv (a2.1 hc)⟩⟩
 ·exact⟨c,a1,.inr ⟨hc,Classical.byContradiction fun w=>hc (a2.2 w)⟩⟩
structure qvE (d:α) (n:Nat) (le:α→α→Prop) (a0 b0:Int) (xs ys:List α) (a b:Int):Prop where
 seg:Seg d n a0 b0 xs ys
 la:a0≤a
 ab:a≤b
 rb:b≤b0
 pre:Pre d le a b ys
 lo:∀i j,a0≤i→i<a→i≤j→j<b0→le (qJ ys i d) (qJ ys j d)
 hi:∀i j,a0≤i→i≤j→b≤j→j<b0→le (qJ ys i d) (qJ ys j d)
theorem qvE.move {a0 b0 a b:Int}{xs ys zs:List α}(h:qvE d n le a0 b0 xs ys a b) (h0:0≤a0) (hn:b0≤(n:Int)) (hs:Seg d n a b ys zs):qvE d n le a0 b0 xs zs a b:=by
 have h1:=h.la;have h2:=h.rb;have h3:=h.ab;refine⟨h.seg.trans d (hs.mono d h0 hn h1 h2),h1,h3,h2,hs.pre d (by omega) h.pre,fun i j q1 q2 q3 q4=>?_,fun i j q1 q2 q3 q4=>?_⟩
 ·rw[hs.out i (by omega) (by omega) (by omega)];by_cases w:a≤j∧j<b
  ·obtain⟨m,m1,m2,m3⟩:=hs.inn j w.1 w.2;rw[m3];exact h.lo i m q1 q2 (by omega) (by omega)
  ·rw[hs.out j (by omega) (by omega) (by omega)];exact h.lo i j q1 q2 q3 q4
 ·rw[hs.out j (by omega) (by omega) (by omega)];by_cases w:a≤i∧i<b
  ·obtain⟨m,m1,m2,m3⟩:=hs.inn i w.1 w.2;rw[m3];exact h.hi m j (by omega) (by omega) q3 q4
  ·rw[hs.out i (by omega) (by omega) (by omega)];exact h.hi i j q1 q2 q3 q4
theorem qvE.fin {a0 b0 a b:Int}{xs ys:List α}(h:qvE d n le a0 b0 xs ys a b) (hs:Srt d le a b ys):Srt d le a0 b0 ys:=fun i j q1 q2 q3=>by
 by_cases w1:i<a
 ·exact h.lo i j q1 w1 q2 q3
 ·by_cases w2:b≤j
  ·exact h.hi i j q1 q2 w2 q3
  ·exact hs i j (by omega) q2 (by omega)
theorem qvE.ends {a0 b0 a b:Int}{xs ys zs:List α}(h:qvE d n le a0 b0 xs ys a b) (h0:0≤a0) (hn:b0≤(n:Int)) (hs:Seg d n a b ys zs) (hz:Srt d le a b zs):qom P d n le a0 b0 xs (some ((),(zs,()))):=
 ⟨zs,rfl,(h.move d h0 hn hs).seg,(h.move d h0 hn hs).fin d hz⟩
end
end
end Go.Vi
set_option linter.unusedSimpArgs false
set_option linter.unusedVariables false
set_option maxRecDepth 100000
namespace Go.Vi
noncomputable section
section
variable {α:Type}{P:α→Prop}{n:Nat}(d:α) {φ:(α×(α×Unit))→Option (Int×Unit)}{le:α→α→Prop}{N:Nat}
theorem qja (hn:n≤1099511627776) (hN:n+1<N) {xs:List α}(h:Ck P n xs) {a b m:Int}(ha:0≤a) (hab:a+m≤b) (hm:0≤m) (hb2:b+m≤(n:Int)):
  ∃out,qhD d N (xs,(a,(b,(m,(φ,())))))=some ((),(out,()))∧Seg d n a (b+m) xs out∧∀k,0≤k→k<(n:Int)→qJ out k d=if a≤k∧k<a+m then qJ xs (k+(b-a)) d else if b≤k∧k<b+m then qJ xs (k-(b-a)) d else qJ xs k d:=by
 simp only[qhD];refine qbY (S:=List α×(Int×Unit)) (fun p=>(m-p.2.1).toNat) (fun p=>Seg d n a (b+m) xs p.1∧0≤p.2.1∧p.2.1≤m∧∀k,0≤k→k<(n:Int)→qJ p.1 k d=if a≤k∧k<a+p.2.1 then qJ xs (k+(b-a)) d else if b≤k∧k<b+p.2.1 then qJ xs (k-(b-a)) d else qJ xs k d)
  (fun r=>∃out,r=some ((),(out,()))∧Seg d n a (b+m) xs out∧∀k,0≤k→k<(n:Int)→qJ out k d=if a≤k∧k<a+m then qJ xs (k+(b-a)) d else if b≤k∧k<b+m then qJ xs (k-(b-a)) d else qJ xs k d) ?_ N _
  ⟨.refl d _ _ xs,by simp only;omega,by simp only;omega,fun k k0 k1=>by simp only;rw[if_neg (by omega),if_neg (by omega)]⟩ (by simp only;omega)
 rintro ih ⟨ys,i,⟨⟩⟩ ⟨hs,hi0,him,hg⟩ hih;simp only at hs hi0 him hg hih⊢
 have hc:=hs.ck d h;by_cases q:i<m
 ·have e1:qaj .i64 a i=a+i:=qbK (by omega) (by omega);have e2:qaj .i64 b i=b+i:=qbK (by omega) (by omega);have e3:qaj .i64 i 1=i+1:=qbK (by omega) (by omega);simp only[ltT q,cond_true,e1,e2,e3,hc.inB (i:=a+i) (by omega) (by omega),hc.inB (i:=b+i) (by omega) (by omega),qkb,zaw];have g:=qgT d hc.len (i:=a+i) (j:=b+i) (by omega) (by omega) (by omega) (by omega);refine hih (swp d ys (a+i) (b+i),(i+1,())) ⟨hs.trans d (qiQ d hc.len ha (by omega) (by omega) (by omega) (by omega) (by omega)),by simp only;omega,by simp only;omega,fun k k0 k1=>?_⟩ (by simp only;omega);simp only;rw[g k k0];by_cases w1:k=b+i
  ·rw[if_pos w1,if_neg (by omega),if_pos (by omega),hg (a+i) (by omega) (by omega),if_neg (by omega),if_neg (by omega),w1,show b+i-(b-a)=a+i by omega]
  rw[if_neg w1];by_cases w2:k=a+i
  ·rw[if_pos w2,if_pos (by omega),hg (b+i) (by omega) (by omega),if_neg (by omega),if_neg (by omega),w2,show a+i+(b-a)=b+i by omega]
  rw[if_neg w2,hg k k0 k1];by_cases w3:a≤k∧k<a+i
  ·rw[if_pos w3,if_pos (by omega)]
  rw[if_neg w3];by_cases w4:b≤k∧k<b+i
  ·rw[if_pos w4,if_neg (by omega),if_pos (by omega)]
  rw[if_neg w4,if_neg (by omega),if_neg (by omega)]
 ·have:i=m:=by omega
  subst this;simp only[ltF q,cond_false];exact⟨ys,rfl,hs,hg⟩
def qsA (d:α) (xs:List α) (a m b k:Int):α:=if a≤k∧k<a+(b-m)then qJ xs (k+(m-a)) d else if a+(b-m)≤k∧k<b then qJ xs (k-(b-m)) d else qJ xs k d
theorem qf2 (xs:List α) {a m b k:Int}(h1:a≤k) (h2:k<a+(b-m)):qsA d xs a m b k=qJ xs (k+(m-a)) d:=by rw[qsA,if_pos ⟨h1,h2⟩]
theorem qga (xs:List α) {a m b k:Int}(h1:a+(b-m)≤k) (h2:k<b):qsA d xs a m b k=qJ xs (k-(b-m)) d:=by rw[qsA,if_neg (by omega),if_pos ⟨h1,h2⟩]
theorem qe9 (xs:List α) {a m b k:Int}(h1:m≤b) (h2:a≤m) (h3:k<a∨b≤k):qsA d xs a m b k=qJ xs k d:=by rw[qsA,if_neg (by omega),if_neg (by omega)]
theorem qqV (hn:n≤1099511627776) (hN:2*n+1<N) {xs:List α}(h:Ck P n xs) {a m b:Int}(ha:0≤a) (h1:a<m) (h2:m<b) (hb:b≤(n:Int)):
  ∃out,qeu d N (xs,(a,(m,(b,(φ,())))))=some ((),(out,()))∧Seg d n a b xs out∧∀k,0≤k→k<(n:Int)→qJ out k d=qsA d xs a m b k:=by
 have e1:qaF .i64 m a=m-a:=qby (by omega) (by omega);have e2:qaF .i64 b m=b-m:=qby (by omega) (by omega);simp only[qeu,qak,e1,e2];refine qbY (S:=List α×(Int×(Int×Unit))) (fun p=>(p.2.1+p.2.2.1).toNat) (fun p=>Seg d n a b xs p.1∧0<p.2.1∧p.2.1≤m-a∧0<p.2.2.1∧p.2.2.1≤b-m∧∀k,0≤k→k<(n:Int)→qsA d p.1 (m-p.2.1) m (m+p.2.2.1) k=qsA d xs a m b k)
  (fun r=>∃out,r=some ((),(out,()))∧Seg d n a b xs out∧∀k,0≤k→k<(n:Int)→qJ out k d=qsA d xs a m b k) ?_ N _
  ⟨.refl d _ _ xs,by simp only;omega,by simp only;omega,by simp only;omega,by simp only;omega,fun k k0 k1=>by simp only;rw[show m-(m-a)=a by omega,show m+(b-m)=b by omega]⟩ (by simp only;omega)
 rintro ih ⟨ys,i,j,⟨⟩⟩ ⟨hs,hi0,him,hj0,hjm,hg⟩ hih;simp only at hs hi0 him hj0 hjm hg hih⊢
 have hc:=hs.ck d h;have s1:qaF .i64 m i=m-i:=qby (by omega) (by omega);by_cases q:i=j
 ·obtain⟨out,o1,o2,o3⟩:=qja (φ:=φ) (P:=P) d hn (by omega:n+1<N) hc (a:=m-i) (b:=m) (m:=i) (by omega) (by omega) (by omega) (by omega);simp only[neF q,cond_false,s1,o1,qf,qg,cond_true];refine⟨out,rfl,hs.trans d (o2.mono d ha hb (by omega) (by omega)),fun k k0 k1=>?_⟩;rw[←hg k k0 k1,o3 k k0 k1];subst q;by_cases w1:m-i≤k∧k<m
  ·rw[if_pos (by omega),qf2 d ys (by omega) (by omega)]
  ·rw[if_neg (by omega)];by_cases w2:m≤k∧k<m+i
   ·rw[if_pos (by omega),qga d ys (by omega) (by omega)];congr 1;omega
   ·rw[if_neg (by omega),qe9 d ys (by omega) (by omega) (by omega)]
 simp only[neT q,cond_true];by_cases q2:j<i
 ·obtain⟨out,o1,o2,o3⟩:=qja (φ:=φ) (P:=P) d hn (by omega:n+1<N) hc (a:=m-i) (b:=m) (m:=j) (by omega) (by omega) (by omega) (by omega);have s2:qaF .i64 i j=i-j:=qby (by omega) (by omega);simp only[ltT q2,cond_true,s1,s2,o1,qf,qg];refine hih (out,(i-j,(j,()))) ⟨hs.trans d (o2.mono d ha hb (by omega) (by omega)),by simp only;omega,by simp only;omega,hj0,hjm,fun k k0 k1=>?_⟩ (by simp only;omega);simp only;rw[←hg k k0 k1];by_cases w0:k<m-i+j∨m+j≤k
  ·rw[qe9 d out (by omega) (by omega) (by omega),o3 k k0 k1];by_cases w1:m-i≤k∧k<m+j
   ·rw[if_pos (by omega),qf2 d ys (by omega) (by omega)]
   ·rw[if_neg (by omega),if_neg (by omega),qe9 d ys (by omega) (by omega) (by omega)]
  ·rw[qga d ys (by omega) (by omega)];by_cases w1:k-(m-i+j)<j
   ·rw[qf2 d out (by omega) (by omega),o3 _ (by omega) (by omega),if_neg (by omega),if_pos (by omega)];congr 1;omega
   ·rw[qga d out (by omega) (by omega),o3 _ (by omega) (by omega),if_neg (by omega),if_neg (by omega)]
 ·obtain⟨out,o1,o2,o3⟩:=qja (φ:=φ) (P:=P) d hn (by omega:n+1<N) hc (a:=m-i) (b:=m+j-i) (m:=i) (by omega) (by omega) (by omega) (by omega);have s2:qaF .i64 j i=j-i:=qby (by omega) (by omega);have s3:qaj .i64 m j=m+j:=qbK (by omega) (by omega);have s4:qaF .i64 (m+j) i=m+j-i:=qby (by omega) (by omega);simp only[ltF q2,cond_false,s1,s2,s3,s4,o1,qf,qg,cond_true];refine hih (out,(i,(j-i,()))) ⟨hs.trans d (o2.mono d ha hb (by omega) (by omega)),hi0,him,by simp only;omega,by simp only;omega,fun k k0 k1=>?_⟩ (by simp only;omega);simp only;rw[←hg k k0 k1];by_cases w0:k<m-i∨m+(j-i)≤k
  ·rw[qe9 d out (by omega) (by omega) (by omega),o3 k k0 k1];by_cases w1:m-i≤k∧k<m+j
   ·rw[if_neg (by omega),if_pos (by omega),qga d ys (by omega) (by omega)];congr 1;omega
   ·rw[if_neg (by omega),if_neg (by omega),qe9 d ys (by omega) (by omega) (by omega)]
  ·rw[qf2 d ys (by omega) (by omega)];by_cases w1:k-(m-i)<j-i
   ·rw[qf2 d out (by omega) (by omega),o3 _ (by omega) (by omega),if_neg (by omega),if_neg (by omega)]
   ·rw[qga d out (by omega) (by omega),o3 _ (by omega) (by omega),if_pos (by omega)];congr 1;omega
def qvs (P:α→Prop) (d:α) (n:Nat) (le:α→α→Prop) (φ:(α×(α×Unit))→Option (Int×Unit)) (M:Nat) (Fs:((List α)×(Int×(Int×(Int×(((α×(α×Unit))→(Option (Int×Unit)))×Unit)))))→(Option (Unit×((List α)×Unit)))):Prop:=
 ∀(xs:List α),Ck P n xs→∀(a m b:Int),0≤a→a<m→m<b→b≤(n:Int)→(b-a).toNat<M→Srt d le a m xs→Srt d le m b xs→qom P d n le a b xs (Fs (xs,(a,(m,(b,(φ,()))))))
set_option maxHeartbeats 2000000 in
theorem qri (hφ:Cmp P φ le) (hn:n≤1099511627776) (hN:2*n+1<N) {M:Nat}{Fs} (ih:qvs P d n le φ M Fs):qvs P d n le φ (M+1) (qkx d N Fs):=by
 intro xs h a m b ha h1 h2 hb hM sl sr;have e1:qaF .i64 m a=m-a:=qby (by omega) (by omega);have e2:qaF .i64 b m=b-m:=qby (by omega) (by omega);have l01:leI 0 1=true:=leT (by omega);simp only[qkx,qak,e1,e2,l01,cond_true];by_cases q1:m-a=1
 ·simp only[eqT q1,cond_true];refine qbY (S:=List α×(Int×(Int×Unit))) (fun p=>(p.2.2.1-p.2.1).toNat) (fun p=>p.1=xs∧m≤p.2.1∧p.2.1≤p.2.2.1∧p.2.2.1≤b∧(∀k,m≤k→k<p.2.1→le (qJ xs k d) (qJ xs a d))∧∀k,p.2.2.1≤k→k<b→le (qJ xs a d) (qJ xs k d)) (qom P d n le a b xs) ?_ N _ ⟨rfl,by simp only;omega,by simp only;omega,by simp only;omega,fun k k1 k2=>by simp only at k2;omega,fun k k1 k2=>by simp only at k1;omega⟩ (by simp only;omega);rintro ih1 ⟨ys,i,j,⟨⟩⟩ ⟨hy,hi,hij,hj,lo,hi'⟩ hih;simp only at hy hi hij hj lo hi' hih⊢
  subst hy;have pa:=h.get d (i:=a) (by omega) (by omega);by_cases hc:i<j
  ·have em:=qif (x:=i) (y:=j) (by omega) (by omega) (by omega);have em1:qaj .i64 ((i+j)/2) 1=(i+j)/2+1:=qbK (by omega) (by omega);have pm:=h.get d (i:=(i+j)/2) (by omega) (by omega);obtain⟨c,e3,e4⟩:=qpM hφ pm pa;simp only[ltT hc,cond_true,em,em1,h.inB (i:=(i+j)/2) (by omega) (by omega),h.inB (i:=a) (by omega) (by omega),e3,qf,qg,zaw];rcases e4 with⟨c0,-,c2⟩|⟨c0,c1⟩
   ·simp only[ltT c0,cond_true];refine hih _ ⟨rfl,by simp only;omega,by simp only;omega,hj,fun k k1 k2=>?_,hi'⟩ (by simp only;omega);simp only at k2;exact hφ.trans _ _ _ (h.get d (by omega) (by omega)) pm pa (sr k ((i+j)/2) k1 (by omega) (by omega)) c2
   ·simp only[ltF c0,cond_false];refine hih _ ⟨rfl,hi,by simp only;omega,by simp only;omega,lo,fun k k1 k2=>?_⟩ (by simp only;omega);simp only at k1;exact hφ.trans _ _ _ pa pm (h.get d (by omega) (by omega)) c1 (sr ((i+j)/2) k (by omega) k1 k2)
  ·have:i=j:=by omega
   subst this;simp only[ltF hc,cond_false];have ei:qaF .i64 i 1=i-1:=qby (by omega) (by omega);rw[ei];refine qbY (S:=List α×(Int×Unit)) (fun p=>(i-p.2.1).toNat) (fun p=>Seg d n a b ys p.1∧a≤p.2.1∧p.2.1≤i-1∧∀k,0≤k→k<(n:Int)→qJ p.1 k d=if a≤k∧k<p.2.1 then qJ ys (k+1) d else if k=p.2.1 then qJ ys a d else qJ ys k d) (qom P d n le a b ys) ?_ N _ ⟨.refl d _ _ ys,by simp only;omega,by simp only;omega,fun k k0 k1=>by
    simp only;rw[if_neg (by omega)];by_cases w:k=a
    ·rw[if_pos w,w]
    ·rw[if_neg w]⟩ (by simp only;omega)
   rintro jh ⟨zs,k,⟨⟩⟩ ⟨hz,hk,hki,hg⟩ hjh;simp only at hz hk hki hg hjh⊢
   have hzc:=hz.ck d h;by_cases hk2:k<i-1
   ·have s1:qaj .i64 k 1=k+1:=qbK (by omega) (by omega);simp only[ltT hk2,s1,hzc.inB (i:=k) (by omega) (by omega),hzc.inB (i:=k+1) (by omega) (by omega),qkb,zaw,cond_true];have g:=qgT d hzc.len (i:=k) (j:=k+1) (by omega) (by omega) (by omega) (by omega);refine hjh (swp d zs k (k+1),(k+1,())) ⟨hz.trans d (qiQ d hzc.len ha hb (by omega) (by omega) (by omega) (by omega)),by simp only;omega,by simp only;omega,fun x x0 x1=>?_⟩ (by simp only;omega);simp only;rw[g x x0];by_cases w1:x=k+1
    ·rw[if_pos w1,if_neg (by omega),if_pos w1,hg k (by omega) (by omega),if_neg (by omega),if_pos rfl]
    rw[if_neg w1];by_cases w2:x=k
    ·rw[if_pos w2,if_pos (by omega),hg (k+1) (by omega) (by omega),if_neg (by omega),if_neg (by omega),w2]
    rw[if_neg w2,hg x x0 x1];by_cases w3:a≤x∧x<k
    ·rw[if_pos w3,if_pos (by omega)]
    ·rw[if_neg w3,if_neg w2,if_neg (by omega),if_neg w1]
   ·have:k=i-1:=by omega
    subst this;simp only[ltF hk2,cond_false];refine⟨zs,rfl,hz,fun x y x1 x2 x3=>?_⟩;rw[hg x (by omega) (by omega),hg y (by omega) (by omega)];by_cases w1:a≤x∧x<i-1
    ·rw[if_pos w1];by_cases w2:a≤y∧y<i-1
     ·rw[if_pos w2];exact sr (x+1) (y+1) (by omega) (by omega) (by omega)
     ·rw[if_neg w2];by_cases w3:y=i-1
      ·rw[if_pos w3];exact lo (x+1) (by omega) (by omega)
      ·rw[if_neg w3];exact sr (x+1) y (by omega) (by omega) (by omega)
    ·rw[if_neg w1,if_neg (by omega:¬(a≤y∧y<i-1))];by_cases w2:x=i-1
     ·rw[if_pos w2];by_cases w3:y=i-1
      ·rw[if_pos w3];exact hφ.refl pa
      ·rw[if_neg w3];exact hi' y (by omega) (by omega)
     ·rw[if_neg w2,if_neg (by omega:¬y=i-1)];exact sr x y (by omega) x2 (by omega)
 simp only[eqF q1,cond_false];by_cases q2:b-m=1
 ·simp only[eqT q2,cond_true];refine qbY (S:=List α×(Int×(Int×Unit))) (fun p=>(p.2.2.1-p.2.1).toNat) (fun p=>p.1=xs∧a≤p.2.1∧p.2.1≤p.2.2.1∧p.2.2.1≤m∧(∀k,a≤k→k<p.2.1→le (qJ xs k d) (qJ xs m d))∧∀k,p.2.2.1≤k→k<m→le (qJ xs m d) (qJ xs k d)) (qom P d n le a b xs) ?_ N _ ⟨rfl,by simp only;omega,by simp only;omega,by simp only;omega,fun k k1 k2=>by simp only at k2;omega,fun k k1 k2=>by simp only at k1;omega⟩ (by simp only;omega);rintro ih1 ⟨ys,i,j,⟨⟩⟩ ⟨hy,hi,hij,hj,lo,hi'⟩ hih;simp only at hy hi hij hj lo hi' hih⊢
  subst hy;have pm:=h.get d (i:=m) (by omega) (by omega);by_cases hc:i<j
  ·have em:=qif (x:=i) (y:=j) (by omega) (by omega) (by omega);have em1:qaj .i64 ((i+j)/2) 1=(i+j)/2+1:=qbK (by omega) (by omega);have ph:=h.get d (i:=(i+j)/2) (by omega) (by omega);obtain⟨c,e3,e4⟩:=qpM hφ pm ph;simp only[ltT hc,cond_true,em,em1,h.inB (i:=(i+j)/2) (by omega) (by omega),h.inB (i:=m) (by omega) (by omega),e3,qf,qg,zaw];rcases e4 with⟨c0,-,c2⟩|⟨c0,c1⟩
   ·simp only[ltT c0,Bool.not_true,cond_false];refine hih _ ⟨rfl,hi,by simp only;omega,by simp only;omega,lo,fun k k1 k2=>?_⟩ (by simp only;omega);simp only at k1;exact hφ.trans _ _ _ pm ph (h.get d (by omega) (by omega)) c2 (sl ((i+j)/2) k (by omega) k1 k2)
   ·simp only[ltF c0,Bool.not_false,cond_true];refine hih _ ⟨rfl,by simp only;omega,by simp only;omega,hj,fun k k1 k2=>?_,hi'⟩ (by simp only;omega);simp only at k2;exact hφ.trans _ _ _ (h.get d (by omega) (by omega)) ph pm (sl k ((i+j)/2) k1 (by omega) (by omega)) c1
  ·have:i=j:=by omega
   subst this;simp only[ltF hc,cond_false];refine qbY (S:=List α×(Int×Unit)) (fun p=>(p.2.1-i).toNat) (fun p=>Seg d n a b ys p.1∧i≤p.2.1∧p.2.1≤m∧∀k,0≤k→k<(n:Int)→qJ p.1 k d=if p.2.1<k∧k≤m then qJ ys (k-1) d else if k=p.2.1 then qJ ys m d else qJ ys k d) (qom P d n le a b ys) ?_ N _ ⟨.refl d _ _ ys,by simp only;omega,by simp only;omega,fun k k0 k1=>by
    simp only;rw[if_neg (by omega)];by_cases w:k=m
    ·rw[if_pos w,w]
    ·rw[if_neg w]⟩ (by simp only;omega)
   rintro jh ⟨zs,k,⟨⟩⟩ ⟨hz,hk,hki,hg⟩ hjh;simp only at hz hk hki hg hjh⊢
   have hzc:=hz.ck d h;by_cases hk2:i<k
   ·have s1:qaF .i64 k 1=k-1:=qby (by omega) (by omega);simp only[ltT hk2,s1,hzc.inB (i:=k) (by omega) (by omega),hzc.inB (i:=k-1) (by omega) (by omega),qkb,zaw,cond_true];have g:=qgT d hzc.len (i:=k) (j:=k-1) (by omega) (by omega) (by omega) (by omega);refine hjh (swp d zs k (k-1),(k-1,())) ⟨hz.trans d (qiQ d hzc.len ha hb (by omega) (by omega) (by omega) (by omega)),by simp only;omega,by simp only;omega,fun x x0 x1=>?_⟩ (by simp only;omega);simp only;rw[g x x0];by_cases w1:x=k-1
    ·rw[if_pos w1,if_neg (by omega),if_pos w1,hg k (by omega) (by omega),if_neg (by omega),if_pos rfl]
    rw[if_neg w1];by_cases w2:x=k
    ·rw[if_pos w2,if_pos (by omega),hg (k-1) (by omega) (by omega),if_neg (by omega),if_neg (by omega),w2]
    rw[if_neg w2,hg x x0 x1];by_cases w3:k<x∧x≤m
    ·rw[if_pos w3,if_pos (by omega)]
    ·rw[if_neg w3,if_neg w2,if_neg (by omega),if_neg w1]
   ·have:k=i:=by omega
    subst this;simp only[ltF hk2,cond_false];refine⟨zs,rfl,hz,fun x y x1 x2 x3=>?_⟩;rw[hg x (by omega) (by omega),hg y (by omega) (by omega)];by_cases w1:k<x∧x≤m
    ·rw[if_pos w1,if_pos (by omega:k<y∧y≤m)];exact sl (x-1) (y-1) (by omega) (by omega) (by omega)
    ·rw[if_neg w1];by_cases w2:x=k
     ·rw[if_pos w2];by_cases w3:k<y∧y≤m
      ·rw[if_pos w3];exact hi' (y-1) (by omega) (by omega)
      ·rw[if_neg w3,if_pos (by omega:y=k)];exact hφ.refl pm
     ·rw[if_neg w2];by_cases w3:k<y∧y≤m
      ·rw[if_pos w3];exact sl x (y-1) (by omega) (by omega) (by omega)
      ·rw[if_neg w3];by_cases w4:y=k
       ·rw[if_pos w4];exact lo x (by omega) (by omega)
       ·rw[if_neg w4];exact sl x y (by omega) x2 (by omega)
 simp only[eqF q2,cond_false];have em:=qif (x:=a) (y:=b) (by omega) (by omega) (by omega);rw[em];generalize hmid:(a+b)/2=mid;have hm1:a<mid:=by omega
 have hm2:mid<b:=by omega
 have en:qaj .i64 mid m=mid+m:=qbK (by omega) (by omega);have en2:qaF .i64 (mid+m) b=mid+m-b:=qby (by omega) (by omega);have en3:qaF .i64 (mid+m) 1=mid+m-1:=qby (by omega) (by omega);simp only[en,en2,en3];obtain⟨st,r,hst,hr,g1,g2,g3,g4,g5,g6,g7⟩:∃st r:Int,(bif ltI mid m then mid+m-b else a)=st∧(bif ltI mid m then mid else m)=r∧a≤st∧st≤r∧r≤mid∧r≤m∧mid+m-st≤b∧(st=a∨mid+m-st=b)∧(r=mid∨r=m):=by
  by_cases hq:mid<m
  ·exact⟨_,_,rfl,rfl,by rw[ltT hq];simp only[cond_true];exact⟨by omega,by omega,by omega,by omega,by omega,.inr (by omega),.inl trivial⟩⟩
  ·exact⟨_,_,rfl,rfl,by rw[ltF hq];simp only[cond_false];exact⟨by omega,by omega,by omega,by omega,by omega,.inl trivial,.inr trivial⟩⟩
 simp only[hst,hr];refine qbY (S:=List α×(Int×(Int×Unit))) (fun p=>(p.2.2.1-p.2.1).toNat) (fun p=>p.1=xs∧st≤p.2.1∧p.2.1≤p.2.2.1∧p.2.2.1≤r∧(st<p.2.1→le (qJ xs (p.2.1-1) d) (qJ xs (mid+m-p.2.1) d))∧(p.2.2.1<r→le (qJ xs (mid+m-1-p.2.2.1) d) (qJ xs p.2.2.1 d))) (qom P d n le a b xs) ?_ N _ ⟨rfl,by simp only;omega,by simp only;omega,by simp only;omega,fun w=>by simp only at w;omega,fun w=>by simp only at w;omega⟩ (by simp only;omega);rintro ih1 ⟨ys,i,j,⟨⟩⟩ ⟨hy,hi,hij,hj,lo,hi'⟩ hih;simp only at hy hi hij hj lo hi' hih⊢
 subst hy;by_cases hc:i<j
 ·have em:=qif (x:=i) (y:=j) (by omega) (by omega) (by omega);have em1:qaj .i64 ((i+j)/2) 1=(i+j)/2+1:=qbK (by omega) (by omega);have em2:qaF .i64 (mid+m-1) ((i+j)/2)=mid+m-1-(i+j)/2:=qby (by omega) (by omega);obtain⟨c,e3,e4⟩:=qpM hφ (h.get d (i:=mid+m-1-(i+j)/2) (by omega) (by omega)) (h.get d (i:=(i+j)/2) (by omega) (by omega));simp only[ltT hc,cond_true,em,em1,em2,h.inB (i:=mid+m-1-(i+j)/2) (by omega) (by omega),h.inB (i:=(i+j)/2) (by omega) (by omega),e3,qf,qg,zaw];rcases e4 with⟨c0,-,c2⟩|⟨c0,c1⟩
  ·simp only[ltT c0,Bool.not_true,cond_false];exact hih _ ⟨rfl,hi,by simp only;omega,by simp only;omega,lo,fun _=>c2⟩ (by simp only;omega)
  ·simp only[ltF c0,Bool.not_false,cond_true];refine hih _ ⟨rfl,by simp only;omega,by simp only;omega,hj,fun _=>?_,hi'⟩ (by simp only;omega);simp only;rw[show(i+j)/2+1-1=(i+j)/2 by omega,show mid+m-((i+j)/2+1)=mid+m-1-(i+j)/2 by omega];exact c1
 ·have hijq:i=j:=by omega
  subst hijq;have ee:qaF .i64 (mid+m) i=mid+m-i:=qby (by omega) (by omega);simp only[ltF hc,cond_false,ee];generalize hen:mid+m-i=en at *
  obtain⟨zs,z1,z2,z3,z4⟩:∃zs,Seg d n a b ys zs∧(bif (ltI i m&&ltI m en)then qp (qeu d N (ys,(i,(m,(en,(φ,()))))))else true)=true∧(bif (ltI i m&&ltI m en)then(qy (qeu d N (ys,(i,(m,(en,(φ,())))))) ((),(([]:List α),()))).2.1 else ys)=zs∧∀k,0≤k→k<(n:Int)→qJ zs k d=qsA d ys i m en k:=by
   by_cases hq:i<m∧m<en
   ·obtain⟨out,k1,k2,k3⟩:=qqV (φ:=φ) (P:=P) d hn hN h (a:=i) (m:=m) (b:=en) (by omega) hq.1 hq.2 (by omega);exact⟨out,k2.mono d ha hb (by omega) (by omega),by simp only[ltT hq.1,ltT hq.2,zaw,cond_true,k1,qf],by simp only[ltT hq.1,ltT hq.2,zaw,cond_true,k1,qg],k3⟩
   ·have e:(ltI i m&&ltI m en)=false:=by
     by_cases hq1:i<m
     ·rw[ltF (fun hq2=>hq ⟨hq1,hq2⟩),Bool.and_false]
     ·rw[ltF hq1,Bool.false_and]
    refine⟨ys,.refl d _ _ ys,by simp only[e,cond_false],by simp only[e,cond_false],fun k k0 k1=>?_⟩;by_cases w0:i≤k∧k<en
    ·by_cases w1:i=m
     ·rw[qf2 d ys (by omega) (by omega)];congr 1;omega
     ·rw[qga d ys (by omega) (by omega)];congr 1;omega
    ·rw[qe9 d ys (by omega) (by omega) (by omega)]
  have zc:=z1.ck d h;simp only[z2,z3,cond_true];have hL1:∀k,a≤k→k<i→qJ zs k d=qJ ys k d:=fun k k1 k2=>by rw[z4 k (by omega) (by omega),qe9 d ys (by omega) (by omega) (by omega)]
  have hL2:∀k,i≤k→k<mid→qJ zs k d=qJ ys (k+(m-i)) d:=fun k k1 k2=>by rw[z4 k (by omega) (by omega),qf2 d ys (by omega) (by omega)]
  have hR1:∀k,mid≤k→k<en→qJ zs k d=qJ ys (k-(en-m)) d:=fun k k1 k2=>by rw[z4 k (by omega) (by omega),qga d ys (by omega) (by omega)]
  have hR2:∀k,en≤k→k<b→qJ zs k d=qJ ys k d:=fun k k1 k2=>by rw[z4 k (by omega) (by omega),qe9 d ys (by omega) (by omega) (by omega)]
  have cross:∀x y,a≤x→x<mid→mid≤y→y<b→le (qJ zs x d) (qJ zs y d):=fun x y x1 x2 y1 y2=>by
   by_cases wx:x<i
   ·rw[hL1 x x1 wx];by_cases wy:y<en
    ·rw[hR1 y y1 wy];exact sl x _ x1 (by omega) (by omega)
    ·rw[hR2 y (by omega) y2];have:=lo (by omega);refine hφ.trans _ _ _ (h.get d (by omega) (by omega)) (h.get d (i:=i-1) (by omega) (by omega)) (h.get d (by omega) (by omega)) (sl x (i-1) x1 (by omega) (by omega)) (hφ.trans _ _ _ (h.get d (i:=i-1) (by omega) (by omega)) (h.get d (i:=en) (by omega) (by omega)) (h.get d (by omega) (by omega)) this (sr en y (by omega) (by omega) y2))
   ·rw[hL2 x (by omega) x2];by_cases wy:y<en
    ·rw[hR1 y y1 wy];have:=hi' (by omega);rw[show mid+m-1-i=en-1 by omega]at this;refine hφ.trans _ _ _ (h.get d (by omega) (by omega)) (h.get d (i:=en-1) (by omega) (by omega)) (h.get d (by omega) (by omega)) (sr _ (en-1) (by omega) (by omega) (by omega)) (hφ.trans _ _ _ (h.get d (i:=en-1) (by omega) (by omega)) (h.get d (i:=i) (by omega) (by omega)) (h.get d (by omega) (by omega)) this (sl i _ (by omega) (by omega) (by omega)))
    ·rw[hR2 y (by omega) y2];exact sr _ y (by omega) (by omega) y2
  have s1:Srt d le a i zs:=fun x y x1 x2 x3=>by rw[hL1 x x1 (by omega),hL1 y (by omega) x3];exact sl x y x1 x2 (by omega)
  have s2:Srt d le i mid zs:=fun x y x1 x2 x3=>by rw[hL2 x x1 (by omega),hL2 y (by omega) x3];exact sr _ _ (by omega) (by omega) (by omega)
  have s3:Srt d le mid en zs:=fun x y x1 x2 x3=>by rw[hR1 x x1 (by omega),hR1 y (by omega) x3];exact sl _ _ (by omega) (by omega) (by omega)
  have s4:Srt d le en b zs:=fun x y x1 x2 x3=>by rw[hR2 x x1 (by omega),hR2 y (by omega) x3];exact sr x y (by omega) x2 x3
  obtain⟨ws,w1,w2,w3,w4⟩:∃ws,Seg d n a mid zs ws∧(bif (ltI a i&&ltI i mid)then qp (Fs (zs,(a,(i,(mid,(φ,()))))))else true)=true∧(bif (ltI a i&&ltI i mid)then(qy (Fs (zs,(a,(i,(mid,(φ,())))))) ((),(([]:List α),()))).2.1 else zs)=ws∧Srt d le a mid ws:=by
   by_cases hq:a<i∧i<mid
   ·obtain⟨out,k1,k2,k3⟩:=ih zs zc a i mid ha hq.1 hq.2 (by omega) (by omega) s1 s2;exact⟨out,k2,by simp only[ltT hq.1,ltT hq.2,zaw,cond_true,k1,qf],by simp only[ltT hq.1,ltT hq.2,zaw,cond_true,k1,qg],k3⟩
   ·have e:(ltI a i&&ltI i mid)=false:=by
     by_cases hq1:a<i
     ·rw[ltF (fun hq2=>hq ⟨hq1,hq2⟩),Bool.and_false]
     ·rw[ltF hq1,Bool.false_and]
    refine⟨zs,.refl d _ _ zs,by simp only[e,cond_false],by simp only[e,cond_false],?_⟩;by_cases hq1:a<i
    ·rw[show mid=i by omega];exact s1
    ·rw[show a=i by omega];exact s2
  have wc:=w1.ck d zc;simp only[w2,w3,cond_true];have s3':Srt d le mid en ws:=fun x y x1 x2 x3=>by rw[w1.out x (by omega) (by omega) (by omega),w1.out y (by omega) (by omega) (by omega)];exact s3 x y x1 x2 x3
  have s4':Srt d le en b ws:=fun x y x1 x2 x3=>by rw[w1.out x (by omega) (by omega) (by omega),w1.out y (by omega) (by omega) (by omega)];exact s4 x y x1 x2 x3
  have cross':∀x y,a≤x→x<mid→mid≤y→y<b→le (qJ ws x d) (qJ ws y d):=fun x y x1 x2 y1 y2=>by
   obtain⟨k,k1,k2,k3⟩:=w1.inn x x1 x2;rw[k3,w1.out y (by omega) (by omega) (by omega)];exact cross k y k1 k2 y1 y2
  have last:∀out,Seg d n mid b ws out→Srt d le mid b out→qom P d n le a b ys (some ((),(out,()))):=fun out o1 o2=>by
   refine⟨out,rfl,z1.trans d ((w1.mono d ha hb (by omega) (by omega)).trans d (o1.mono d ha hb (by omega) (by omega))),fun x y x1 x2 x3=>?_⟩;by_cases wy:y<mid
   ·rw[o1.out x (by omega) (by omega) (by omega),o1.out y (by omega) (by omega) (by omega)];exact w4 x y x1 x2 wy
   ·by_cases wx:x<mid
    ·obtain⟨k,k1,k2,k3⟩:=o1.inn y (by omega) x3;rw[k3,o1.out x (by omega) (by omega) (by omega)];exact cross' x k x1 wx k1 k2
    ·exact o2 x y (by omega) x2 x3
  by_cases hq:mid<en∧en<b
  ·obtain⟨out,k1,k2,k3⟩:=ih ws wc mid en b (by omega) hq.1 hq.2 hb (by omega) s3' s4';simp only[ltT hq.1,ltT hq.2,zaw,cond_true,k1,qf,qg];exact last out k2 k3
  ·have e:(ltI mid en&&ltI en b)=false:=by
    by_cases hq1:mid<en
    ·rw[ltF (fun hq2=>hq ⟨hq1,hq2⟩),Bool.and_false]
    ·rw[ltF hq1,Bool.false_and]
   simp only[e,cond_false,cond_true];refine last ws (.refl d _ _ ws) ?_;by_cases hq1:mid<en
   ·have:en=b:=by omega
    rw[←this];exact s3'
   ·have:mid=en:=by omega
    rw[this];exact s4'
theorem qh7 (hφ:Cmp P φ le) (hn:n≤1099511627776) (hN:2*n+1<N):∀M:Nat,qvs P d n le φ M (qh3 d N M)
 |0=>fun xs h a m b ha h1 h2 hb hM=>by omega
 |M+1=>qri d hφ hn hN (qh7 hφ hn hN M)
inductive Bk (d:α) (le:α→α→Prop) (n:Nat) (s:Int) (xs:List α):Int→Prop where
 |last {a:Int}:a≤(n:Int)→(n:Int)≤a+s→Srt d le a (n:Int) xs→Bk d le n s xs a
 |step {a:Int}:a+s≤(n:Int)→Srt d le a (a+s) xs→Bk d le n s xs (a+s)→Bk d le n s xs a
inductive Pf (d:α) (le:α→α→Prop) (s:Int) (xs:List α):Int→Prop where
 |zero:Pf d le s xs 0
 |step {a:Int}:0≤a→Pf d le s xs a→Srt d le a (a+s) xs→Pf d le s xs (a+s)
theorem Pf.bk {s:Int}{xs:List α}:∀ {a:Int},Pf d le s xs a→a≤(n:Int)→0≤s→Bk d le n s xs a→Bk d le n s xs 0
 |_,.zero,_,_,h=>h
 |_,.step h0 hp hs,hn,h0s,h=>hp.bk (by omega) h0s (.step (by omega) hs h)
theorem Srt.same {a b:Int}{xs ys:List α}(h:Srt d le a b xs) (he:∀k,a≤k→k<b→qJ ys k d=qJ xs k d):Srt d le a b ys:=fun x y x1 x2 x3=>by
 rw[he x x1 (by omega),he y (by omega) x3];exact h x y x1 x2 x3
theorem Pf.same {s:Int}{xs ys:List α}(h0s:0≤s):∀ {a:Int},Pf d le s xs a→(∀k,0≤k→k<a→qJ ys k d=qJ xs k d)→Pf d le s ys a
 |_,.zero,_=>.zero
 |_,.step h0 hp hs,he=>.step h0 (hp.same h0s fun k k0 k1=>he k k0 (by omega)) (hs.same d fun k k0 k1=>he k (by omega) (by omega))
theorem Bk.same {s:Int}{xs ys:List α}(h0s:0≤s):∀ {a:Int},Bk d le n s xs a→(∀k,a≤k→k<(n:Int)→qJ ys k d=qJ xs k d)→Bk d le n s ys a
 |_,.last h1 h2 hs,he=>.last h1 h2 (hs.same d fun k k0 k1=>he k k0 k1)
 |_,.step h1 hs hb,he=>.step h1 (hs.same d fun k k0 k1=>he k k0 (by omega)) (hb.same h0s fun k k0 k1=>he k (by omega) k1)
theorem Bk.two {s a:Int}{xs:List α}(h:Bk d le n s xs a) (hs:1≤s) (hb:a+2*s≤(n:Int)):Srt d le a (a+s) xs∧Srt d le (a+s) (a+2*s) xs∧Bk d le n s xs (a+2*s):=by
 cases h with
 |last h1 h2 h3=>omega
 |step h1 h2 h3=>
  refine⟨h2,?_⟩;generalize hq:a+s=q at *
  rw[show a+2*s=q+s by omega];cases h3 with
  |last k1 k2 k3=>
   have:(n:Int)=q+s:=by omega
   exact⟨by rw[←this];exact k3,by rw[←this];exact .last (zaF _) (by omega) fun x y x1 x2 x3=>by omega⟩
  |step k1 k2 k3=>exact⟨k2,k3⟩
theorem Bk.one {s a:Int}{xs:List α}(h:Bk d le n s xs a) (hs:1≤s) (hb:(n:Int)<a+2*s) (hm:a+s<(n:Int)):Srt d le a (a+s) xs∧Srt d le (a+s) (n:Int) xs:=by
 cases h with
 |last h1 h2 h3=>omega
 |step h1 h2 h3=>
  refine⟨h2,?_⟩;generalize hq:a+s=q at *
  cases h3 with
  |last k1 k2 k3=>exact k3
  |step k1 k2 k3=>omega
theorem Bk.nil {s a:Int}{xs:List α}(h:Bk d le n s xs a) (hm:(n:Int)≤a+s):Srt d le a (n:Int) xs:=by
 cases h with
 |last h1 h2 h3=>exact h3
 |step h1 h2 h3=>
  have:(n:Int)=a+s:=by omega
  rw[this];exact h2
theorem qq0 (hφ:Cmp P φ le) (hn:n≤1099511627776) (hN:2*n+100<N) {xs:List α}(h:Ck P n xs):qom P d n le 0 (n:Int) xs (qqh d N (xs,((n:Int),(φ,())))):=by
 simp only[qqh,qak];refine qbY (S:=List α×(Int×(Int×Unit))) (fun p=>((n:Int)+20-p.2.2.1).toNat) (fun p=>Seg d n 0 (n:Int) xs p.1∧0≤p.2.1∧p.2.1≤(n:Int)∧p.2.2.1=p.2.1+20∧Pf d le 20 p.1 p.2.1) (qom P d n le 0 (n:Int) xs) ?_ N _ ⟨.refl d _ _ xs,by simp only;omega,by simp only;omega,by simp only;omega,.zero⟩ (by simp only;omega);rintro ih ⟨ys,a,b,⟨⟩⟩ ⟨hs,ha,ha2,hb,hp⟩ hih;simp only at hs ha ha2 hb hp hih⊢
 have hc:=hs.ck d h;by_cases q:b≤(n:Int)
 ·obtain⟨out,o1,o2,o3⟩:=ql6 d (N:=N) hφ hn (by omega) hc (a:=a) (b:=b) ha ha2 q;have e1:qaj .i64 b 20=b+20:=qbK (by omega) (by omega);simp only[leT q,cond_true,o1,qf,qg,e1];subst hb;exact hih _ ⟨hs.trans d (o2.mono d (zaF 0) (zaF _) ha q),by simp only;omega,by simp only;omega,by simp only,.step ha (hp.same d (by omega) fun k k0 k1=>o2.out k k0 (by omega) (by omega)) o3⟩ (by simp only;omega)
 ·obtain⟨out,o1,o2,o3⟩:=ql6 d (N:=N) hφ hn (by omega) hc (a:=a) (b:=(n:Int)) ha ha2 (zaF _);simp only[leF q,cond_false,o1,qf,qg,cond_true];have hbk:Bk d le n 20 out 0:=(hp.same d (by omega) fun k k0 k1=>o2.out k k0 (by omega) (by omega)).bk d ha2 (by omega) (.last ha2 (by omega) o3);refine qbY (S:=List α×(Int×Unit)) (fun p=>((n:Int)-p.2.1).toNat) (fun p=>Seg d n 0 (n:Int) xs p.1∧1≤p.2.1∧p.2.1≤2*(n:Int)+20∧Bk d le n p.2.1 p.1 0) (qom P d n le 0 (n:Int) xs) ?_ N _ ⟨hs.trans d (o2.mono d (zaF 0) (zaF _) ha (zaF _)),by simp only;omega,by simp only;omega,hbk⟩ (by simp only;omega);rintro jh ⟨ys,s,⟨⟩⟩ ⟨hs,hs1,hs2,hk⟩ hjh;simp only at hs hs1 hs2 hk hjh⊢
  have hc:=hs.ck d h;by_cases hsn:s<(n:Int)
  ·have e1:qoc .i64 2 s=2*s:=by rw[qhe,qim (by omega) (by omega)]
   have e2:qoc .i64 s 2=2*s:=by rw[qhe,qim (by omega) (by omega)];omega
   simp only[ltT hsn,cond_true,e1,e2];refine qbY (S:=List α×(Int×(Int×Unit))) (fun p=>((n:Int)+2*s-p.2.2.1).toNat) (fun p=>Seg d n 0 (n:Int) xs p.1∧0≤p.2.1∧p.2.1≤(n:Int)∧p.2.2.1=p.2.1+2*s∧Pf d le (2*s) p.1 p.2.1∧Bk d le n s p.1 p.2.1) (qom P d n le 0 (n:Int) xs) ?_ N _ ⟨hs,by simp only;omega,by simp only;omega,by simp only;omega,.zero,hk⟩ (by simp only;omega);rintro kh ⟨zs,a,b,⟨⟩⟩ ⟨hz,ha,ha2,hb,hp,hk⟩ hkh;simp only at hz ha ha2 hb hp hk hkh⊢
   have hzc:=hz.ck d h;have e3:qaj .i64 a s=a+s:=qbK (by omega) (by omega);by_cases q:b≤(n:Int)
   ·subst hb;obtain⟨b1,b2,b3⟩:=hk.two d hs1 q;obtain⟨out,o1,o2,o3⟩:=qh7 d hφ hn (by omega:2*n+1<N) N zs hzc a (a+s) (a+2*s) ha (by omega) (by omega) q (by omega) b1 b2;have e4:qaj .i64 (a+2*s) (2*s)=a+2*s+2*s:=qbK (by omega) (by omega);have o1':qlw d N (zs,(a,(a+s,(a+2*s,(φ,())))))=some ((),(out,())):=o1;simp only[leT q,cond_true,e3,o1',qf,qg,e4];exact hkh _ ⟨hz.trans d (o2.mono d (zaF 0) (zaF _) ha q),by simp only;omega,by simp only;omega,by simp only,.step ha (hp.same d (by omega) fun k k0 k1=>o2.out k k0 (by omega) (by omega)) o3,b3.same d (by omega) fun k k0 k1=>o2.out k (by omega) k1 (by omega)⟩ (by simp only;omega)
   ·simp only[leF q,cond_false,e3];have fin:∀out,Seg d n a (n:Int) zs out→Srt d le a (n:Int) out→qom P d n le 0 (n:Int) xs (jh (out,(2*s,()))):=fun out o1 o2=>
     hjh _ ⟨hz.trans d (o1.mono d (zaF 0) (zaF _) ha (zaF _)),by simp only;omega,by simp only;omega,(hp.same d (by omega) fun k k0 k1=>o1.out k k0 (by omega) (by omega)).bk d ha2 (by omega) (.last ha2 (by omega) o2)⟩ (by simp only;omega)
    by_cases hq:a+s<(n:Int)
    ·obtain⟨b1,b2⟩:=hk.one d hs1 (by omega) hq;obtain⟨out,o1,o2,o3⟩:=qh7 d hφ hn (by omega:2*n+1<N) N zs hzc a (a+s) (n:Int) ha (by omega) hq (zaF _) (by omega) b1 b2;have o1':qlw d N (zs,(a,(a+s,((n:Int),(φ,())))))=some ((),(out,())):=o1;simp only[ltT hq,cond_true,o1',qf,qg];exact fin out o2 o3
    ·simp only[ltF hq,cond_false,cond_true];exact fin zs (.refl d _ _ zs) (hk.nil d (by omega))
  ·simp only[ltF hsn,cond_false];exact⟨ys,rfl,hs,hk.nil d (by omega)⟩
end
end
end Go.Vi
