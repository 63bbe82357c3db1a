import Derived.Test.YtdiobaoelhdkoaaViXB
import Derived.Lib.AppendZeros
import Derived.Lib.AppendStr
import Derived.Laws.CopyRow
import Derived.Laws.BitsLemmas
import Derived.Great.FillDense
import Derived.Great.BuildSlice
import Derived.MapKept
set_option linter.unusedVariables false
set_option linter.unusedSimpArgs false
set_option linter.unnecessarySimpa false
set_option linter.unusedSectionVars false
open Array renaming length_toList → zaG
open Bool renaming and_eq_true → zad
open Int renaming le_refl → zaF, toNat_natCast → zat
open List renaming append_assoc → zau, append_nil → zaO, drop_eq_getElem_cons → zaB, drop_zero → zaN, eq_nil_of_length_eq_zero → zaz, getElem?_drop → zav, getElem?_eq_getElem → zac, getElem?_eq_some_iff → zaK, getElem?_take → zap, length_append → zag, map_cons → zaC, mem_append → zaf, mem_append_left → zab, mem_append_right → zaa, mem_cons → zak, mem_cons_of_mem → zaj, mem_cons_self → zar, mem_singleton → zah, nodup_append → zai, nodup_cons → zaJ, nodup_nil → zaA, replicate → zaT, take_append_drop → zay, take_of_length_le → zan
open Nat renaming add_mul → zaS, le_refl → zax, lt_of_lt_of_le → zaq, mul_le_mul_right → zam, zero_add → zaP, zero_le → zaD
open Option renaming isSome_iff_exists → zaE, map_eq_some_iff → zao
namespace Go.Vi
open Go.RowKit
section
variable {C:Ctx}{E:Env}{σ:St}{tm:Array Value}{a:Act}{w w':World}{own:Own}{o:Oper}{p:qdU} [Tabbed E C]
theorem qaB.at {F:Nat→Prop}: {cs:List qoQ}→{vs:List Value}→{bs:List Nat}→{i:Nat}→{c:qoQ}→qaB w F cs vs bs→cs[i]? =some c→
  ∃v b1 b2 b3,vs[i]? =some v∧bs=b1++b2++b3∧qta w F c v b2∧qaB w F (cs.set i .gone) vs (b1++b3)
 |[],_,_,_,_,_,hc=>by cases hc
 |c::cs,_,_,0,_,⟨v,r,b1,b2,h1,h2,h3,h4⟩,hc=>by
  injection hc with hc;subst hc;exact⟨v,[],b1,b2,by rw[h1];rfl,by rw[h2];rfl,h3,v,r,[],b2,h1,rfl,rfl,h4⟩
 |c::cs,_,_,i+1,_,⟨v,r,b1,b2,h1,h2,h3,h4⟩,hc=>by
  obtain⟨v',c1,c2,c3,k1,k2,k3,k4⟩:=h4.at (i:=i) hc;exact⟨v',b1++c1,c2,c3,by grind,by grind,k3,v,r,b1,c1++c3,h1,by simp,h3,k4⟩
theorem qor (h:qK C σ a.tmps w own) (hp:qa5 (sit C σ a.tmps w own) p) {x:Operand}{i:Nat}(hop:o.op=.extract x i) {f:Eff}
  (he:(qdR E p o).run (qj σ)=some f) (hd:∀u∈f.upd,u.s<σ.length) (hc:qb9 f.chk):qb5 C o a w (qh σ f.upd):=by
 unfold qdR at he;rw[hop]at he;simp only at he;split at he;case h_2=>cases he
 rename_i t;rw[Q.yc]at he;split at he;case h_2=>cases he
 rename_i cs hcs;have hat:=qid hp (h.at_ t);rw[hcs]at hat;obtain⟨vs,h1,h2⟩:=hat;have hr:∀v,vs[i]? =some v→(execOp a.eval o).run C.P w=.ok (.value v) w:=fun v hv=>by
  unfold execOp;rw[hop];have e:a.eval (.tmp t)=.tuple vs.toArray:=h1;simp_all [Instr.extract]
 split at he
 ·rename_i u y hi;have:=qE he;subst this;obtain⟨v,b1,b2,b3,k1,k2,k3,k4⟩:=h2.at hi;exact qaH h (hr v k1) hd k3.2
 ·rename_i et e xs hi;split at he;case h_2=>cases he
  rename_i d hdst;split at he
  ·cases he
  ·rename_i hne;have:=qE he;subst this;obtain⟨v,b1,b2,b3,k1,k2,k3,k4⟩:=h2.at hi;refine qt (hr v k1) ?_;rw[qdG a hdst];exact h.part (s:=t) (d:=d) (hd ⟨t,true,.tup (cs.set i .gone)⟩ (by simp)) (hd ⟨d,true,.own et e xs⟩ (by simp)) hne k2 ⟨vs,h1,k4⟩ k3 rfl rfl
 ·cases he
def qij (X:Sit):List Op1→List Value→Prop
 |[],[]=>True
 |o::os,v::vs=>qaC X o v∧qij X os vs
 |_,_=>False
theorem qiY (h:qK C σ a.tmps w own) {P:Program}{g:Int→Int→Int}{m2:Value→Value→Sem Value}(hg:∀k x y,(m2 (.int k x) (.int k y)).run P w=.ok (.int k (g x y)) w) (hh:∀(k:IntKind) x y,k.has x→k.has y→k.has (g x y)) {k:IntKind}:
  ∀(os:List Op1) (vs:List Value) (n r:Int),k.has n→qij (sit C σ a.tmps w own) os vs→(qne g k n os).run (qj σ)=some r→(vs.foldlM m2 (.int k n)).run P w=.ok (.int k r) w∧k.has r
 |[],[],n,r,hn,_,he=>by
  have:=Q.yb he;simp_all
 |o::os,v::vs,n,r,hn,⟨ho,hos⟩,he=>by
  obtain⟨m,h1,he⟩:=Q.ya he;split at he
  ·rename_i hk;obtain⟨e1,g1⟩:=qcH h ho h1;subst hk;subst e1;obtain⟨k1,k2⟩:=qiY h hg hh os vs (g n m.2) r (hh _ _ _ hn g1) hos he;simp_all
  ·cases he
theorem qiX (h:qK C σ a.tmps w own) (hp:qa5 (sit C σ a.tmps w own) p):∀(xs:List Operand) (ts:List Nat) {os:List Op1},(qtg E p xs ts).run (qj σ)=some os→qij (sit C σ a.tmps w own) os (xs.map a.eval)
 |[],_,os,he=>by
  have:=Q.yb he;subst this;trivial
 |x::xs,ts,os,he=>by
  obtain⟨o1,h1,he⟩:=Q.ya he;obtain⟨r,h2,he⟩:=Q.ya he;have:=Q.yb he;subst this;exact⟨qF h hp h1,qiX h hp xs ts.tail h2⟩
theorem qkw {α β:Type}{R:Nat→α→β→Prop}:∀(xs:List α),(∀i x,xs[i]? =some x→∃c,R i x c)→∃cs:List β,cs.length=xs.length∧∀i x c,xs[i]? =some x→cs[i]? =some c→R i x c
 |[],_=>⟨[],rfl,fun i x c hx=>by cases hx⟩
 |y::ys,h=>by
  obtain⟨c,hc⟩:=h 0 y rfl;obtain⟨cs,h1,h2⟩:=qkw (R:=fun i x c=>R (i+1) x c) ys fun i x hx=>h (i+1) x hx;refine⟨c::cs,by simp[h1],fun i x d hx hd=>?_⟩;grind
def qu4 (w:World) (F:Nat→Prop) (e:Ty) (xs:List e.den) (v:Value):Prop:=
 (v=.slice none 0 0∧xs=[])∨∃(ad:Addr) (cap:Nat) (cells:List Value),v=.slice (some ad) xs.length cap∧cells.length=xs.length*e.size∧(∀j u,cells[j]? =some u→w.cell? (ad.add j)=some u)∧∀i x,xs[i]? =some x→Rep w F e x ((cells.drop (i*e.size)).take e.size)
theorem qO.rowAt {F:Nat→Prop}{et:Nat}{e:Ty}{xs:List e.den}{v:Value}{bs:List Nat}(h:qO w F et e xs v bs):qu4 w F e xs v:=by
 obtain⟨cells,k1,k2,k3⟩:=h;rcases k1.2 with⟨k4,k5⟩|⟨g,cap,cur,k4,_⟩
 ·exact .inl ⟨k4,zaz k5⟩
 ·exact .inr ⟨⟨g,0,none⟩,cap,cells,k4,k1.1,k1.cells (by rw[k4];rfl),k3⟩
theorem qq7 {css:List (List Value)}{sz j:Nat}{u:Value}(h:∀c∈css,c.length=sz) (hu:css.flatten[j]? =some u):∃i c,css[i]? =some c∧c[j%sz]? =some u∧i=j/sz∧j=i*sz+j%sz:=by
 have hpos:0<sz:=by
  grind [List.flatten_eq_nil_iff]
 have hj:j<css.flatten.length:=(zaK.1 hu).1;rw[qdj h]at hj;have hi:j/sz<css.length:=(Nat.div_lt_iff_lt_mul hpos).2 hj;have e:=qaW h (zac hi);have hdm:j/sz*sz+j%sz=j:=by grind [Nat.div_add_mod]
 refine⟨j/sz,css[j/sz],zac hi,?_,rfl,hdm.symm⟩;grind [Nat.mod_lt]
theorem qdJ.rowAt {F:Nat→Prop}{e:Ty}{xs:List e.den}{v:Value}(h:qdJ w F (Rep w F e) e.size xs v):qu4 w F e xs v:=by
 rcases h with h|⟨ad,cap,h1,h2,h3,h4⟩
 ·exact .inl h
 ·obtain⟨css,k1,k2⟩:=qkw (R:=fun i x cs=>qem w (ad.add (i*e.size)) cs∧Rep w F e x cs) xs fun i x hx=>(h4 i x hx).2.2;have hl:∀c∈css,c.length=e.size:=by
   intro c hc;obtain⟨i,hi,rfl⟩:=List.getElem_of_mem hc;exact(k2 i _ _ (zac (by omega)) (zac hi)).2.length
  refine .inr ⟨ad,cap,css.flatten,h1,by rw[qdj hl,k1],fun j u hu=>?_,fun i x hx=>?_⟩
  ·obtain⟨i,c,g1,g2,g3,g4⟩:=qq7 hl hu;have hi:i<xs.length:=by grind
   have:=(k2 i _ c (zac hi) g1).1 _ _ g2;grind [qbi]
  grind [qaW]
theorem qud (h:qK C σ a.tmps w own) {o1:Op1}{v:Value}(ho:qaC (sit C σ a.tmps w own) o1 v) {q:((e:Ty)×List e.den)×List Nat}(he:(qu7 o1).run (qj σ)=some q):qu4 w (C.free w own) q.1.1 q.1.2 v:=by
 obtain⟨os,ov,oa⟩:=o1;unfold qu7 at he;cases oa with
 |own et e xs=>
  have:=Q.yb he;subst this;cases os with
  |none=>exact qO.rowAt (bs:=[]) ho
  |some s=>exact qO.rowAt ho.2.2
 |nilr et e=>
  have:=Q.yb he;subst this;rw[(ho.unowned rfl).2];exact qO.rowAt (bs:=[]) (qO.nil_ w _ et e)
 |nz e xs=>
  have:=Q.yb he;subst this;exact qdJ.rowAt (q9.slice (ho.unowned rfl).2.1)
 |val t xs=>
  cases t with
  |slice e=>
   have:=Q.yb he;subst this;exact qdJ.rowAt (q9.slice (ho.unowned rfl).2)
  |_=>cases he
 |ref s v0=>
  simp only[Q.yc]at he;split at he
  ·rename_i hv;have hu:a.tmps.getD s undef=v:=(ho.unowned rfl).2 hv;have hat:=h.at_ s;rw[hu]at hat;split at he
   ·rename_i et e xs h3;rw[h3]at hat;have:=Q.yb he;subst this;exact qO.rowAt hat
   ·rename_i e xs h3;rw[h3]at hat;have:=Q.yb he;subst this;exact qdJ.rowAt (q9.slice hat.2)
   ·cases he
  ·cases he
 |bref s v0 off u=>
  simp only at he;split at he
  ·rename_i hag;rw[Q.yc]at he;split at he
   ·rename_i hv;split at he
    ·rename_i r h3;obtain⟨et,e,xs⟩:=r;have:=Q.yb he;subst this;obtain⟨_,b1,b2,b3,q1,_⟩:=h.rowAt h3 (qh8 (ho.unowned rfl) hag hv);exact qO.rowAt q1
    ·cases he
   ·cases he
  ·cases he
 |_=>cases he
end
end Go.Vi
namespace Go.Vi
open Go.RowKit
section
variable {C:Ctx}{E:Env}{σ:St}{tm:Array Value}{a:Act}{w w':World}{own:Own}{o:Oper}{p:qdU} [Tabbed E C]
def qut (C:Ctx) (σ:St) (tm:Array Value) (w:World) (own:Own) (ro:Option (Nat×AV)) (b2:List Nat):Prop:=
 match ro with
 |none=>b2=[]
 |some p=>p.1<σ.length∧(p.2.mentions=[]∧p.2.isHeap=false)∧∃b1 b3,own p.1=b1++(b2++b3)∧∀W,qaA (fun k=>k∈b2) w W→qS { sit C σ tm w own with w:=W } p.2 (tm.getD p.1 undef) (b1++b3)
theorem qkG (h:qK C σ a.tmps w own) {o1:Op1}{v:Value}(ho:qaC (sit C σ a.tmps w own) o1 v) (hs:∀s,o1.s=some s→o1.a≠ .undef→s<σ.length) {r:Option (Nat×AV)×Nat×((e:Ty)×List e.den)}(he:(qj3 o1).run (qj σ)=some r):
  ∃b2,qO w (C.free w own) r.2.1 r.2.2.1 r.2.2.2 v b2∧qut C σ a.tmps w own r.1 b2:=by
 obtain⟨os,ov,oa⟩:=o1;unfold qj3 at he;cases oa with
 |own et e xs=>
  have:=Q.yb he;subst this;cases os with
  |none=>exact⟨[],ho,rfl⟩
  |some s=>exact⟨own s,ho.2.2,hs s rfl (by simp),⟨rfl,rfl⟩,[],[],by simp,fun W _=>trivial⟩
 |nilr et e=>
  have:=Q.yb he;subst this;rw[(ho.unowned rfl).2];exact⟨[],qO.nil_ w _ et e,rfl⟩
 |ref s v0=>
  simp only[Q.yc]at he;split at he
  ·rename_i hv;have hu:a.tmps.getD s undef=v:=(ho.unowned rfl).2 hv;have hat:=h.at_ s;rw[hu]at hat;split at he
   ·rename_i et e xs h3;rw[h3]at hat;have:=Q.yb he;subst this;refine⟨own s,hat,?_,⟨rfl,rfl⟩,[],[],by simp,fun W _=>trivial⟩;grind [qj]
   ·cases he
  ·cases he
 |bref s v0 off u=>
  simp only at he;split at he
  ·rename_i hag;rw[Q.yc]at he;split at he
   ·rename_i hv;split at he
    ·rename_i r0 a0 h3 h4;obtain⟨et,e,xs⟩:=r0;have:=Q.yb he;subst this;obtain⟨hlt,b1,b2,b3,q1,q2,q3,q4⟩:=h.rowAt h3 (qh8 (ho.unowned rfl) hag hv);obtain⟨_,hm⟩:=q4 w (.hole 1) [] a0 (qaA.refl _ _) ⟨rfl,rfl⟩ h4;exact⟨b2,q1,hlt,⟨hm,AV.yh h4⟩,b1,b3,q2,fun W hk=>(q4 W (.hole 1) [] a0 hk ⟨rfl,rfl⟩ h4).1⟩
    ·cases he
   ·cases he
  ·cases he
 |_=>cases he
theorem ql7 {P:Program}{t ty e:Nat}{i:TypeInfo}{z:Value}{size bytes:Nat}(ht:P.underlying t=some (.slice e)) (hi:P.info? e=some i) (hz:i.zero=some z)
  (hsize:i.size=size) (hby:i.bytes=bytes) (hzs:z.cells.size=size) (hsz:0<size) {v:Value}{n:Nat}{xs:List Value}(hown:w.ownsRow 0 e size v n xs)
  {ad:Addr}{m c:Nat}{news:List Value}(hl:news.length=m*size) (hnews:∀j u,news[j]? =some u→w.cell? (ad.add j)=some u) (h1:∀u∈news,u.oneCell'=true)
  (h63:n+m≤maxLen) (hbytes:(n+m)*bytes≤140737488355328):
  ∃v' w',(Builtin.append_ #[t,t] ty #[v,.slice (some ad) m c]).run P w=.ok v' w'∧w'.ownsRow 0 e size v' (n+m) (xs++news)∧w.grownBy w' v.ownBlock∧
   ∀b∈v'.ownBlock.toList,(w.heap.size≤b∧b<w'.heap.size)∨b∈v.ownBlock.toList:=by
 obtain⟨v',w',k1,k2,k3,k4⟩:=run_append_own (P:=P) w 0 t ty e i z size bytes ht hi hz hsize hby hzs hsz v n xs hown ad m c news hl hnews h1 h63 hbytes (zaD _);refine⟨v',w',k1,k2,k3,?_⟩;subst hsize;subst hby;have hsmall:n+m≤9223372036854775807:=by grind [maxLen]
 have fresh:∀ {cap:Nat}{o:Obj}{w1:World},w1.heap.size=w.heap.size→(Builtin.append_ #[t,t] ty #[v,.slice (some ad) m c]).run P w=.ok (.slice (some ⟨w.heap.size,0,none⟩) (n+m) cap) (w1.alloc o)→∀b∈v'.ownBlock.toList,(w.heap.size≤b∧b<w'.heap.size)∨b∈v.ownBlock.toList:=by
  simp_all [Value.ownBlock]
 rcases hown.2 with⟨rfl,rfl⟩|⟨g,cap,cur,rfl,hbg,hg,hnc,hcm,hcs,htake⟩
 ·have hx:xs=[]:=zaz (by simpa using hown.1);by_cases hm:m=0
  ·grind
  ·have hr:=run_append_nil (P:=P) w t ty e i z ht hi hz ad m c news hl hnews (by omega) (by omega) (by grind);exact fresh (w1:=w.drew) (cap:=grownCap w m 0 e) (by rfl) (by rw[hr,zaP])
 ·by_cases hroom:n+m≤cap
  ·have hfit:n*i.size+news.length≤cur.size:=by rw[hl,hcs,←zaS];exact zam _ hroom
   have hr:=run_append_room (P:=P) w t ty e i ht hi g n cap cur hg ad m c news hl hnews h1 hroom hfit;rw[hr]at k1;injection k1 with e1 e2;subst e1;intro b hb;exact .inr hb
  ·have holds:∀j u,xs[j]? =some u→w.cell? ((⟨g,0,none⟩:Addr).add j)=some u:=hown.cells (g:=g) rfl;have hr:=run_append_grow (P:=P) w t ty e i z ht hi hz ⟨g,0,none⟩ n cap xs hown.1 holds ad m c news hl hnews (by omega) (by omega) (growslice_fits (by omega) hbytes);exact fresh (w1:=w.drew) (by rfl) hr
theorem qrn {P:Program}{t ty e:Nat}{i:TypeInfo}{z:Value}{size bytes:Nat}(ht:P.underlying t=some (.slice e)) (hi:P.info? e=some i) (hz:i.zero=some z)
  (hsize:i.size=size) (hby:i.bytes=bytes) {v:Value}{n:Nat}{xs:List Value}(hown:w.ownsRow 0 e size v n xs)
  {ad:Addr}{m c:Nat}{news:List Value}(hl:news.length=m*size) (hnews:∀j u,news[j]? =some u→w.cell? (ad.add j)=some u) (h1:∀u∈news,u.oneCell'=true)
  (h63:n+m≤maxLen) (hbytes:(n+m)*bytes≤140737488355328) {v':Value}{w':World}(hr:(Builtin.append_ #[t,t] ty #[v,.slice (some ad) m c]).run P w=.ok v' w'):
  ∀g∈v.ownBlock.toList,w'.heap[g]? =w.heap[g]? ∨(v'.ownBlock=some g∧∃cur cur':Array Value,w.heap[g]? =some (.cells cur e (0,0))∧w'.heap[g]? =some (.cells cur' e (0,0))∧cur'.size=cur.size∧cur'.toList.take (n*size)=cur.toList.take (n*size)):=by
 subst hsize;subst hby;have hsmall:n+m≤9223372036854775807:=by grind [maxLen]
 rcases hown.2 with⟨rfl,rfl⟩|⟨g,cap,cur,rfl,hbg,hg,hnc,hcm,hcs,htake⟩
 ·intro g hg;cases hg
 ·intro g' hg';simp[Value.ownBlock]at hg';subst hg';by_cases hroom:n+m≤cap
  ·have hfit:n*i.size+news.length≤cur.size:=by rw[hl,hcs,←zaS];exact zam _ hroom
   have hr':=run_append_room (P:=P) w t ty e i ht hi g' n cap cur hg ad m c news hl hnews h1 hroom hfit;rw[hr']at hr;injection hr with e1 e2;subst e1;subst e2;have hcz:cur.toList.length=cur.size:=zaG;refine .inr ⟨rfl,cur,_,hg,setRow_heap w g' _ _ e _ hg,?_,?_⟩;all_goals grind
  ·have holds:∀j u,xs[j]? =some u→w.cell? ((⟨g',0,none⟩:Addr).add j)=some u:=hown.cells (g:=g') rfl;have hr':=run_append_grow (P:=P) w t ty e i z ht hi hz ⟨g',0,none⟩ n cap xs hown.1 holds ad m c news hl hnews (by omega) (by omega) (growslice_fits (by omega) hbytes);rw[hr']at hr;injection hr with e1 e2;subst e2;exact .inl (qef w.drew _ _ (Array.getElem?_eq_some_iff.1 hg).1)
theorem ql9 (h:qK C σ a.tmps w own) {d et:Nat}{e:Ty}{xs zs:List e.den}{ro:Option (Nat×AV)}{x:Value}{cells:List Value}(hdst:o.dst=some d) (c6:ro.map (·.1)≠some d) (hdl:d<σ.length)
  (hleft:qut C σ a.tmps w own ro x.ownBlock.toList) (g1:w.ownsRow 0 et e.size x xs.length cells) (g3:∀(i:Nat) (u:e.den),xs[i]? =some u→Rep w (C.free w own) e u ((cells.drop (i*e.size)).take e.size))
  (key:∃v' w' news,(execOp a.eval o).run C.P w=.ok (.value v') w'∧w'.ownsRow 0 et e.size v' (xs.length+zs.length) (cells++news)∧w.grownBy w' x.ownBlock∧
   (∀b∈v'.ownBlock.toList,(w.heap.size≤b∧b<w'.heap.size)∨b∈x.ownBlock.toList)∧(∀(i:Nat) (u:e.den),zs[i]? =some u→Rep w (C.free w own) e u ((news.drop (i*e.size)).take e.size))):
  qb5 C o a w (qh σ (qvK ro++[⟨d,true,.own et e (ql0 xs zs)⟩])):=by
 obtain⟨v',w',news,a1,a2,a3,a4,a5⟩:=key;refine qt (v:=v') (w':=w') a1 ?_;rw[qdG a hdst];have hkept:qaA (fun k=>k∈x.ownBlock.toList) w w':=(qaA.yt a3).mono fun k hk=>by grind
 have hnot:∀b,C.free w own b→some b≠x.ownBlock:=fun b hb e=>by
  cases ro with
  |none=>
   have:x.ownBlock.toList=[]:=hleft;grind
  |some p=>
   obtain⟨_,_,b1,b3,q2,_⟩:=hleft;refine hb.2.2 p.1 ?_;grind
 have hfree:∀b,C.free w own b→b<w.heap.size→(C.free w own b)∧b<w'.heap.size∧w'.heap[b]? =w.heap[b]? :=fun b hb hlt=>⟨hb,zaq hlt a3.size,a3.block b hlt (hnot b hb)⟩;have hnd:v'.ownBlock.toList.Nodup:=by grind
 have qN:qO w' (C.free w own) et e (ql0 xs zs) v' v'.ownBlock.toList:=by
  refine⟨cells++news,by simpa[qfU]using a2,rfl,fun i u hi=>?_⟩;have hcl:cells.length=xs.length*e.size:=g1.1;by_cases hlt:i<xs.length
  ·have hi':xs[i]? =some u:=by
    grind [qfU]
   have hle:(i+1)*e.size≤xs.length*e.size:=zam _ hlt;rw[zaS,Nat.one_mul]at hle;rw[qiP (by omega)];exact(g3 i u hi').keep hfree
  ·have hi':zs[i-xs.length]? =some u:=by
    grind [qfU]
   have hle:xs.length*e.size≤i*e.size:=zam _ (by omega);rw[qbU (by omega),hcl,←Nat.sub_mul];exact(a5 _ u hi').keep hfree
 cases ro with
 |none=>
  have h0:x.ownBlock.toList=[]:=hleft;exact h.mut hdl [] (fun _ hx=>by cases hx) (hkept.mono fun k hk=>by grind) (av:= .own et e (ql0 xs zs)) (v:=v') (bs:=v'.ownBlock.toList) (fun b hb=>by
   grind) hnd qN rfl
 |some p=>
  obtain⟨q0,qm,b1,b3,q2,q4⟩:=hleft;have hne:p.1≠d:=fun e=>c6 (by grind);exact h.mut2 hdl q0 hne q2 (hkept.mono fun k hk=>.inr hk) (fun b hb=>by
   grind) hnd qN rfl (q4 w' hkept) qm.1 rfl qm.2
theorem qqO (hE:qad E C.P) (h:qK C σ a.tmps w own) {t:Nat}{x1 y1:Op1}{x y:Value}(hx:qaC (sit C σ a.tmps w own) x1 x) (hxs:∀s,x1.s=some s→x1.a≠ .undef→s<σ.length) (hy:qaC (sit C σ a.tmps w own) y1 y)
  {f:Eff}(he:(qpx E o t x1 y1).run (qj σ)=some f) (hd:∀u∈f.upd,u.s<σ.length) (hc:qb9 f.chk)
  (hr:∃ty,(execOp a.eval o).run C.P w=((Builtin.append_ #[t,t] ty #[x,y]).run C.P w).andThen fun v w=>.ok (.value v) w):qb5 C o a w (qh σ f.upd):=by
 unfold qpx at he;obtain⟨r,h1,he⟩:=Q.ya he;obtain⟨q,h2,he⟩:=Q.ya he;split at he;case h_2=>cases he
 rename_i d hdst;split at he;case isFalse=>cases he
 rename_i hcond;obtain⟨c1,c2,c3,c4,c5,c6⟩:=hcond;split at he;case h_2=>cases he
 rename_i ys hys;have:=Q.yb he;subst this;obtain⟨bs,r1,r2⟩:=qkG h hx hxs h1;have qN:=qud h hy h2;obtain⟨i,z,k1,k2,k3,k4,k5,k6,k7⟩:=hE.elem' c1;obtain⟨ro,et,⟨e,xs⟩⟩:=r;obtain⟨⟨e',zs⟩,qo⟩:=q;simp only at c1 c2 c3 c4 c5 c6 r1 r2 qN hd hc hys k3 k5 k7⊢
 have hee:e'=e:=by
  grind [Ty.yd]
 subst hee;have hzs:zs=ys:=by
  grind [Ty.yd]
 subst hzs;obtain⟨cells,g1,g2,g3⟩:=r1;obtain⟨ty,hr⟩:=hr;have hroom:((xs.length:Int)+(zs.length:Int))*(E.bytes et:Int)≤140737488355328:=by
  have:=hc _ (zah.2 rfl);grind [qgY,qv]
 have hbytes:(xs.length+zs.length)*E.bytes et≤140737488355328:=by
  grind
 have h63:xs.length+zs.length≤maxLen:=by
  have:(xs.length+zs.length)*1≤(xs.length+zs.length)*E.bytes et:=Nat.mul_le_mul_left _ (by omega);grind [maxLen]
 have hdl:d<σ.length:=hd ⟨d,true,.own et e' (ql0 xs zs)⟩ (by simp);rw[g2]at r2;have key:∃v' w' news,(execOp a.eval o).run C.P w=.ok (.value v') w'∧w'.ownsRow 0 et e'.size v' (xs.length+zs.length) (cells++news)∧w.grownBy w' x.ownBlock∧
   (∀b∈v'.ownBlock.toList,(w.heap.size≤b∧b<w'.heap.size)∨b∈x.ownBlock.toList)∧(∀(i:Nat) (u:e'.den),zs[i]? =some u→Rep w (C.free w own) e' u ((news.drop (i*e'.size)).take e'.size)):=by
  rcases qN with⟨rfl,hz0⟩|⟨ad,cap,news,rfl,n1,n2,n3⟩
  ·have hz0:zs=[]:=hz0;subst hz0;refine⟨x,w,[],?_,by simpa using g1,⟨rfl,rfl,rfl,zax _,fun _ _ _=>rfl⟩,fun b hb=>.inr hb,fun i u hi=>by cases hi⟩;rw[hr];rw[run_append_owned_none (w:=w) 0 t ty et i e'.size (by rw[k1,c2]) (by grind) x xs.length cells g1];rfl
  ·obtain⟨v',w',a1,a2,a3,a4⟩:=ql7 (P:=C.P) (t:=t) (ty:=ty) (e:=et) (i:=i) (z:=z) (size:=e'.size) (bytes:=E.bytes et) (by rw[k1,c2]) (by grind) k4 k3 (by rw[k6,c2]) k5 (by omega) g1 (c:=cap) n1 n2 (by
    intro u hu;obtain⟨j,hj,rfl⟩:=List.getElem_of_mem hu;have hpos:0<e'.size:=by omega
    have hjlt:j/e'.size<zs.length:=(Nat.div_lt_iff_lt_mul hpos).2 (by omega);have hrep:=n3 _ _ (zac hjlt);have hm:=Nat.mod_lt j hpos;have hdm:j/e'.size*e'.size+j%e'.size=j:=by grind [Nat.div_add_mod]
    refine hrep.oneCell _ (List.mem_of_getElem? (i:=j%e'.size) ?_);grind) h63 hbytes
   exact⟨v',w',news,by rw[hr,a1];rfl,a2,a3,a4,n3⟩
 grind [ql9]
theorem qpB {P:Program}{t u ty e:Nat}{i:TypeInfo}(ht:P.underlying t=some (.slice e)) (hu:P.underlying u=some .string) (hi:P.info? e=some i) (hz:i.zero=some (.int .u8 0))
  (hsize:i.size=1) (hby:i.bytes=1) {v:Value}{n:Nat}{xs:List Value}(hown:w.ownsRow 0 e 1 v n xs) (s:ByteArray) (h63:n+s.size≤maxLen) (hbytes:n+s.size≤140737488355328):
  ∃v' w',(Builtin.append_ #[t,u] ty #[v,.string s]).run P w=.ok v' w'∧w'.ownsRow 0 e 1 v' (n+s.size) (xs++Lib.strCells s)∧w.grownBy w' v.ownBlock∧
   ∀b∈v'.ownBlock.toList,(w.heap.size≤b∧b<w'.heap.size)∨b∈v.ownBlock.toList:=by
 obtain⟨v',w',k1,k2,k3,k4⟩:=Lib.run_append_own_string (P:=P) w 0 t u ty e i ht hu hi hz hsize hby v n xs hown s h63 hbytes (zaD _);refine⟨v',w',k1,k2,k3,?_⟩;have hsmall:n+s.size≤9223372036854775807:=by omega
 have fresh:∀ {cap:Nat}{o:Obj}{w1:World}{m:Nat},w1.heap.size=w.heap.size→(Builtin.append_ #[t,u] ty #[v,.string s]).run P w=.ok (.slice (some ⟨w.heap.size,0,none⟩) m cap) (w1.alloc o)→∀b∈v'.ownBlock.toList,(w.heap.size≤b∧b<w'.heap.size)∨b∈v.ownBlock.toList:=by
  simp_all [Value.ownBlock]
 rcases hown.2 with⟨rfl,rfl⟩|⟨g,cap,cur,rfl,hbg,hg,hnc,hcm,hcs,htake⟩
 ·by_cases hm:s.size=0
  ·grind
  ·have hr:=run_append_nil_string (P:=P) w t u ty e i (.int .u8 0) ht hu hi hz s (by omega) (by omega) (by grind);exact fresh (w1:=w.drew) (by rfl) hr
 ·by_cases hroom:n+s.size≤cap
  ·have hcs':cur.size=cap:=by simpa using hcs
   have hr:=Lib.run_append_room_string (P:=P) w t u ty e i ht hu hi hsize g n cap cur hg s hroom (by omega);rw[hr]at k1;injection k1 with e1 e2;subst e1;intro b hb;exact .inr hb
  ·have holds:∀j x,xs[j]? =some x→w.cell? ((⟨g,0,none⟩:Addr).add j)=some x:=hown.cells (g:=g) rfl;have hr:=Lib.run_append_grow_string (P:=P) w t u ty e i (.int .u8 0) ht hu hi hz ⟨g,0,none⟩ n cap xs (by grind) holds s (by omega) (by omega) (by rw[hby];exact growslice_fits (by omega) (by omega));exact fresh (w1:=w.drew) (by rfl) hr
theorem qgw {l:List Value}{i:Nat}{u:Value}(h:l[i]? =some u):(l.drop (i*1)).take 1=[u]:=by
 grind [zaB]
theorem qq9 (hE:qad E C.P) (h:qK C σ a.tmps w own) {t t':Nat}{x1 y1:Op1}{x y:Value}(hx:qaC (sit C σ a.tmps w own) x1 x) (hxs:∀s,x1.s=some s→x1.a≠ .undef→s<σ.length) (hy:qaC (sit C σ a.tmps w own) y1 y)
  {f:Eff}(he:(qpQ E o t t' x1 y1).run (qj σ)=some f) (hd:∀u∈f.upd,u.s<σ.length) (hc:qb9 f.chk)
  (hr:∃ty,(execOp a.eval o).run C.P w=((Builtin.append_ #[t,t'] ty #[x,y]).run C.P w).andThen fun v w=>.ok (.value v) w):qb5 C o a w (qh σ f.upd):=by
 unfold qpQ at he;obtain⟨r,h1,he⟩:=Q.ya he;obtain⟨q,h2,he⟩:=Q.ya he;split at he;case h_2=>cases he
 rename_i d hdst;split at he;case isFalse=>cases he
 rename_i hcond;obtain⟨c1,c2,c3,c5,c6⟩:=hcond;split at he;case h_2=>cases he
 rename_i xs0 hxs0;have:=Q.yb he;subst this;obtain⟨bs,r1,r2⟩:=qkG h hx hxs h1;obtain⟨i,z,k1,k2,k3,k4,k5,k6,k7⟩:=hE.elem' c1;obtain⟨ro,et,⟨e,xs⟩⟩:=r;simp only at c1 c2 c3 c5 c6 r1 r2 hd hc hxs0⊢
 have hee:e=.int .u8:=by
  grind [Ty.yd]
 subst hee;have hzs:xs=xs0:=by
  grind [Ty.yd]
 subst hzs;obtain⟨s,qo⟩:=q;simp only at hd hc⊢
 obtain⟨e2,hsl⟩:=q9.str (qcm h hy h2);obtain⟨cells,g1,g2,g3⟩:=r1;obtain⟨ty,hr⟩:=hr;rw[g2]at r2;have hroom:(xs.length:Int)+(s.length:Int)≤140737488355328:=by
  have:=hc _ (zah.2 rfl);grind [qgY,qv]
 have hz:z=.int .u8 0:=by
  have hrep:z.cells.toList=[.int .u8 0]:=(k7 w (fun _=>True)).1;obtain⟨i',z',q1,q2,q3,_⟩:=hE.dflt t _ c1;rw[k2]at q1;injection q1 with q1;subst q1;rw[k4]at q2;injection q2 with q2;subst q2;have q3:=q3 rfl;cases z with
  |agg cs=>grind
  |_=>grind [Value.cells]
 refine ql9 h hdst c6 (hd ⟨d,true,.own et (.int .u8) (ql0 xs (qkZ s))⟩ (by simp)) r2 g1 g3 ?_;have hss:(⟨s.toArray⟩:ByteArray).size=s.length:=by simp[ByteArray.size]
 have g1':w.ownsRow 0 et 1 x xs.length cells:=g1;obtain⟨v',w',a1,a2,a3,hfresh⟩:=qpB (P:=C.P) (w:=w) (t:=t) (u:=t') (ty:=ty) (e:=et) (i:=i) (by rw[k1,c2]) (hE.str t' c5) (by grind) (by rw[k4,hz]) k3 (by grind) g1' ⟨s.toArray⟩ (by grind [maxLen]) (by omega);refine⟨v',w',Lib.strCells ⟨s.toArray⟩,by simp_all,?_,a3,hfresh,fun i u hi=>?_⟩
 ·rw[show(qkZ s).length=s.length by rw[qfA];simp];rw[hss]at a2;exact a2
 ·rw[qfA]at hi;rw[List.getElem?_map]at hi;obtain⟨b,hb,rfl⟩:=zao.1 hi;have:(Lib.strCells ⟨s.toArray⟩)[i]? =some (.int .u8 b.toNat):=by
   grind [Lib.strCells]
  show Rep w (C.free w own) (.int .u8) (qpk b) ((List.drop (i*1) _).take 1);rw[qgw this,qgK];refine⟨rfl,?_⟩;have:=b.toNat_lt;simp[IntKind.has,IntKind.min,IntKind.max,IntKind.signed,IntKind.bits];omega
theorem qvF {k:IntKind}{x y:Int}(hx:k.has x) (hy:k.has y):k.has (qnI x y):=by grind [qiq]
theorem quY {k:IntKind}{x y:Int}(hx:k.has x) (hy:k.has y):k.has (qo9 x y):=by grind [qe8]
theorem qgP {n:Nat}(h:n≤maxLen):IntKind.i64.has (n:Int):=by
 grind [maxLen,IntKind.has,IntKind.min,IntKind.max,IntKind.bits]
theorem qK.drewn {tm:Array Value}(h:qK C σ tm w own):qK C σ tm w.drew own:=
 h.world ⟨rfl,rfl,rfl,zax _,fun _ _ _=>rfl⟩
theorem qrz (hE:qad E C.P) (h:qK C σ a.tmps w own) {t t':Nat}{x y:Op1}{v u:Value}(hx:qaC (sit C σ a.tmps w own) x v) (hy:qaC (sit C σ a.tmps w own) y u) {f:Eff}
  (he:(qpw E o t t' x y).run (qj σ)=some f) (hd:∀u∈f.upd,u.s<σ.length) (hc:qb9 f.chk)
  (hr:∃ty,(execOp a.eval o).run C.P w=((Builtin.append_ #[t,t'] ty #[v,u]).run C.P w).andThen fun v w=>.ok (.value v) w):qb5 C o a w (qh σ f.upd):=by
 obtain⟨ty,hr⟩:=hr;unfold qpw at he;split at he;case h_2=>cases he
 rename_i et e hxa;obtain⟨n,h1,he⟩:=Q.ya he;split at he;case isFalse=>cases he
 rename_i hcond;obtain⟨hty,het,hsz,hby,hint⟩:=hcond;have:=Q.yb he;subst this;obtain⟨e1,g1⟩:=qcH h hy h1;have hv:v=.slice none 0 0:=by
  have:=hx.unowned (by rw[hxa];rfl);rw[hxa]at this;exact this.2
 obtain⟨kn,htn⟩:∃k,C.P.underlying t'=some (.int k):=by
  unfold qpJ at hint;split at hint
  ·rename_i k hk;exact⟨k,hE.int t' k hk⟩
  ·cases hint
 obtain⟨i,z,k1,k2,k3,k4,k5,k6,k7⟩:=hE.elem' hty;have c1:0<n.2:=by have:=hc (ltI 0 n.2) (by simp);grind [qbz]
 have c2:n.2*(E.bytes et:Int)≤140737488355328:=by
  have:=hc (room n.2 (E.bytes et)) (by simp);grind [qqd]
 have c3:n.2≤140737488355328:=by
  have h1:(1:Int)≤(E.bytes et:Int):=by omega
  have h2:n.2*1≤n.2*(E.bytes et:Int):=Int.mul_le_mul_of_nonneg_left h1 (by omega);omega
 obtain⟨m,hm⟩:∃m:Nat,n.2=(m:Int):=⟨n.2.toNat,by omega⟩;rw[hm]at c1 c2 c3 e1;have c2':m*i.bytes≤281474976710656:=by
  grind
 have hrun:=Lib.run_append_nil_zeros (P:=C.P) w t t' ty (E.etid t) i z n.1 kn k1 htn k2 k4 m (by omega) (by omega) (by omega) c2';have hx2:(execOp a.eval o).run C.P w=.ok (.value (.slice (some ⟨w.heap.size,0,none⟩) m (grownCap w m 0 (E.etid t)))) (w.drew.alloc (.cells (Builtin.zeroCells z.cells m++Builtin.zeroCells z.cells (grownCap w m 0 (E.etid t)-m)) (E.etid t))):=by
  simp_all
 generalize hcap:grownCap w m 0 (E.etid t)=cap at hx2;have hge:m≤cap:=by grind [grownCap_ge]
 have hle:cap≤maxLen:=by grind [grownCap_le_maxLen,maxLen]
 generalize hcur:(Builtin.zeroCells z.cells m++Builtin.zeroCells z.cells (cap-m))=cur at hx2;have hcs:cur.size=cap*e.size:=by
  rw[←hcur,Array.size_append,size_zeroCells,size_zeroCells,k5,←zaS];congr 1;omega
 have hlr:qtn n.2 e.dflt=zaT m e.dflt:=by rw[qka,hm];simp
 rw[hlr,het];simp only[hlr,het]at hd;have hD:=h.drewn;refine qt hx2 (hD.dst (bs:=[w.heap.size]) (w':=w.drew.alloc (.cells cur (E.etid t))) (qaA.alloc _ _ _) hd (fun b hb=>?_) (by simp) ?_ (fun m hm=>by cases hm))
 ·simp_all
 ·refine⟨cur.toList.take (m*e.size),⟨?_,.inr ⟨w.heap.size,cap,cur,by simp,zaD _,heap_alloc_new w.drew _,by simpa using hge,hle,hcs,by simp⟩⟩,rfl,fun i x hi=>?_⟩
  ·simp_all
  ·have hlt:i<m:=by
    grind
   have hu:x=e.dflt:=List.eq_of_mem_replicate (List.mem_of_getElem? hi);have hle2:i*e.size+e.size≤m*e.size:=by
    have:=zam e.size (show i+1≤m by omega);grind
   grind [List.drop_take,qlH]
theorem qlP {P:Program}(w:World) (t ty e:TypeId) (z:Value) (ht:P.underlying t=some (.slice e)) (hv:∀w,(zeroValue e).run P w=.ok z w) (g o n c:Nat) (cur:List Value) (t':TypeId)
  (hg:w.heap[g]? =some (.cells cur.toArray t' (0,0))) (hn:0<n) (hfit:o+n*z.cells.size≤cur.length) (h1:∀v∈(Builtin.zeroCells z.cells n).toList,v.oneCell'=true):
  (Builtin.clear_ #[t] ty #[.slice (some ⟨g,o,none⟩) n c]).run P w=.ok (.tuple #[]) (w.setRow g (cur.take o++(Builtin.zeroCells z.cells n).toList++cur.drop (o+n*z.cells.size)).toArray):=by
 have hzl:(Builtin.zeroCells z.cells n).toList.length=n*z.cells.size:=by simp[Builtin.zeroCells]
 have hst:=run_storeCells_at P g o t' (Builtin.zeroCells z.cells n).toList 0 cur.toArray w hg (by grind) h1;simp only[Nat.add_zero,hzl]at hst;obtain⟨m,rfl⟩:∃m,n=m+1:=⟨n-1,by omega⟩;simp_all [run_underlying,Builtin.clear_]
theorem qsC {P:Program}{t ty te:Nat}{z:Value}{et:Nat}{e:Ty}{R:World→e.den→List Value→Prop}{xs:List e.den}{ad:Option Addr}{n cap:Nat}{bs:List Nat}{lo hi:Int}(ht:P.underlying t=some (.slice te)) (hv:∀w,(zeroValue te).run P w=.ok z w) (hz:z.cells.size=e.size) (hzr:∀w,R w e.dflt z.cells.toList) (hz1:∀u∈z.cells.toList,u.oneCell'=true) (hsz:e.size≠0)
  {cells:List Value}(r1:w.ownsRow 0 et e.size (.slice ad n cap) xs.length cells) (r2:bs=(Value.slice ad n cap).ownBlock.toList) (r3:∀(i:Nat) (x:e.den),xs[i]? =some x→R w x ((cells.drop (i*e.size)).take e.size)) (hRk:∀W x c,qaA (fun k=>k∈bs) w W→R w x c→R W x c) (c1:0≤lo) (c2:lo≤hi) (c3:hi≤(n:Int)):
  ∃W,(Builtin.clear_ #[t] ty #[sliced ad lo.toNat hi.toNat cap e.size]).run P w=.ok (.tuple #[]) W∧qaA (fun k=>k∈bs) w W∧∃cells,W.ownsRow 0 et e.size (.slice ad n cap) xs.length cells∧∀(i:Nat) (x:e.den),(xs.take lo.toNat++(zaT (hi.toNat-lo.toNat) e.dflt++xs.drop hi.toNat))[i]? =some x→R W x ((cells.drop (i*e.size)).take e.size):=by
 have r1':=r1;obtain⟨r4,r5⟩:=r1;have f3:n=xs.length:=by
  grind
 subst f3;by_cases heq:lo=hi
 ·subst heq;refine⟨w,?_,qaA.refl _ _,?_⟩
  ·have hs0:∃q c,sliced ad lo.toNat lo.toNat cap e.size=.slice q 0 c:=⟨_,_,by simp only[sliced,Nat.sub_self];rfl⟩;obtain⟨q,c,hs0⟩:=hs0;rw[hs0];cases q<;>simp[Builtin.clear_,run_underlying ht]
  ·exact⟨cells,r1',fun i x hx=>r3 i x (by simpa using hx)⟩
 rcases r5 with⟨h1,h2⟩|⟨g,cap,cur,h1,_,hg,hnc,hcap,hcs,htk⟩
 ·omega
 injection h1 with h1 _ h2;subst h1;subst h2;have hlo:lo.toNat<xs.length:=by omega
 have hsl:sliced (some ⟨g,0,none⟩) lo.toNat hi.toNat cap e.size=.slice (some ⟨g,lo.toNat*e.size,none⟩) (hi.toNat-lo.toNat) (cap-lo.toNat):=by
  grind [qx,sliced]
 have hZl:(Builtin.zeroCells z.cells (hi.toNat-lo.toNat)).toList.length=(hi.toNat-lo.toNat)*e.size:=by simp[Builtin.zeroCells,hz]
 have hcl:cells.length=xs.length*e.size:=r4;have hcz:cur.toList.length=cap*e.size:=by omega
 have hnc':xs.length*e.size≤cap*e.size:=zam _ hnc;have hmul:lo.toNat*e.size+(hi.toNat-lo.toNat)*e.size=hi.toNat*e.size:=by rw[←zaS];congr 1;omega
 have hhi:hi.toNat*e.size≤xs.length*e.size:=zam _ (by omega);have hZone:∀v∈(Builtin.zeroCells z.cells (hi.toNat-lo.toNat)).toList,v.oneCell'=true:=fun v hvm=>by
  obtain⟨i,hi',rfl⟩:=List.getElem_of_mem hvm;rw[hZl]at hi';have h1:=qe6 z.cells ((hi.toNat-lo.toNat)*z.cells.size) i (by grind) (by rw[hz];omega);have h2:(Builtin.zeroCells z.cells (hi.toNat-lo.toNat)).toList[i]? =z.cells.toList[i%z.cells.size]? :=h1;grind
 have hrun:=qlP (P:=P) w t ty te z ht hv g (lo.toNat*e.size) (hi.toNat-lo.toNat) (cap-lo.toNat) cur.toList et hg (by omega) (by grind) hZone;rw[hsl];refine⟨_,hrun,?_⟩;rw[hz];have hsp:(cur.toList.take (lo.toNat*e.size)++(Builtin.zeroCells z.cells (hi.toNat-lo.toNat)).toList++cur.toList.drop (lo.toNat*e.size+(hi.toNat-lo.toNat)*e.size)).toArray=(qae cur.toList (lo.toNat*e.size) (Builtin.zeroCells z.cells (hi.toNat-lo.toNat)).toList).toArray:=by rw[qae,hZl]
 rw[hsp];generalize hZ:(Builtin.zeroCells z.cells (hi.toNat-lo.toNat)).toList=Z at *
 generalize hW:w.setRow g (qae cur.toList (lo.toNat*e.size) Z).toArray=W;have hbs:bs=[g]:=by rw[r2];rfl
 have hkept:qaA (fun k=>k=g) w W:=by grind [qcR]
 have hheap:W.heap[g]? =some (.cells (qae cur.toList (lo.toNat*e.size) Z).toArray et (0,0)):=by grind [setRow_heap]
 have hkb:qaA (fun k=>k∈bs) w W:=hkept.mono fun k hk=>by grind
 have hspl:(qae cur.toList (lo.toNat*e.size) Z).length=cur.toList.length:=qf3 (by omega);have hyl:(xs.take lo.toNat++(zaT (hi.toNat-lo.toNat) e.dflt++xs.drop hi.toNat)).length=xs.length:=by simp;omega
 refine⟨hkb,(qae cur.toList (lo.toNat*e.size) Z).take (xs.length*e.size),⟨?_,.inr ⟨g,cap,_,rfl,zaD _,hheap,hnc,hcap,by grind,rfl⟩⟩,?_⟩
 ·grind
 intro j x hj;have hjl:j<xs.length:=by
  grind
 have hjn:j*e.size+e.size≤xs.length*e.size:=by rw[←Nat.succ_mul];exact zam _ hjl
 rw[qfn hjl];by_cases hz1:lo.toNat≤j∧j<hi.toNat
 ·have hx:x=e.dflt:=by
   grind
  have hc:((qae cur.toList (lo.toNat*e.size) Z).drop (j*e.size)).take e.size=z.cells.toList:=by
   have h0:=qfo z.cells (hi.toNat-lo.toNat) (j-lo.toNat) (by omega);have h0':(Z.drop ((j-lo.toNat)*e.size)).take e.size=z.cells.toList:=by
    rw[←hZ,←hz];exact h0
   rw[←h0'];have hjlo:lo.toNat*e.size+(j-lo.toNat)*e.size=j*e.size:=by rw[←zaS];congr 1;omega
   have hjhi:j*e.size+e.size≤hi.toNat*e.size:=by rw[←Nat.succ_mul];exact zam _ hz1.2
   apply List.ext_getElem?;intro k;rw[zap,zap];split
   ·rename_i hk;rw[zav,zav,qfE (by omega),if_neg (by omega),if_pos (by omega)];congr 1;omega
   ·rfl
  grind
 ·have hx0:xs[j]? =some x:=by
   by_cases hjlo:j<lo.toNat
   ·grind
   ·rw[List.getElem?_append_right (by grind),List.getElem?_append_right (by grind),zav]at hj;grind
  have hc:((qae cur.toList (lo.toNat*e.size) Z).drop (j*e.size)).take e.size=(cells.drop (j*e.size)).take e.size:=by
   rw[←htk,qfn hjl];apply List.ext_getElem?;intro k;rw[zap,zap];split
   ·rename_i hk;rw[zav,zav,qfE (by omega)];by_cases hjlo:j<lo.toNat
    ·have:j*e.size+e.size≤lo.toNat*e.size:=by rw[←Nat.succ_mul];exact zam _ hjlo
     grind
    ·have:hi.toNat*e.size≤j*e.size:=zam _ (by omega);grind
   ·rfl
  grind
theorem qO.clr {P:Program}{F:Nat→Prop}{t ty te:Nat}{z:Value}{et:Nat}{e:Ty}{xs:List e.den}{ad:Option Addr}{n cap:Nat}{bs:List Nat}{lo hi:Int}(ht:P.underlying t=some (.slice te)) (hv:∀w,(zeroValue te).run P w=.ok z w) (hz:z.cells.size=e.size) (hzr:∀w F,Rep w F e e.dflt z.cells.toList) (hsz:e.size≠0)
  (qN:qO w F et e xs (.slice ad n cap) bs) (hF0:∀x,F x→x∉bs) (c1:0≤lo) (c2:lo≤hi) (c3:hi≤(n:Int)):
  ∃W,(Builtin.clear_ #[t] ty #[sliced ad lo.toNat hi.toNat cap e.size]).run P w=.ok (.tuple #[]) W∧qaA (fun k=>k∈bs) w W∧qO W F et e (ql0 (qb6 xs 0 lo) (ql0 (qtn (qaF .i64 hi lo) e.dflt) (qb6 xs hi (qn xs)))) (.slice ad n cap) bs:=by
 obtain⟨cells,r1,r2,r3⟩:=qN;have hcm:xs.length≤9223372036854775807∧n=xs.length:=by
  rcases r1.2 with⟨h1,h2⟩|⟨g,cap,cur,h1,_,_,h2,h3,_⟩;all_goals grind [maxLen]
 obtain⟨W,q1,q2,cells',q3,q4⟩:=qsC (P:=P) (ty:=ty) (R:=fun W x c=>Rep W F e x c) ht hv hz (fun w=>hzr w F) (fun u hu=>(hzr w F).oneCell u hu) hsz r1 r2 r3 (fun W x c hk h=>h.keep fun b hb hl=>⟨hb,zaq hl hk.size,hk.block b hl (hF0 b hb)⟩) c1 c2 c3;have hsub:qaF .i64 hi lo=hi-lo:=by
  rw[qjY,IntKind.wrap_i64];omega
 have hys:ql0 (qb6 xs 0 lo) (ql0 (qtn (qaF .i64 hi lo) e.dflt) (qb6 xs hi (qn xs)))=xs.take lo.toNat++(zaT (hi.toNat-lo.toNat) e.dflt++xs.drop hi.toNat):=by
  rw[hsub];simp only[qfU,qeL,qka,qv];rw[show(hi-lo).toNat=hi.toNat-lo.toNat by omega];simp
 rw[hys];refine⟨W,q1,q2,cells',?_,r2,q4⟩;grind
theorem qo7 (hE:qad E C.P) (h:qK C σ a.tmps w own) {b:Builtin}{ts:List Nat}{os:List Op1}{vs:List Value}(ho:qij (sit C σ a.tmps w own) os vs) (hos:∀o1∈os,∀s,o1.s=some s→o1.a≠ .undef→s<σ.length)
  {f:Eff}(he:(qnc E o b ts os).run (qj σ)=some f) (hd:∀u∈f.upd,u.s<σ.length) (hc:qb9 f.chk)
  (hr:∃ty cs,(execOp a.eval o).run C.P w=(builtin b ts.toArray ty cs vs.toArray).run C.P w):qb5 C o a w (qh σ f.upd):=by
 obtain⟨ty,cs,hr⟩:=hr;unfold qnc at he;split at he
 ·rename_i x;match vs,ho with
  |[v],ho=>
   obtain⟨r,h1,he⟩:=Q.ya he;have rx:=qdq h ho.1 h1;split at he
   ·rename_i e xs _ t _ _;split at he;case isFalse=>cases he
    rename_i hty;have:=qE he;subst this;have hu:=(hE.elem t e hty).under;rcases q9.slice rx with⟨e1,e2⟩|⟨ad,cap,e1,e2,e3,_⟩
    ·have e2:xs=[]:=e2;subst e2;refine qaH h (v:= .int .i64 0) ?_ hd (by grind [qv,q9.ofInt,qgP]);rw[hr,e1];simp[builtin,Builtin.len_,run_underlying hu,goInt]
    ·refine qaH h (v:= .int .i64 (qn xs)) ?_ hd (q9.ofInt _ _ (by grind [qv,qgP]));rw[hr,e1];simp[builtin,Builtin.len_,run_underlying hu,goInt,qv]
   ·rename_i xs _ t _ _;split at he;case isFalse=>cases he
    rename_i hty;have:=qE he;subst this;have hu:=hE.str t hty;obtain⟨e1,e2⟩:=q9.str rx;have e2:xs.length≤maxLen:=e2;refine qaH h (v:= .int .i64 (qn xs)) ?_ hd (q9.ofInt _ _ (by grind [qv,qgP]));rw[hr,e1];simp[builtin,Builtin.len_,run_underlying hu,goInt,qv,ByteArray.size_mk']
   ·cases he
 ·rename_i x y;match vs,ho with
  |[v,u],ho=>
   split at he
   ·rename_i t t';split at he
    ·rename_i htt;subst htt;refine qqO hE h ho.1 (hos x (by simp)) ho.2.1 he hd hc ⟨ty,?_⟩;simp_all [builtin]
    ·split at he
     ·refine qrz hE h ho.1 ho.2.1 he hd hc ⟨ty,?_⟩;simp_all [builtin]
     ·refine qq9 hE h ho.1 (hos x (by simp)) ho.2.1 he hd hc ⟨ty,?_⟩;simp_all [builtin]
   ·cases he
 ·rename_i x;match vs,ho with
  |[v],ho=>
   split at he;case h_2=>cases he
   rename_i et e t ts' hxa;split at he;case isFalse=>cases he
   rename_i hty;have:=qE he;subst this;have hv:v=.slice none 0 0:=by
    have:=ho.1.unowned (by rw[hxa];rfl);rw[hxa]at this;exact this.2
   have hu:=(hE.elem t e hty).under;refine qaH h (v:= .int .i64 0) ?_ hd (q9.ofInt _ _ (qgP (n:=0) (by simp)));rw[hr,hv];simp[builtin,Builtin.cap_,goInt,run_underlying hu]
 ·rename_i x;match vs,ho with
  |[v],ho=>
   split at he;case h_2=>cases he
   rename_i s v0 fo sz lo hi t ts' hxa;split at he;case isTrue=>cases he
   rename_i hdst;rw[Q.yc]at he;split at he;case isFalse=>cases he
   rename_i hver;split at he;case h_2=>cases he
   rename_i et e xs hown;split at he;case isFalse=>cases he
   rename_i hcond;obtain⟨hsz,hsz0,hty⟩:=hcond;subst hsz;split at he;case h_2=>cases he
   rename_i a' hsw;have:=qE he;subst this;have hop:=ho.1.unowned (by rw[hxa];rfl);rw[hxa]at hop;obtain⟨ad,n,cap,k1,c1,c2,c3,k2⟩:=hop.2 hver;obtain⟨hsl,b1,b2,b3,q1,q2,q3,q4⟩:=h.rowAt hown k1;obtain⟨i,z,m1,m2,m3,m4,m5,m6,m7⟩:=hE.elem' hty;have hzv:∀w,(zeroValue (E.etid t)).run C.P w=.ok z w:=fun w=>by simp[zeroValue,typeInfo,m2,m4]
   obtain⟨W,hrun,hkept,hrow'⟩:=qO.clr (ty:=ty) m1 hzv m5 m7 hsz0 q1 (fun x hx hm=>hx.2.2 s (by grind)) c1 c2 c3;obtain⟨g1,g2⟩:=q4 W (.own et e (ql0 (qb6 xs 0 lo) (ql0 (qtn (qaF .i64 hi lo) e.dflt) (qb6 xs hi (qn xs))))) b2 a' hkept ⟨_,rfl,hrow'⟩ hsw;have hcl:Builtin.clear_ (t::ts').toArray ty #[sliced ad lo.toNat hi.toNat cap e.size]=Builtin.clear_ #[t] ty #[sliced ad lo.toNat hi.toNat cap e.size]:=by simp[Builtin.clear_]
   have hr2:(execOp a.eval o).run C.P w=.ok (.value (.tuple #[])) W:=by
    simp_all [builtin]
   refine qt hr2 ⟨own,?_⟩;have hdn:o.dst=none:=by simp_all
   rw[hdn];exact h.mutK hsl q2 q3 hkept (by grind) g2 (AV.yh hsw)
 ·rename_i x r;match vs,ho with
  |v::vs,ho=>
   obtain⟨m,h1,he⟩:=Q.ya he;obtain⟨n,h2,he⟩:=Q.ya he;have:=qE he;subst this;obtain⟨e1,g1⟩:=qcH h ho.1 h1;obtain⟨k1,k2⟩:=qiY (P:=C.P) h (m2:=Builtin.max2) (fun k x y=>by simp[Builtin.max2,qiq]) (fun k x y=>qvF) r vs m.2 n g1 ho.2 h2;refine qaH h ?_ hd (q9.ofInt _ _ k2);simp_all [builtin,Builtin.max_]
 ·rename_i x r;match vs,ho with
  |v::vs,ho=>
   obtain⟨m,h1,he⟩:=Q.ya he;obtain⟨n,h2,he⟩:=Q.ya he;have:=qE he;subst this;obtain⟨e1,g1⟩:=qcH h ho.1 h1;obtain⟨k1,k2⟩:=qiY (P:=C.P) h (m2:=Builtin.min2) (fun k x y=>by simp[Builtin.min2,qe8]) (fun k x y=>quY) r vs m.2 n g1 ho.2 h2;refine qaH h ?_ hd (q9.ofInt _ _ k2);simp_all [builtin,Builtin.min_]
 ·cases he
end
end Go.Vi
namespace Go.Vi
open Go.RowKit
theorem qfW {css:List (List Value)}{i:Nat}{c:List Value}(hi:css[i]? =some c):css.flatten=(css.take i).flatten++c++(css.drop (i+1)).flatten:=by
 grind [zay,zaB]
theorem qn8 {css:List (List Value)}{i:Nat}{d:List Value}(hi:i<css.length):(css.set i d).flatten=(css.take i).flatten++d++(css.drop (i+1)).flatten:=by
 have h:=qfW (css:=css.set i d) (i:=i) (c:=d) (by simp[hi]);grind [List.take_set,List.set_eq_of_length_le,List.drop_set]
def qln (css:List (List Value)) (i:Nat):Nat:=(css.take i).flatten.length
theorem qoJ (cells:Array Value) (pre c post:List Value) (v:List Value) (hc:cells.toList=pre++c++post) (hl:v.length=c.length):
  ((v.zipIdx 0).foldl (fun cs (x:Value×Nat)=>cs.setIfInBounds (pre.length+x.2) x.1) cells).toList=pre++v++post:=by
 obtain⟨h1,h2⟩:=Great.foldl_set pre.length v 0 cells;have hs:cells.size=pre.length+v.length+post.length:=by grind [zaG]
 apply List.ext_getElem?;intro k;rw[Array.getElem?_toList,h2 k];split
 ·grind
 ·rename_i hk;rw[←Array.getElem?_toList,hc];grind
theorem qm1 {place:Nat→Option (Nat×Nat)}:∀(parts:List (Nat×Value)) (css:List (List Value)) (cells:Array Value),cells.toList=css.flatten→(∀i c,css[i]? =some c→place i=some (qln css i,c.length))→
  (∀q∈parts,∃c,css[q.1]? =some c∧q.2.cells.toList.length=c.length)→∃r,Instr.fill place cells parts=some r∧r.toList=(parts.foldl (fun css q=>css.set q.1 q.2.cells.toList) css).flatten
 |[],css,cells,h1,_,_=>⟨cells,rfl,h1⟩
 |(i,v)::rest,css,cells,h1,h2,h3=>by
  obtain⟨c,k1,k2⟩:=h3 (i,v) (by simp);simp only at k1 k2;have hi:i<css.length:=(zaK.1 k1).1;have hp:=h2 i c k1;have hsplit:=qfW k1;have hsz:cells.size=qln css i+c.length+(css.drop (i+1)).flatten.length:=by
   grind [zag,qln]
  rw[zaG]at k2;have qdD:=qn8 (d:=v.cells.toList) hi;have hoff:∀j,qln (css.set i v.cells.toList) j=qln css j:=fun j=>by
   unfold qln;rw[List.take_set];by_cases hj:i<j;all_goals grind [qn8,qfW,List.set_eq_of_length_le]
  have step:=qoJ cells (css.take i).flatten c (css.drop (i+1)).flatten v.cells.toList (by grind) (by omega);have hzip:v.cells.zipIdx.foldl (fun cs (x:Value×Nat)=>cs.setIfInBounds (qln css i+x.2) x.1) cells=(v.cells.toList.zipIdx 0).foldl (fun cs (x:Value×Nat)=>cs.setIfInBounds ((css.take i).flatten.length+x.2) x.1) cells:=by
   rw[←Array.foldl_toList];simp[qln]
  obtain⟨r,g1,g2⟩:=qm1 (place:=place) rest (css.set i v.cells.toList) ((v.cells.toList.zipIdx 0).foldl (fun cs (x:Value×Nat)=>cs.setIfInBounds ((css.take i).flatten.length+x.2) x.1) cells) (by grind) (fun j d hj=>by
   grind) (fun q hq=>by
   grind)
  grind [Instr.fill]
theorem qgI {css:List (List Value)}:∀(parts:List (Nat×Value)) {css:List (List Value)},qf1 (parts.map (·.1))=true→∀k,(parts.foldl (fun css q=>css.set q.1 q.2.cells.toList) css)[k]? =
  match parts.find? (fun q=>q.1==k)with
  |some q=>if k<css.length then some q.2.cells.toList else none
  |none=>css[k]?
 |[],css,_,k=>rfl
 |(i,v)::rest,css,hn,k=>by
  simp only[zaC,qf1,zad,Bool.not_eq_true']at hn;rw[List.foldl_cons,qgI (css:=css) rest hn.2 k,List.find?_cons];grind
section
variable {C:Ctx}{E:Env}{σ:St}{tm:Array Value}{a:Act}{w w':World}{own:Own}{o:Oper}{p:qdU} [Tabbed E C]
def qeq (X:Sit):List (Nat×Op1)→List (Nat×Value)→Prop
 |[],[]=>True
 |o::os,v::vs=>o.1=v.1∧qaC X o.2 v.2∧qeq X os vs
 |_,_=>False
theorem qej (h:qK C σ a.tmps w own) (hp:qa5 (sit C σ a.tmps w own) p) {tid:Nat→Nat}:∀(xs:List (Nat×Operand)) {os:List (Nat×Op1)},(qfH E p tid xs).run (qj σ)=some os→qeq (sit C σ a.tmps w own) os (xs.map fun x=>(x.1,a.eval x.2))
 |[],os,he=>by
  have:=Q.yb he;subst this;trivial
 |(i,x)::xs,os,he=>by
  obtain⟨o1,h1,he⟩:=Q.ya he;obtain⟨r,h2,he⟩:=Q.ya he;have:=Q.yb he;subst this;exact⟨rfl,qF h hp h1,qej h hp xs h2⟩
theorem qeq.find {X:Sit}(k:Nat): {os:List (Nat×Op1)}→{vs:List (Nat×Value)}→qeq X os vs→
  (match os.find? (fun q=>q.1==k)with
   |some q=>∃v,vs.find? (fun q=>q.1==k)=some v∧qaC X q.2 v.2
   |none=>vs.find? (fun q=>q.1==k)=none)
 |[],[],_=>rfl
 |(i,o)::os,(j,v)::vs,⟨h1,h2,h3⟩=>by
  simp only at h1;subst h1;rw[List.find?_cons,List.find?_cons];by_cases hik:i=k
  ·simp_all
  ·have e:(i==k)=false:=by simp[hik]
   simp only[e];exact h3.find k
theorem qeq.map {X:Sit}: {os:List (Nat×Op1)}→{vs:List (Nat×Value)}→qeq X os vs→os.map (·.1)=vs.map (·.1)
 |[],[],_=>rfl
 |(i,o)::os,(j,v)::vs,⟨h1,_,h3⟩=>by simp[h3.map,show i=j from h1]
theorem qmE {F:Nat→Prop}{c d:BC}{c1 c2:List Value}{b1 b2:List Nat}(h1:qaz w F c c1 b1) (h2:qaz w F d c2 b2):qaz w F (qgx.pairBC c d) (c1++c2) (b1++b2):=by
 unfold qgx.pairBC;split
 ·exact⟨by rw[h1.1,h2.1];rfl,c1,c2,rfl,h1.2,h2.2⟩
 ·exact⟨c1,c2,b1,b2,rfl,rfl,h1,h2⟩
theorem qcs: {l:List Nat}→qf1 l=true→l.Nodup
 |[],_=>zaA
 |a::l,h=>by
  simp only[qf1,zad,Bool.not_eq_true']at h;refine zaJ.2 ⟨fun hm=>?_,qcs h.2⟩;grind
theorem qrF {F:Nat→Prop}{A B:Ty}{z za zb:BC}{zs:List Value}(hz:qaz w F z zs []) (hs:z.size=A.size+B.size) (he:qp9 A B z=some (za,zb)):
  ∃z1 z2,zs=z1++z2∧qaz w F za z1 []∧qaz w F zb z2 []∧za.size=A.size∧zb.size=B.size:=by
 cases z with
 |pair c d=>
  simp only[qp9]at he;split at he
  ·rename_i h1;injection he with he;injection he with e1 e2;subst e1 e2;obtain⟨c1,c2,b1,b2,h2,h3,h4,h5⟩:=hz;obtain⟨rfl,rfl⟩:=List.append_eq_nil_iff.1 h3.symm;have hs:c.size+d.size=A.size+B.size:=hs;grind
  ·cases he
 |val t x=>
  cases t with
  |pair a' b'=>
   simp only[qp9]at he;split at he
   ·rename_i h1;injection he with he;injection he with e1 e2;subst e1 e2;obtain⟨_,c1,c2,h2,h3,h4⟩:=hz;have hs:a'.size+b'.size=A.size+B.size:=hs;exact⟨c1,c2,h2,⟨rfl,h3⟩,⟨rfl,h4⟩,h1,by show b'.size=_;omega⟩
   ·cases he
  |_=>cases he
 |_=>cases he
theorem qkK (h:qK C σ a.tmps w own) {ps:List (Nat×Op1)}{vs:List (Nat×Value)}(hps:qeq (sit C σ a.tmps w own) ps vs):(T:Ty)→(i:Nat)→{z:BC}→{zs:List Value}→{r:BC×List Nat}→qaz w (C.free w own) z zs []→z.size=T.size→(qgx z T i ps).run (qj σ)=some r→r.2.Nodup→
  ∃(css zss:List (List Value)) (bs:List Nat),zs=zss.flatten∧zss.map List.length=qaa T∧css.map List.length=qaa T∧qaz w (C.free w own) r.1 css.flatten bs∧(∀b∈bs,∃s∈r.2,b∈own s)∧bs.Nodup∧
   (∀k,k<css.length→css[k]? =match vs.find? (fun q=>q.1==i+k)with
    |some q=>some q.2.cells.toList
    |none=>zss[k]?)∧∀k q,k<css.length→vs.find? (fun q=>q.1==i+k)=some q→some q.2.cells.toList.length=(qaa T)[k]?
 |.pair A B,i,z,zs,r,hz,hzs,he,hn=>by
  unfold qgx at he;have hf:=hps.find i;simp only at he;split at he;case h_2=>cases he
  rename_i za zb hsp;obtain⟨z1,z2,rfl,hz1,hz2,hs1,hs2⟩:=qrF hz hzs hsp;have hl1:z1.length=A.size:=by rw[hz1.length,hs1]
  split at he
  ·rename_i q hq;rw[hq]at hf;obtain⟨v,hv,ho⟩:=hf;obtain⟨c,h1,he⟩:=Q.ya he;split at he;case isFalse=>cases he
   rename_i hemp;obtain⟨r',h2,he⟩:=Q.ya he;have:=Q.yb he;subst this;obtain⟨bs0,k1,k2,k3,k4⟩:=qgH h ho h1 (by grind);have hn':=zai.1 hn;obtain⟨css,zss,bs,g1,g2,g2',g3,g4,g5,g6,g7⟩:=qkK h hps B (i+1) hz2 hs2 h2 hn'.2.1;have hb0:∀b∈bs0,∃s∈c.2.2.map (·.s),b∈own s:=by
    grind
   refine⟨v.2.cells.toList::css,z1::zss,bs0++bs,by grind,by simp[qaa,g2,hl1],by rw[zaC,g2',k2];rfl,?_,?_,?_,?_,?_⟩
   ·grind [qmE]
   ·grind
   ·refine zai.2 ⟨?_,g5,fun b hb b' hb' e=>?_⟩
    ·rcases k4 with⟨_,e⟩|⟨s,_,e⟩
     ·grind
     ·rw[e];exact h.nodup s
    ·subst e;obtain⟨s,hs,hb⟩:=hb0 b hb;obtain⟨s',hs',hb'⟩:=g4 b hb';have:=h.apart s s' b hb hb';grind
   ·intro k hk;cases k with
    |zero=>grind
    |succ k=>
     grind
   ·intro k q' hk hq';cases k with
    |zero=>
     rw[Nat.add_zero,hv]at hq';injection hq' with hq';subst hq';rw[k2];rfl
    |succ k=>exact g7 k q' (by simpa using hk) (by grind)
  ·rename_i hq;rw[hq]at hf;obtain⟨r',h2,he⟩:=Q.ya he;have:=Q.yb he;subst this;obtain⟨css,zss,bs,g1,g2,g2',g3,g4,g5,g6,g7⟩:=qkK h hps B (i+1) hz2 hs2 h2 hn;refine⟨z1::css,z1::zss,bs,by grind,by simp[qaa,g2,hl1],by rw[zaC,g2',hl1];rfl,?_,g4,g5,?_,?_⟩
   ·rw[List.flatten_cons];exact qmE (b1:=[]) hz1 g3
   ·grind
   ·intro k q' hk hq';cases k with
    |zero=>grind
    |succ k=>exact g7 k q' (by simpa using hk) (by grind)
 |.unit,i,z,zs,r,hz,hzs,he,hn=>by
  have:=Q.yb he;subst this;have hz:zs=[]:=zaz (by rw[hz.length,hzs];rfl);subst hz;exact⟨[],[],[],rfl,rfl,rfl,⟨rfl,rfl⟩,fun b hb=>(by cases hb),zaA,fun k hk=>(by cases hk),fun k q hk=>(by cases hk)⟩
 |.int _,_,_,_,_,_,_,he,_=>by cases he
 |.bool,_,_,_,_,_,_,he,_=>by cases he
 |.str,_,_,_,_,_,_,he,_=>by cases he
 |.err,_,_,_,_,_,_,he,_=>by cases he
 |.opt _,_,_,_,_,_,_,he,_=>by cases he
 |.map _ _,_,_,_,_,_,_,he,_=>by cases he
 |.ptr _ _,_,_,_,_,_,_,he,_=>by cases he
 |.sl _ _,_,_,_,_,_,_,he,_=>by cases he
 |.slice _,_,_,_,_,_,_,he,_=>by cases he
 |.arr _ _,_,_,_,_,_,_,he,_=>by cases he
end
end Go.Vi
namespace Go.Vi
open Go.RowKit
def qea:Ty→Nat→List (Nat×Nat)
 |.pair a b,off=>(off,a.size)::qea b (off+a.size)
 |_,_=>[]
theorem qkP:(T:Ty)→{zss:List (List Value)}→(off:Nat)→zss.map List.length=qaa T→{i:Nat}→{c:List Value}→zss[i]? =some c→(qea T off)[i]? =some (off+qln zss i,c.length)
 |.pair a b,[],_,hz,_,_,hc=>by cases hc
 |.pair a b,z::zss,off,hz,i,c,hc=>by
  simp only[qaa,zaC,List.cons.injEq]at hz;cases i with
  |zero=>
   grind [qea,qln]
  |succ i=>
   have:=qkP b (off+a.size) hz.2 (i:=i) (c:=c) hc;grind [qea,qln]
 |.unit,zss,_,hz,_,_,hc=>by simp_all [qaa]
 |.int _,zss,_,hz,_,_,hc=>by simp_all [qaa]
 |.bool,zss,_,hz,_,_,hc=>by simp_all [qaa]
 |.str,zss,_,hz,_,_,hc=>by simp_all [qaa]
 |.err,zss,_,hz,_,_,hc=>by simp_all [qaa]
 |.opt _,zss,_,hz,_,_,hc=>by simp_all [qaa]
 |.map _ _,zss,_,hz,_,_,hc=>by simp_all [qaa]
 |.ptr _ _,zss,_,hz,_,_,hc=>by simp_all [qaa]
 |.sl _ _,zss,_,hz,_,_,hc=>by simp_all [qaa]
 |.slice _,zss,_,hz,_,_,hc=>by simp_all [qaa]
 |.arr _ _,zss,_,hz,_,_,hc=>by simp_all [qaa]
theorem qi7 {P:Program}(w:World):(fs:List Field)→(T:Ty)→(off:Nat)→Lay P fs T off→(fs.mapM fun (f:Field)=>Prod.mk f.offset<$> sizeOf f.type).run P w=.ok (qea T off) w
 |[],.unit,_,_=>rfl
 |f::fs,.pair a b,off,⟨h1,h2,h3⟩=>by
  have:=qi7 w fs b (off+a.size) h3;simp_all [qea]
 |[],.pair _ _,_,h=>by cases h
 |[],.int _,_,h=>by cases h
 |[],.bool,_,h=>by cases h
 |[],.str,_,h=>by cases h
 |[],.err,_,h=>by cases h
 |[],.opt _,_,h=>by cases h
 |[],.map _ _,_,h=>by cases h
 |[],.ptr _ _,_,h=>by cases h
 |[],.sl _ _,_,h=>by cases h
 |[],.slice _,_,h=>by cases h
 |[],.arr _ _,_,h=>by cases h
 |_::_,.unit,_,h=>by cases h
 |_::_,.int _,_,h=>by cases h
 |_::_,.bool,_,h=>by cases h
 |_::_,.str,_,h=>by cases h
 |_::_,.err,_,h=>by cases h
 |_::_,.opt _,_,h=>by cases h
 |_::_,.map _ _,_,h=>by cases h
 |_::_,.ptr _ _,_,h=>by cases h
 |_::_,.sl _ _,_,h=>by cases h
 |_::_,.slice _,_,h=>by cases h
 |_::_,.arr _ _,_,h=>by cases h
theorem qnW {vs:List (Nat×Value)}(hn:qf1 (vs.map (·.1))=true) {q:Nat×Value}(hq:q∈vs):vs.find? (fun r=>r.1==q.1)=some q:=by
 induction vs with
 |nil=>cases hq
 |cons v vs ih=>
  grind [qf1]
section
variable {C:Ctx}{E:Env}{σ:St}{tm:Array Value}{a:Act}{w w':World}{own:Own}{o:Oper}{p:qdU} [Tabbed E C]
theorem qrU {X:Sit}{c:BC}{cs:List Value}{bs:List Nat}(ha:∀t x,c=.val t x→t.agg=true) (h:qaz X.w X.F c cs bs):qS X (qpb c) (.agg cs.toArray) bs:=by
 unfold qpb;split
 ·rename_i t x;refine⟨h.1,by simpa[Value.cells]using h.2,fun _=>⟨_,rfl⟩,fun hf=>?_⟩;grind
 ·exact⟨cs,rfl,h⟩
theorem qlI (c:BC):(qpb c).mentions=[]:=by
 unfold qpb;split<;>rfl
theorem qrt {ps:List (Nat×Op1)}{T:Ty}{i:Nat}{r:BC×List Nat}{lk:Nat→Ent}{z:BC}(he:(qgx z T i ps).run lk=some r):T.struct=true∧∀t x,r.1=.val t x→t.agg=true:=by
 cases T with
 |pair A B=>
  refine⟨rfl,fun t x hx=>?_⟩;unfold qgx at he;simp only at he;split at he;case h_2=>cases he
  split at he
  ·obtain⟨c,_,he⟩:=Q.ya he;split at he
   ·obtain⟨r',_,he⟩:=Q.ya he;have:=Q.yb he;subst this;simp only[qgx.pairBC]at hx;split at hx
    ·injection hx with h1 h2;subst h1;rfl
    ·cases hx
   ·cases he
  ·obtain⟨r',_,he⟩:=Q.ya he;have:=Q.yb he;subst this;simp only[qgx.pairBC]at hx;split at hx
   ·injection hx with h1 h2;subst h1;rfl
   ·cases hx
 |unit=>
  have:=Q.yb he;subst this;refine⟨rfl,fun t x hx=>?_⟩;injection hx with h1 h2;subst h1;rfl
 |_=>cases he
theorem qhb {X:Sit}:∀(k:Nat) {ps:List (Nat×Op1)}{vs:List (Nat×Value)},qeq X ps vs→qhM k ps=true→vs=((vs.map (·.2)).zipIdx k).map fun x=>(x.2,x.1)
 |k,[],[],_,_=>rfl
 |k,p::ps,v::vs,⟨h1,_,h3⟩,h=>by
  simp only[qhM,zad]at h;have e:p.1=k:=by simpa using h.1
  rw[zaC,List.zipIdx_cons,zaC,←qhb (k+1) h3 h.2,←e,h1]
 |_,[],_::_,h,_=>by cases h
 |_,_::_,[],h,_=>by cases h
theorem FW.mono {X:Sit}{a b:List Nat}(h:∀s∈a,s∈b) {x:Nat}(hx:FW X a x):FW X b x:=by
 rcases hx with hx|⟨s,hs,hx⟩
 ·exact .inl hx
 ·exact .inr ⟨s,h s hs,hx⟩
theorem qhL (h:qK C σ a.tmps w own) {e:Ty}:∀(n:Nat) (ps:List (Nat×Op1)) (vs:List (Nat×Value)) {r:List e.den×List Nat},qeq (sit C σ a.tmps w own) ps vs→(qiL e n (ps.map (·.2))).run (qj σ)=some r→
  vs.length=n∧r.1.length=n∧∀(i:Nat) x v,r.1[i]? =some x→vs[i]? =some v→q9 w (FW (sit C σ a.tmps w own) r.2) e x v.2
 |0,[],[],r,_,he=>by
  have:=Q.yb he;grind
 |n+1,p::ps,v::vs,r,⟨h1,h2,h3⟩,he=>by
  obtain⟨x,k1,he⟩:=Q.ya he;obtain⟨r',k2,he⟩:=Q.ya he;have:=Q.yb he;subst this;obtain⟨g1,g2,g3⟩:=qhL h n ps vs h3 k2;refine⟨by simp[g1],by simp[g2],fun i y u hy hu=>?_⟩;cases i with
  |zero=>
   injection hy with hy;injection hu with hu;subst hy;subst hu;exact(qcm h h2 k1).mono fun b hb _=>FW.mono (fun s hs=>zab _ hs) hb
  |succ i=>exact(g3 i y u hy hu).mono fun b hb _=>FW.mono (fun s hs=>zaa _ hs) hb
 |0,_::_,_,_,_,he=>by cases he
 |n+1,[],_,_,_,he=>by cases he
 |0,[],_::_,_,h,_=>by cases h
 |n+1,_::_,[],_,h,_=>by cases h
theorem qtc (hE:qad E C.P) (h:qK C σ a.tmps w own) {t n:Nat}{e:Ty}{parts:Array (Nat×Operand)}(hop:o.op=.build t parts) {ps:List (Nat×Op1)}{vs:List (Nat×Value)}(hvs:(parts.toList.map fun x=>(x.1,a.eval x.2))=vs) (hps:qeq (sit C σ a.tmps w own) ps vs) (hty:E.ty t=some (.arr n e)) {f:Eff}
  (he:((if qhM 0 ps&&(decide (0<n*e.size)&&decide ((E.zero t).map BC.size=some (n*e.size)))then(qiL e n (ps.map (·.2))).bind fun r=>(if e.flat then Q.ret []else qbO r.2).bind fun fz=>okE (fz++qaL o (.val (.arr n e) r.1))else .fail:Q Eff)).run (qj σ)=some f) (hd:∀u∈f.upd,u.s<σ.length):qb5 C o a w (qh σ f.upd):=by
 split at he;case isFalse=>cases he
 rename_i hcond;simp only[zad,decide_eq_true_eq]at hcond;obtain⟨c1,c2,c3⟩:=hcond;obtain⟨r,h2,he⟩:=Q.ya he;obtain⟨fz,h3,he⟩:=Q.ya he;have:=qE he;subst this;obtain⟨g1,g2,g3⟩:=qhL h n ps vs hps h2;have hpos:0<e.size:=Nat.pos_of_mul_pos_left c2;have hlenv:∀v∈vs.map (·.2),v.cells.size=e.size:=by
  intro v hv;obtain⟨q,hq,rfl⟩:=List.mem_map.1 hv;obtain⟨j,hj,rfl⟩:=List.getElem_of_mem hq;have:=(g3 j _ _ (zac (by omega)) (zac hj)).1.length;omega
 obtain⟨c,hzc,hcs⟩:=zao.1 c3;obtain⟨i,z,k1,k2,k3⟩:=hE.zero t c hzc;have hzl:z.cells.size=n*e.size:=by
  have:=(k3 w (C.free w own)).length;grind
 have hfill:=Great.fill_whole hpos (vs.map (·.2)) z.cells hlenv (by grind);rw[←qhb 0 hps c1]at hfill;have hm:(parts.map fun (i,x)=>(i,a.eval x)).toList=vs:=by simp_all
 have hsz:=congrFun (hE.size t e (.inr ⟨n,hty⟩)) w;have hrun:(execOp a.eval o).run C.P w=.ok (.value (.agg ((vs.map (·.2)).flatMap fun v=>v.cells.toList).toArray)) w:=by
  unfold execOp;rw[hop];simp only[Sem.run_bind,Instr.build,zeroValue,typeInfo,Sem.run_pure,Result.andThen_ok,run_underlying (hE.arr t n e hty),hm];simp_all
 refine qgR h hrun h3 hd ?_;refine⟨⟨g2,(vs.map (·.2)).map (fun v=>v.cells.toList),by simp[g1],?_,fun j x c hj hc=>?_⟩,fun _=>⟨_,rfl⟩,fun hf=>by cases hf⟩
 ·show((vs.map (·.2)).flatMap fun v=>v.cells.toList).toArray.toList=_;grind
 ·rw[List.getElem?_map]at hc;obtain⟨v,hv,rfl⟩:=zao.1 hc;rw[List.getElem?_map]at hv;obtain⟨q,hq,rfl⟩:=zao.1 hv;exact(g3 j x q hj hq).1
theorem qq5 (hE:qad E C.P) (h:qK C σ a.tmps w own) (hp:qa5 (sit C σ a.tmps w own) p) {t:Nat}{parts:Array (Nat×Operand)}(hop:o.op=.build t parts) {f:Eff}
  (he:(qdR E p o).run (qj σ)=some f) (hd:∀u∈f.upd,u.s<σ.length) (hc:qb9 f.chk):qb5 C o a w (qh σ f.upd):=by
 unfold qdR at he;rw[hop]at he;obtain⟨ps,h1,he⟩:=Q.ya he;have hps:=qej h hp parts.toList h1;generalize hvs:(parts.toList.map fun x=>(x.1,a.eval x.2))=vs at hps;split at he
 ·grind [qtc]
 case h_3=>cases he
 rename_i T _ hty;obtain⟨r,h2,he⟩:=Q.ya he;split at he;case h_2=>cases he
 rename_i d hdst;split at he;case isFalse=>cases he
 rename_i hcond;simp only[zad]at hcond;obtain⟨⟨c1,c2⟩,c3⟩:=hcond;have:=qE he;subst this;have hnd:=zaJ.1 (qcs c1);obtain⟨hst,hag⟩:=qrt h2;obtain⟨fs,z,i,s1,s2,s3,s4,s5⟩:=hE.struct t T hty hst;obtain⟨hz0,hz1⟩:qaz w (C.free w own) (if E.ownz=true then(E.zero t).getD (.val T T.dflt)else .val T T.dflt) z.cells.toList []∧(if E.ownz=true then(E.zero t).getD (.val T T.dflt)else BC.val T T.dflt).size=T.size:=by
  have key:qaz w (C.free w own) (if E.ownz=true then(E.zero t).getD (.val T T.dflt)else .val T T.dflt) z.cells.toList []:=by
   split
   ·cases hzz:E.zero t with
    |none=>exact⟨rfl,s4 w (C.free w own)⟩
    |some c=>
     obtain⟨i',z',k1,k2,k3⟩:=hE.zero t c hzz;grind
   ·exact⟨rfl,s4 w (C.free w own)⟩
  exact⟨key,by rw[←key.length];exact(s4 w (C.free w own)).length⟩
 obtain⟨css,zss,bs,g1,g2,g2',g3,g4,g5,g6,g7⟩:=qkK h hps T 0 (zs:=z.cells.toList) hz0 hz1 h2 hnd.2;have hvd:qf1 (vs.map (·.1))=true:=by rw[←hps.map];exact c2
 have hlen:zss.length=css.length:=by
  grind
 have hbound:∀q∈vs,q.1<css.length:=by
  intro q hq;have:q.1∈ps.map (·.1):=by rw[hps.map];grind
  grind
 obtain⟨rr,f1,f2⟩:=qm1 (place:=fun i=>(qea T 0).toArray[i]?) vs zss z.cells g1 (fun i c hi=>by
  have:=qkP T 0 g2 hi;grind) (fun q hq=>by
  grind [qnW])
 have hfin:vs.foldl (fun css q=>css.set q.1 q.2.cells.toList) zss=css:=by
  apply List.ext_getElem?;intro k;rw[qgI (css:=zss) vs hvd k];grind
 rw[hfin]at f2;have hrr:rr=css.flatten.toArray:=by rw[←f2]
 subst hrr;have hrun:(execOp a.eval o).run C.P w=.ok (.value (.agg css.flatten.toArray)) w:=by
  unfold execOp;rw[hop];have hm:(parts.map fun (i,x)=>(i,a.eval x)).toList=vs:=by rw[←hvs];simp
  have hpl:=qi7 w fs.toList T 0 s5;simp only[Sem.run_bind,Instr.build,zeroValue,typeInfo,s2,s3,Sem.run_pure,Result.andThen_ok,run_underlying s1,hm];rw[Array.mapM_eq_mapM_toList];have f1':Instr.fill (fun x=>(qea T 0)[x]?) z.cells vs=some css.flatten.toArray:=by simpa using f1
  simp[hpl,f1',s2,s3]
 refine qt hrun ?_;rw[qdG a hdst];refine h.mut (hd ⟨d,true,qpb r.1⟩ (by simp)) r.2 (fun s hs=>⟨hd ⟨s,true,.undef⟩ (by grind),fun e=>hnd.1 (by grind)⟩) (qaA.refl _ _) (fun b hb=>.inr (.inr (g4 b hb))) g5 (qrU hag g3) (qlI _) (by unfold qpb;split<;>rfl)
theorem qgj {P:Program}{t:Nat}{i:TypeInfo}(h:P.info? t=some i):(sizeOf t).run P w=.ok i.size w:=by
 simp[sizeOf,typeInfo,h]
theorem qlm (hE:qad E C.P) (h:qK C σ a.tmps w own) (hp:qa5 (sit C σ a.tmps w own) p) {t n:Nat}{parts:Array (Nat×Operand)}(hop:o.op=.buildSlice t n parts) {f:Eff}
  (he:(qdR E p o).run (qj σ)=some f) (hd:∀u∈f.upd,u.s<σ.length) (hc:qb9 f.chk):qb5 C o a w (qh σ f.upd):=by
 unfold qdR at he;rw[hop]at he;obtain⟨ps,h1,he⟩:=Q.ya he;have hps:=qej h hp parts.toList h1;generalize hvs:(parts.toList.map fun x=>(x.1,a.eval x.2))=vs at hps;split at he;case h_2=>cases he
 rename_i e hty;split at he
 ·rename_i h0;have hfe:=qE he;clear he;subst hfe;obtain⟨hn0,hp0⟩:=h0;have hp1:parts= #[]:=Array.eq_empty_of_size_eq_zero hp0;rw[hn0,hp1]at hop;have hu:=(hE.elem t e hty).under;obtain⟨i,z,k1,k2,k3,k4,k5,k6,k7⟩:=hE.elem' hty;refine h.newOwn (n:=0) (cap:=0) (cur:= #[]) rfl (zax _) (by simp) (by simp) (fun i x hi=>by cases hi) ?_ hd;unfold execOp;rw[hop];simp[Sem.run_bind,Instr.buildSlice,run_underlying k1,qgj k2,Instr.fill,newRow];grind
 split at he;case isFalse=>cases he
 rename_i hcond;simp only[zad]at hcond;obtain⟨⟨c1,c2⟩,c3⟩:=hcond;have c2:n*e.size≤16777216:=of_decide_eq_true c2;have c3:0<n*e.size:=of_decide_eq_true c3;obtain⟨r,h2,he⟩:=Q.ya he;obtain⟨fz,h3,he⟩:=Q.ya he;have:=qE he;subst this;obtain⟨g1,g2,g3⟩:=qhL h n ps vs hps h2;obtain⟨i,z,k1,k2,k3,k4,k5,k6,k7⟩:=hE.elem' hty;have hpos:0<e.size:=Nat.pos_of_mul_pos_left c3;have hlenv:∀v∈vs.map (·.2),v.cells.size=e.size:=by
  intro v hv;obtain⟨q,hq,rfl⟩:=List.mem_map.1 hv;obtain⟨j,hj,rfl⟩:=List.getElem_of_mem hq;have:=(g3 j _ _ (zac (by omega)) (zac hj)).1.length;omega
 have hfill:=Great.fill_whole hpos (vs.map (·.2)) ((Array.range (n*i.size)).map (z.cells[· % z.cells.size]!)) hlenv (by simp[g1,k3]);rw[←qhb 0 hps c1]at hfill;have hrun:=run_buildSlice (P:=C.P) w t (E.etid t) n vs.toArray _ i z k1 k2 k4 (by rw[k3];omega) (by rw[k3];omega) (by rw[k3]at hfill⊢;exact hfill);have hx:(execOp a.eval o).run C.P w=.ok (.value (.slice (some ⟨w.heap.size,0,none⟩) n n)) (w.alloc (.cells ((vs.map (·.2)).flatMap fun v=>v.cells.toList).toArray (E.etid t))):=by
  unfold execOp;rw[hop];have hm:(parts.map fun (i,x)=>(i,a.eval x))=vs.toArray:=by grind
  simp_all
 have hcells:∀F,(∀(i:Nat) (x:e.den) (v:Nat×Value),r.1[i]? =some x→vs[i]? =some v→q9 w F e x v.2)→∀(i:Nat) (x:e.den),r.1[i]? =some x→Rep w F e x (((((vs.map (·.2)).flatMap fun v=>v.cells.toList).toArray).toList.drop (i*e.size)).take e.size):=by
  intro F hF j x hj;have hjl:j<vs.length:=by grind
  have:=hF j x vs[j] hj (zac hjl);have e1:((vs.map (·.2)).flatMap fun v=>v.cells.toList)=((vs.map (·.2)).map fun v=>v.cells.toList).flatten:=by grind
  have hl:∀c∈((vs.map (·.2)).map fun v=>v.cells.toList),c.length=e.size:=by
   grind
  rw[List.toList_toArray,e1,(qaW hl (i:=j) (c:=vs[j].2.cells.toList) (by simp[hjl])).1];exact this.1
 have hnm:n≤maxLen:=by
  have:n*1≤n*e.size:=Nat.mul_le_mul_left _ hpos;grind [maxLen]
 have hsz:(((vs.map (·.2)).flatMap fun v=>v.cells.toList).toArray).size=n*e.size:=by
  have e1:((vs.map (·.2)).flatMap fun v=>v.cells.toList)=((vs.map (·.2)).map fun v=>v.cells.toList).flatten:=by grind
  have hl:∀c∈((vs.map (·.2)).map fun v=>v.cells.toList),c.length=e.size:=by
   grind
  rw[List.size_toArray,e1,qdj hl];simp[g1]
 by_cases hf:e.flat=true
 ·rw[if_pos hf]at h3;have:=Q.yb h3;subst this;exact h.newOwn g2 (zax _) hnm hsz (hcells _ fun i x v hx hv=>(g3 i x v hx hv).flat hf) hx hd
 ·rw[if_neg hf]at h3;obtain⟨own',q1,q2,q3,q4⟩:=qcL r.2 h h3;rw[qbq];exact q1.newOwn g2 (zax _) hnm hsz (hcells _ fun i x v hx hv=>(g3 i x v hx hv).mono fun b hb _=>q4 b hb) hx (fun u hu=>by grind [qB])
end
end Go.Vi
namespace Go.Vi
open Go.RowKit
theorem qn0 {α β:Type}{f:α→Option β}: {xs:List α}→{ys:List β}→mapO f xs=some ys→ys.length=xs.length∧∀(i:Nat) (y:β),ys[i]? =some y→∃x,xs[i]? =some x∧f x=some y
 |[],ys,h=>by
  injection h with h;grind
 |x::xs,ys,h=>by
  unfold mapO at h;split at h
  ·rename_i y zs h1 h2;injection h with h;subst h;obtain⟨k1,k2⟩:=qn0 h2;grind
  ·cases h
theorem qnU {w:World}{F:Nat→Prop}{gh:Nat→Nat→Option Value}{ps:List qQ}{nb:List Nat}(hn:(ps.map (·.k)).Nodup) (hh:qL w F gh ps nb):
  (t t':Ty)→(x:t'.den)→(y:t.den)→(cs:List Value)→qa6 w F gh t' x cs→qgq ps t t' x=some y→Rep w (fun b=>F b∨b∈nb) t y cs:=by
 have plain:∀(t t':Ty) (x:t'.den) (y:t.den) (cs:List Value),qa6 w F gh t' x cs→(if t.plain=true then Ty.as (t:=t') t x else none)=some y→Rep w (fun b=>F b∨b∈nb) t y cs:=by
  intro t t' x y cs hr he;split at he
  ·rename_i hp;obtain⟨rfl,rfl⟩:=Ty.yd he;exact(qa6.plain hp hr).keep fun b hb hl=>⟨.inl hb,hl,rfl⟩
  ·cases he
 intro t;induction t with
 |pair a b iha ihb=>
  intro t' x y cs hr he;cases t' with
  |pair a' b'=>
   obtain⟨c1,c2,rfl,h1,h2⟩:=hr;simp only[qgq]at he;split at he
   ·rename_i u v hu hv;injection he with he;subst he;exact⟨c1,c2,rfl,iha _ _ _ _ h1 hu,ihb _ _ _ _ h2 hv⟩
   ·cases he
  |_=>grind [qgq]
 |slice e ih=>
  intro t' x y cs hr he;cases t' with
  |sl k sz=>
   obtain⟨v,rfl,hs⟩:=hr;refine⟨v,rfl,?_⟩;simp only[qgq]at he;split at he
   ·rename_i h0;injection he with he;subst he;rcases hs with⟨_,_,_,rfl⟩|⟨h1,_⟩
    ·exact .inl ⟨rfl,rfl⟩
    ·omega
   ·rename_i h0;split at he;case h_2=>cases he
    rename_i q hq;split at he;case isFalse=>cases he
    rename_i hc;obtain⟨hc,rfl,hse⟩:=hc;split at he;case h_2=>cases he
    rename_i xs hxs;obtain⟨k1,k2⟩:=qn0 he;rcases hs with⟨h1,_⟩|⟨s0,s1,s2,ad,n,cap,s3,s4,s5,s6⟩
    ·omega
    obtain⟨b1,b2,b3,p1,p2,p3⟩:=hh.find hn hq;have hk:=(qcF hq).1;subst hk;obtain⟨hd,c1,c2,c3,g1,g2,g3,g4⟩:=p2.row hxs;rw[s3]at g1;injection g1 with g1;subst g1;have hxn:xs.length=n:=by
     obtain⟨_,_,e1,_⟩:=g3.form;grind
    have hv:v=sliced ad x.2.1.toNat x.2.2.toNat cap q.e.size:=by
     grind
    have hyl:y.length=x.2.2.toNat-x.2.1.toNat:=by grind
    obtain⟨cells,r1,r2,r3⟩:=g3;rcases r1.2 with⟨e1,e2⟩|⟨g,cap',cur,e1,_,hg,hnc,hcm,hcs,htake⟩
    ·injection e1 with e1 e3 e4;subst e1;subst e4;have hz:x.2.2.toNat=0:=by omega
     have hz':x.2.1.toNat=0:=by omega
     refine .inl ⟨?_,zaz (by omega)⟩;rw[hv,hz,hz'];rfl
    ·injection e1 with e1 e3 e4;subst e1;subst e4;have hv':v=.slice (some ⟨g,x.2.1.toNat*q.e.size,none⟩) y.length (cap-x.2.1.toNat):=by
      rw[hv,hyl];unfold sliced;grind [Addr.add_lit]
     refine .inr ⟨_,_,hv',by omega,by omega,fun i u hi=>?_⟩;obtain⟨z,hz,hzu⟩:=k2 i u hi;have hil:i<y.length:=(zaK.1 hi).1;rw[zav,zap,if_pos (by omega)]at hz;refine⟨.inr ?_,(Array.getElem?_eq_some_iff.1 hg).1,(cells.drop ((x.2.1.toNat+i)*q.e.size)).take q.e.size,fun j v' hj=>?_,?_⟩
     ·grind [Value.ownBlock]
     ·rw[zap]at hj;split at hj
      ·rw[zav]at hj;have:=r1.cells (g:=g) rfl _ _ hj;grind [Addr.add_lit,zaS]
      ·cases hj
     grind
  |_=>grind [qgq]
 |opt e ih=>
  intro t' x y cs hr he;cases t' with
  |ptr k sz=>
   obtain⟨v,rfl,hs⟩:=hr;refine⟨v,rfl,?_⟩;simp only[qgq]at he;split at he
   ·rename_i h0;injection he with he;subst he;rcases hs with⟨_,_,rfl⟩|⟨h1,_⟩
    ·exact .inl ⟨rfl,rfl⟩
    ·omega
   ·rename_i h0;split at he;case h_2=>cases he
    rename_i q hq;split at he;case isFalse=>cases he
    rename_i hc;obtain⟨rfl,hse,hpos⟩:=hc;split at he;case h_2=>cases he
    rename_i xs hxs;obtain⟨z,hz,rfl⟩:=zao.1 he;rcases hs with⟨h1,_⟩|⟨s0,s1,g,n,cap,s3,s4,rfl⟩
    ·omega
    obtain⟨_,k2,k3,cs,k4,k5⟩:=hh.at hn hq hxs s3 s1 s4;exact .inr ⟨z,⟨g,x.2.toNat*q.e.size,none⟩,cs,rfl,rfl,.inr k2,k3,k4,ih _ _ _ _ k5 hz⟩
  |_=>grind [qgq]
 |_=>grind [qgq]
theorem qox {w:World}{F:Nat→Prop}{gh:Nat→Nat→Option Value}{ps:List qQ}{nb:List Nat}(hn:(ps.map (·.k)).Nodup) (hh:qL w F gh ps nb) {t t':Ty}{x:t'.den}{y:t.den}{v:Value}(hr:qb3 w F gh t' x v) (ha:t'.agg=t.agg) (he:qfS ps t t' x=some y):q9 w (fun b=>F b∨b∈nb) t y v:=
 ⟨qnU hn hh _ _ _ _ _ hr.1 (by grind [qnC]),fun h=>hr.2.1 (by grind),fun h=>hr.2.2 (by grind)⟩
theorem qvH {w:World}{F:Nat→Prop}{gh:Nat→Nat→Option Value}{ps:List qQ}{nb:List Nat}(hn:(ps.map (·.k)).Nodup) (hh:qL w F gh ps nb) {t:Ty}{k sz:Nat}{x:Int×Int}{y:t.den}{v:Value}(hr:qkN gh k sz x v) (he:hvp ps t k sz x=some y):
  ∃ad cs,v=.pointer (some ad)∧ad.block∈nb∧ad.block<w.heap.size∧qem w ad cs∧Rep w (fun b=>F b∨b∈nb) t y cs:=by
 rw[qvw]at he;unfold hvpL at he;split at he;case h_2=>cases he
 rename_i q hq;split at he;case isFalse=>cases he
 rename_i hc;obtain⟨rfl,hse,h0⟩:=hc;split at he;case h_2=>cases he
 rename_i xs hxs;rcases hr with⟨h1,_⟩|⟨s0,s1,g,n,cap,s3,s4,rfl⟩
 ·omega
 obtain⟨_,k2,k3,cs,k4,k5⟩:=hh.at hn hq hxs s3 s1 s4;exact⟨⟨g,x.2.toNat*q.e.size,none⟩,cs,rfl,k2,k3,k4,qnU hn hh _ _ _ _ _ k5 he⟩
end Go.Vi
namespace Go.Vi
open Go.RowKit
def qac (P:Program) (w:World) (F:Nat→Prop):(ps:List PM)→PMs.den ps→List Value→List Nat→List Nat→Prop
 |[],_,vs,g,i=>vs=[]∧g=[]∧i=[]
 |.val t::ps,x,vs,g,i=>∃v r,vs=v::r∧q9 w F t x.1 v∧qac P w F ps x.2 r g i
 |.own et e::ps,x,vs,g,i=>∃v r g1 g2,vs=v::r∧g=g1++g2∧qO w F et e x.1 v g1∧qac P w F ps x.2 r g2 i
 |.io t::ps,x,vs,g,i=>∃(b:Nat) (r:List Value) (i2:List Nat) (cs:List Value) (te:Nat),vs=ptr b 0::r∧i=b::i2∧w.heap[b]? =some (.cells cs.toArray te (0,0))∧Rep w F t x.1 cs∧qac P w F ps x.2 r g i2
 |.ior et e::ps,x,vs,g,i=>∃v r i1 i2,vs=v::r∧i=i1++i2∧qO w F et e x.1 v i1∧qac P w F ps x.2 r g i2
 |.iob b::ps,x,vs,g,i=>∃(bk:Nat) (r:List Value) (g1 g2 i2:List Nat) (cs:List Value) (te:Nat),vs=ptr bk 0::r∧g=g1++g2∧i=bk::i2∧w.heap[bk]? =some (.cells cs.toArray te (0,0))∧qaz w F (b.un x.1) cs g1∧qac P w F ps x.2 r g2 i2
 |.fn a b::ps,x,vs,g,i=>∃v r,vs=v::r∧qjC P w F a b x.1 v∧qac P w F ps x.2 r g i
 |.nil _ _::ps,x,vs,g,i=>∃r,vs=.slice none 0 0::r∧qac P w F ps x.2 r g i
 |.rd t::ps,x,vs,g,i=>∃(ad:Addr) (cs:List Value) (r:List Value),vs=.pointer (some ad)::r∧F ad.block∧ad.block<w.heap.size∧qem w ad cs∧Rep w F t x.1 cs∧qac P w F ps x.2 r g i
def qcM (w:World) (F:Nat→Prop):(ps:List PM)→PMs.ioDen ps→List Value→List Nat→List Nat→Prop
 |[],_,_,i,js=>i=[]∧js=[]
 |.io t::ps,y,as,i,js=>∃(b:Nat) (i2:List Nat) (cs:List Value) (te:Nat),i=b::i2∧w.heap[b]? =some (.cells cs.toArray te (0,0))∧Rep w F t y.1 cs∧qcM w F ps y.2 as.tail i2 js
 |.iob b::ps,y,as,i,js=>∃(bk:Nat) (i2 j1 j2:List Nat) (cs:List Value) (te:Nat),i=bk::i2∧js=j1++j2∧w.heap[bk]? =some (.cells cs.toArray te (0,0))∧qaz w F (b.un y.1) cs j1∧qcM w F ps y.2 as.tail i2 j2
 |.ior et e::ps,y,as,i,js=>∃i1 i2,i=i1++i2∧qO w F et e y.1 (as.headD undef) i1∧qcM w F ps y.2 as.tail i2 js
 |.val _::ps,y,as,i,js=>qcM w F ps y as.tail i js
 |.own _ _::ps,y,as,i,js=>qcM w F ps y as.tail i js
 |.fn _ _::ps,y,as,i,js=>qcM w F ps y as.tail i js
 |.nil _ _::ps,y,as,i,js=>qcM w F ps y as.tail i js
 |.rd _::ps,y,as,i,js=>qcM w F ps y as.tail i js
def qiS (w:World) (F:Nat→Prop) (g i bs:List Nat) (b:Nat):Prop:=(F b∨b∈g∨w.heap.size≤b)∧b∉bs∧b∉i
def qH.Post (C:qH) (w:World) (F:Nat→Prop) (as:List Value) (g i:List Nat) (y:RMs.den C.rs×PMs.ioDen C.ps) (v:Value) (w':World):Prop:=
 ∃vs bs js,v=qcG vs∧(bs++js).Nodup∧(∀b∈bs++js,(b∈g∨w.heap.size≤b)∧b<w'.heap.size)∧qaB w' (qiS w F g i (bs++js)) (qcU C.rs y.1) vs bs∧qcM w' (qiS w F g i (bs++js)) C.ps y.2 as i js∧qaA (fun b=>b∈g++i) w w'
theorem qH.Post.mk0 {C:qH}{w:World}{F:Nat→Prop}{as:List Value}{g i:List Nat}{y:RMs.den C.rs×PMs.ioDen C.ps}{v:Value}{w':World}(vs:List Value) (bs:List Nat) (h1:v=qcG vs) (h2:bs.Nodup) (h3:∀b∈bs,(b∈g∨w.heap.size≤b)∧b<w'.heap.size)
  (h4:qaB w' (qiS w F g i bs) (qcU C.rs y.1) vs bs) (h5:qcM w' (qiS w F g i bs) C.ps y.2 as i []) (h6:qaA (fun b=>b∈g++i) w w'):C.Post w F as g i y v w':=
 ⟨vs,bs,[],h1,by grind,by grind,by grind,by grind,h6⟩
def qH.okT (P:Program) (T:qo5) (f:Nat) (C:qH):Prop:=
 (∀as w,(callFunc f as).run P w=.ok (.enter f as) w)∧
 ∀(w:World) (F:Nat→Prop) (x:PMs.den C.ps) (y:RMs.den C.rs×PMs.ioDen C.ps) (as:List Value) (g i:List Nat),qcN T w F→qac P w F C.ps x as g i→(∀b∈g++i,¬F b∧b<w.heap.size)→(g++i).Nodup→C.sem x=some y→
  Calls P f as.toArray w fun e w'=>∃v,e=.returned v∧C.Post w F as g i y v w'
abbrev qH.ok (P:Program) (f:Nat) (C:qH):Prop:=C.okT P (fun _=>none) f
def qdr (E:Env) (P:Program):Prop:=∀f C,E.fn f=some C→C.okT P E.tabs f
theorem qct.mono {w:World}{F F':Nat→Prop}:(ts:List Ty)→{x:denL ts}→{vs:List Value}→(∀b,F b→F' b)→qct w F ts x vs→qct w F' ts x vs
 |[],_,_,_,h=>h
 |t::ts,_,_,hF,⟨v,r,h1,h2,h3⟩=>⟨v,r,h1,h2.mono fun b hb _=>hF b hb,h3.mono ts hF⟩
theorem qhP {P:Program}{w:World}{F:Nat→Prop}:(ts:List Ty)→{x:PMs.den (valPs ts)}→{vs:List Value}→{g i:List Nat}→qac P w F (valPs ts) x vs g i→qct w F ts (qoL ts x) vs∧g=[]∧i=[]
 |[],_,_,_,_,h=>h
 |t::ts,_,_,_,_,⟨v,r,h1,h2,h3⟩=>by
  obtain⟨k1,k2,k3⟩:=qhP ts h3;exact⟨⟨v,r,h1,h2,k1⟩,k2,k3⟩
theorem qk4 {P:Program}{w:World}{F:Nat→Prop}:(ts:List Ty)→{x:denL ts}→{vs:List Value}→qct w F ts x vs→qac P w F (valPs ts) (toPs ts x) vs [] []
 |[],_,_,h=>⟨h,rfl,rfl⟩
 |t::ts,_,_,⟨v,r,h1,h2,h3⟩=>⟨v,r,h1,h2,qk4 ts h3⟩
theorem qhd {w:World}{F:Nat→Prop}:(us:List Ty)→{y:RMs.den (valRs us)}→{vs:List Value}→{bs:List Nat}→qaB w F (qcU (valRs us) y) vs bs→qct w F us (qqF us y) vs∧bs=[]
 |[],_,_,_,h=>h
 |t::ts,_,_,_,⟨v,r,b1,b2,h1,h2,h3,h4⟩=>by
  obtain⟨k1,k2⟩:=qhd ts h4;have h3:b1=[]∧_:=h3;exact⟨⟨v,r,h1,h3.2,k1⟩,by grind⟩
theorem qiZ {w:World}{F:Nat→Prop}:(us:List Ty)→{y:denL us}→{vs:List Value}→qct w F us y vs→qaB w F (qcU (valRs us) (qsT us y)) vs []
 |[],_,_,h=>⟨h,rfl⟩
 |t::ts,_,_,⟨v,r,h1,h2,h3⟩=>⟨v,r,[],[],h1,rfl,⟨rfl,h2⟩,qiZ ts h3⟩
theorem qjr:(ts:List Ty)→PMs.ye (valPs ts)=true
 |[]=>rfl
 |_::r=>qjr r
theorem qk3:(ts:List Ty)→(y:PMs.ioDen (valPs ts))→qet (valPs ts) y []=[]
 |[],_=>rfl
 |_::r,y=>qk3 r y
theorem qgA {w:World}{F:Nat→Prop}:(ts:List Ty)→{y:PMs.ioDen (valPs ts)}→{as:List Value}→qcM w F (valPs ts) y as [] []
 |[],_,_=>⟨rfl,rfl⟩
 |_::r,y,as=>qgA r (y:=y) (as:=as.tail)
theorem qlg {E:Env}{lk:Nat→Ent}:(ts:List Ty)→{os:List Op1}→{A:qrB (valPs ts)}→(qao E (valPs ts) os).run lk=some A→True∧A.ios=[]∧A.gone=[]
 |[],[],A,h=>by
  have:=Q.yb h;grind
 |[],_::_,_,h=>by cases h
 |_::_,[],_,h=>by cases h
 |t::r,o::os,A,h=>by
  obtain⟨x,h1,h⟩:=Q.ya h;obtain⟨q,h2,h⟩:=Q.ya h;have:=Q.yb h;subst this;exact qlg r h2
theorem qnq {E:Env}{P:Program}(hF:qdr E P) {w:World}{F:Nat→Prop}{ts us:List Ty}{X:Sit}(hX:X.P=P∧X.w=w∧X.F=F) (hT:qcN E.tabs w F) {a:AV}{v:Value}{φ:denL ts→Option (denL us)}(h:quH E ts us a=some φ) (hr:qS X a v []):qjC P w F ts us φ v:=by
 obtain⟨rfl,rfl,rfl⟩:=hX;unfold quH at h;split at h
 ·split at h
  ·rename_i hc;obtain⟨rfl,rfl⟩:=hc;injection h with h;subst h;exact hr.2
  ·cases h
 ·rename_i f;split at h;case h_2=>cases h
  rename_i C hC;have hok:=hF f C hC;obtain⟨ps,rs,sem⟩:=C;split at h;case isFalse=>cases h
  rename_i hc;obtain⟨h1,h2⟩:=hc;simp only at h1 h2;subst h1;subst h2;injection h with h;subst h;obtain⟨_,vs,hv,hcs⟩:=hr;have hvs:vs=[]:=hcs.1;subst hvs;refine⟨f,#[],hv,hok.1,fun w' F' x y as hkp hvals hy=>?_⟩;simp only[qeE,zao]at hy;obtain⟨z,hz,rfl⟩:=hy;refine Calls.mono (by simpa using hok.2 w' F' (toPs ts x) z as [] [] (hT.keep hkp) (qk4 ts hvals) (fun b hb=>by cases hb) zaA hz) ?_;rintro e w'' ⟨v',rfl,rs,bs,js,rfl,_,_,hres,_,hk⟩;obtain⟨k1,rfl⟩:=qhd us hres;refine⟨rs,rfl,k1.mono us fun b hb=>?_,hk.mono fun b hb=>by cases hb⟩;rcases hb.1 with h|h|h;all_goals grind
 ·cases h
def qgN (w:World) (F:Nat→Prop):(us:List Ty)→denL us→List Value→Prop
 |[],_,vs=>vs=[]
 |u::us,x,vs=>∃(ad:Addr) (cs:List Value) (r:List Value),vs=.pointer (some ad)::r∧F ad.block∧ad.block<w.heap.size∧qem w ad cs∧Rep w F u x.1 cs∧qgN w F us x.2 r
theorem qgN.keep {w w':World}{F F':Nat→Prop}(hF:∀b,F b→b<w.heap.size→F' b∧b<w'.heap.size∧w'.heap[b]? =w.heap[b]?):(us:List Ty)→{x:denL us}→{vs:List Value}→qgN w F us x vs→qgN w' F' us x vs
 |[],_,_,h=>h
 |u::us,_,_,⟨ad,cs,r,h1,h2,h3,h4,h5,h6⟩=>by
  obtain⟨g1,g2,g3⟩:=hF _ h2 h3;exact⟨ad,cs,r,h1,g1,g2,fun j z hj=>by rw[←h4 j z hj];grind [World.cell?_of_block,qam],h5.keep hF,h6.keep hF us⟩
theorem qhc {P:Program}{w:World}{F:Nat→Prop}:(ts us:List Ty)→{x:denL ts}→{y:denL us}→{vs cs:List Value}→qct w F ts x vs→qgN w F us y cs→qac P w F (valPs ts++rdPs us) (qm5 ts us x y) (vs++cs) [] []
 |[],[],_,_,vs,cs,h1,h2=>by
  have h1:vs=[]:=h1;have h2:cs=[]:=h2;subst h1;subst h2;exact⟨rfl,rfl,rfl⟩
 |[],u::us,_,_,vs,cs,h1,⟨ad,ds,r,k1,k2,k3,k4,k5,k6⟩=>by
  have h1:vs=[]:=h1;subst h1;exact⟨ad,ds,r,k1,k2,k3,k4,k5,qhc [] us (x:=()) (vs:=[]) rfl k6⟩
 |t::ts,us,_,_,vs,cs,⟨v,r,h1,h2,h3⟩,h4=>by
  subst h1;exact⟨v,r++cs,rfl,h2,qhc ts us h3 h4⟩
def qbH (P:Program) (w:World) (F:Nat→Prop) (gh:Nat→Nat→Option Value) (ks:List (Nat×Nat×Ty)):(ms:List HM)→HMs.den ks ms→List Value→Prop
 |[],_,vs=>vs=[]
 |.v t::ms,x,vs=>∃v r,vs=v::r∧qb3 w F gh t x.1 v∧qbH P w F gh ks ms x.2 r
 |.fn ts us::ms,x,vs=>∃v r,vs=v::r∧qjC P w F ts us x.1 v∧qbH P w F gh ks ms x.2 r
 |.hfn ts us::ms,x,vs=>∃v r,vs=v::r∧qdT P w F gh ks ts us x.1 v∧qbH P w F gh ks ms x.2 r
 |.ls::ms,x,vs=>∃v r,vs=v::r∧(∃v1 v2,qdT P w F gh ks _ _ x.1.1 v1∧qdT P w F gh ks _ _ x.1.2 v2∧v=.agg #[v1,v2])∧qbH P w F gh ks ms x.2 r
 |.ifc t k sz::ms,x,vs=>∃v r,vs=v::r∧(∃v',v=.iface t v'∧qe2 gh k sz x.1 v')∧qbH P w F gh ks ms x.2 r
theorem qbH.keep {P:Program}{w w':World}{F F':Nat→Prop}{gh gh':Nat→Nat→Option Value}(hF:∀b,F b→b<w.heap.size→F' b∧b<w'.heap.size∧w'.heap[b]? =w.heap[b]?) (hg:qaJ gh gh') {ks:List (Nat×Nat×Ty)}:(ms:List HM)→{x:HMs.den ks ms}→{vs:List Value}→
  qbH P w F gh ks ms x vs→qbH P w' F' gh' ks ms x vs
 |[],_,_,h=>h
 |.v _::ms,_,_,⟨v,r,h1,h2,h3⟩=>⟨v,r,h1,h2.keep hF hg,h3.keep hF hg ms⟩
 |.fn _ _::ms,_,_,⟨v,r,h1,h2,h3⟩=>⟨v,r,h1,h2.keep hF,h3.keep hF hg ms⟩
 |.hfn _ _::ms,_,_,⟨v,r,h1,h2,h3⟩=>⟨v,r,h1,h2.keep hF hg,h3.keep hF hg ms⟩
 |.ls::ms,_,_,⟨v,r,h1,⟨v1,v2,h2,h4,h5⟩,h3⟩=>⟨v,r,h1,⟨v1,v2,h2.keep hF hg,h4.keep hF hg,h5⟩,h3.keep hF hg ms⟩
 |.ifc _ _ _::ms,_,_,⟨v,r,h1,⟨v',h2,h4⟩,h3⟩=>⟨v,r,h1,⟨v',h2,qe2.mono hg h4⟩,h3.keep hF hg ms⟩
def qaX.okT (P:Program) (T:qo5) (f:Nat) (C:qaX):Prop:=
 (∀as w,(callFunc f as).run P w=.ok (.enter f as) w)∧
 ∀(w:World) (F:Nat→Prop) (gh:Nat→Nat→Option Value) (p:hden C.ks) (bs:List Nat) (x:HMs.den C.ks C.ps) (p':hden C.ks) (y:denL C.rs) (as:List Value),qcN T w F→(C.ks.map (·.1)).Nodup→qL w F gh (qR C.ks p) bs→(∀b∈bs,¬F b∧b<w.heap.size)→bs.Nodup→qbH P w F gh C.ks C.ps x as→C.sem p x=some (p',y)→
  Calls P f as.toArray w (qmY w F gh C.ks bs C.rs p' y)
def qfN (E:Env) (P:Program):Prop:=∀f C,E.hfn f=some C→C.okT P E.tabs f
theorem qck:(ks:List (Nat×Nat×Ty))→(p:hden ks)→(qR ks p).map (·.k)=ks.map (·.1)
 |[],_=>rfl
 |_::ks,p=>congrArg (_:: ·) (qck ks p.2)
theorem qml {P:Program}{w:World}{F:Nat→Prop}{gh:Nat→Nat→Option Value}{ks:List (Nat×Nat×Ty)}:(ts:List Ty)→{x:denL ts}→{vs:List Value}→qba w F gh ts x vs→qbH P w F gh ks (valH ts) (qnK ks ts x) vs
 |[],_,_,h=>h
 |_::ts,_,_,⟨v,r,h1,h2,h3⟩=>⟨v,r,h1,h2,qml ts h3⟩
theorem qmb {P:Program}{w:World}{F:Nat→Prop}{gh:Nat→Nat→Option Value}{ks:List (Nat×Nat×Ty)}:(ts:List Ty)→{x:HMs.den ks (valH ts)}→{vs:List Value}→qbH P w F gh ks (valH ts) x vs→qba w F gh ts (ofHs ks ts x) vs
 |[],_,_,h=>h
 |_::ts,_,_,⟨v,r,h1,h2,h3⟩=>⟨v,r,h1,h2,qmb ts h3⟩
theorem qqj {w:World}{F:Nat→Prop}{gh:Nat→Nat→Option Value}:(ts us:List Ty)→{x:denL ts}→{y:denL us}→{vs cs:List Value}→qba w F gh ts x vs→qba w F gh us y cs→qba w F gh (appL ts us) (appD ts us x y) (vs++cs)
 |[],us,_,_,vs,cs,h1,h2=>by
  have h1:vs=[]:=h1;subst h1;exact h2
 |t::ts,us,_,_,vs,cs,⟨v,r,h1,h2,h3⟩,h4=>by
  subst h1;exact⟨v,r++cs,rfl,h2,qqj ts us h3 h4⟩
theorem qkt {w:World}{F:Nat→Prop}{gh:Nat→Nat→Option Value}{ps:List qQ}{nb:List Nat}(hn:(ps.map (·.k)).Nodup) (hh:qL w F gh ps nb):(us cs:List Ty)→{y:denL cs}→{r:denL us×List Bool}→{vs:List Value}→qnk ps us cs y=some r→qb9 r.2→qba w F gh cs y vs→
  qgN w (fun b=>F b∨b∈nb) us r.1 vs
 |[],[],y,r,vs,h,_,hv=>hv
 |u::us,.ptr k sz::cs,y,r,vs,h,hc,⟨v,rs,h1,h2,h3⟩=>by
  unfold qnk at h;obtain⟨q,hq,rfl⟩:=zao.1 h;have hs:=hc _ zar;rw[qaI]at hs;obtain⟨z,hz⟩:=zaE.1 hs;obtain⟨⟨v',hv',hp⟩,_,hna⟩:=h2;have hvc:v.cells.toList=[v]:=by rw[qaN (hna rfl)]
  rw[hvc]at hv';injection hv' with hv' _;subst hv';obtain⟨ad,ds,k1,k2,k3,k4,k5⟩:=qvH hn hh hp hz;have k5:Rep w (fun b=>F b∨b∈nb) u (qy (hvp ps u k sz y.1) u.dflt) ds:=by grind [qbh]
  exact⟨ad,ds,rs,by rw[h1,k1],.inr k2,k3,k4,k5,qkt hn hh us cs hq (fun b hb=>hc b (zaj _ hb)) h3⟩
 |[],_::_,_,_,_,h,_,_=>by cases h
 |_::_,[],_,_,_,h,_,_=>by cases h
 |_::_,.int _::_,_,_,_,h,_,_=>by cases h
 |_::_,.bool::_,_,_,_,h,_,_=>by cases h
 |_::_,.str::_,_,_,_,h,_,_=>by cases h
 |_::_,.unit::_,_,_,_,h,_,_=>by cases h
 |_::_,.pair _ _::_,_,_,_,h,_,_=>by cases h
 |_::_,.slice _::_,_,_,_,h,_,_=>by cases h
 |_::_,.arr _ _::_,_,_,_,h,_,_=>by cases h
 |_::_,.err::_,_,_,_,h,_,_=>by cases h
 |_::_,.opt _::_,_,_,_,h,_,_=>by cases h
 |_::_,.map _ _::_,_,_,_,h,_,_=>by cases h
 |_::_,.sl _ _::_,_,_,_,h,_,_=>by cases h
theorem qq4 {E:Env}{P:Program}(hF:qdr E P) {w:World}{F:Nat→Prop}{gh:Nat→Nat→Option Value}(hT:qcN E.tabs w F) {ps:List qQ}{nb:List Nat}(hn:(ps.map (·.k)).Nodup) (hh:qL w F gh ps nb) {ts us:List Ty}{f:Nat}{cs:List Ty}{y:denL cs}{r:(denL ts→Option (denL us))×List Bool}{vs:List Value}
  (h:qsH E ps ts us f cs y=some r) (hv:qba w F gh cs y vs) (hc:qb9 r.2):qjC P w (fun b=>F b∨b∈nb) ts us r.1 (.func (.func f) #[] vs.toArray):=by
 unfold qsH at h;split at h;case h_2=>cases h
 rename_i C hC;split at h;case h_2=>cases h
 rename_i ts' rds _;have hok:=hF f C hC;obtain⟨qs,rs,sem⟩:=C;split at h;case isFalse=>cases h
 rename_i hty;obtain⟨e1,e2⟩:=hty;simp only at e1 e2;subst e1;subst e2;obtain⟨q,hq,rfl⟩:=zao.1 h;have qoM:=qkt hn hh rds cs hq hc hv;refine⟨f,vs.toArray,rfl,hok.1,fun w' F' x y' as hkp hvals hy=>?_⟩;simp only[qeE,zao]at hy;obtain⟨z,hz,rfl⟩:=hy;have hpar:=qhc (P:=P) ts rds hvals (qoM.keep hkp rds);have:=hok.2 w' F' (qm5 ts rds x q.1) z (as++vs) [] [] (hT.keep fun b hb hl=>hkp b (.inl hb) hl) hpar (fun b hb=>by cases hb) zaA hz;have e:(as++vs).toArray=as.toArray++vs.toArray:=by simp
 rw[e]at this;refine Calls.mono this ?_;rintro e w'' ⟨v',rfl,rs,bs,js,rfl,_,_,hres,_,hk⟩;obtain⟨m1,rfl⟩:=qhd us hres;refine⟨rs,rfl,m1.mono us fun b hb=>?_,hk.mono fun b hb=>by cases hb⟩;rcases hb.1 with h|h|h;all_goals grind
theorem qac.mono {P:Program}{w:World}{F F':Nat→Prop}(hF:∀b,F b→F' b):(ps:List PM)→{x:PMs.den ps}→{vs:List Value}→{g i:List Nat}→qac P w F ps x vs g i→qac P w F' ps x vs g i
 |[],_,_,_,_,h=>h
 |.val t::ps,_,_,_,_,⟨v,r,h1,h2,h3⟩=>⟨v,r,h1,h2.mono fun b hb _=>hF b hb,h3.mono hF ps⟩
 |.own et e::ps,_,_,_,_,⟨v,r,g1,g2,h1,h2,h3,h4⟩=>⟨v,r,g1,g2,h1,h2,h3.keep (fun b hb hlt=>⟨hF b hb,hlt,rfl⟩) (fun _ _ _=>rfl),h4.mono hF ps⟩
 |.io t::ps,_,_,_,_,⟨b,r,i2,cs,te,h1,h2,h3,h4,h5⟩=>⟨b,r,i2,cs,te,h1,h2,h3,h4.keep fun b hb hlt=>⟨hF b hb,hlt,rfl⟩,h5.mono hF ps⟩
 |.iob b::ps,_,_,_,_,⟨bk,r,g1,g2,i2,cs,te,h1,h2,h3,h4,h5,h6⟩=>⟨bk,r,g1,g2,i2,cs,te,h1,h2,h3,h4,h5.keep (fun b hb hlt=>⟨hF b hb,hlt,rfl⟩) (fun _ _ _=>rfl),h6.mono hF ps⟩
 |.ior et e::ps,_,_,_,_,⟨v,r,i1,i2,h1,h2,h3,h4⟩=>⟨v,r,i1,i2,h1,h2,h3.keep (fun b hb hlt=>⟨hF b hb,hlt,rfl⟩) (fun _ _ _=>rfl),h4.mono hF ps⟩
 |.fn a b::ps,_,_,_,_,⟨v,r,h1,h2,h3⟩=>⟨v,r,h1,h2.keep fun b hb hlt=>⟨hF b hb,hlt,rfl⟩,h3.mono hF ps⟩
 |.nil _ _::ps,_,_,_,_,⟨r,h1,h2⟩=>⟨r,h1,h2.mono hF ps⟩
 |.rd _::ps,_,_,_,_,⟨ad,cs,r,h1,h2,h3,h4,h5,h6⟩=>⟨ad,cs,r,h1,hF _ h2,h3,h4,h5.keep fun b hb hlt=>⟨hF b hb,hlt,rfl⟩,h6.mono hF ps⟩
theorem qaB.turn {w:World}{F F':Nat→Prop}:(rs:List RM)→{y:RMs.den rs}→{vs:List Value}→{bs:List Nat}→(RMs.flat rs=true∨∀b,F b→b<w.heap.size→F' b)→qaB w F (qcU rs y) vs bs→qaB w F' (qcU rs y) vs bs
 |[],_,_,_,_,h=>h
 |.val t::rs,_,_,_,hF,⟨v,r,b1,b2,h1,h2,h3,h4⟩=>⟨v,r,b1,b2,h1,h2,⟨h3.1,by
   rcases hF with hF|hF
   ·simp only[RMs.flat,zad]at hF;exact h3.2.flat hF.1
   ·exact h3.2.mono hF⟩,h4.turn rs (by
   grind [RMs.flat])⟩
 |.nz e::rs,_,_,_,hF,⟨v,r,b1,b2,h1,h2,h3,h4⟩=>by
  rcases hF with hF|hF
  ·cases hF
  ·exact⟨v,r,b1,b2,h1,h2,⟨h3.1,h3.2.1.mono hF,h3.2.2⟩,h4.turn rs (.inr hF)⟩
 |.own et e::rs,_,_,_,hF,⟨v,r,b1,b2,h1,h2,h3,h4⟩=>⟨v,r,b1,b2,h1,h2,by
   rcases hF with hF|hF
   ·simp only[RMs.flat,zad]at hF;obtain⟨cells,k1,k2,k3⟩:=h3;exact⟨cells,k1,k2,fun i x hi=>(k3 i x hi).flat hF.1⟩
   ·exact qO.keep (fun b hb hlt=>⟨hF b hb hlt,hlt,rfl⟩) (fun _ _ _=>rfl) h3,h4.turn rs (by
   grind [RMs.flat])⟩
theorem qaz.flat {w:World}{F F':Nat→Prop}:(b:qcb)→{y:b.den}→{cs:List Value}→{bs:List Nat}→b.flat=true→qaz w F (b.un y) cs bs→qaz w F' (b.un y) cs bs
 |.val t,_,_,_,hf,h=>⟨h.1,h.2.flat hf⟩
 |.own et e,_,_,_,hf,⟨v,h1,cells,k1,k2,k3⟩=>⟨v,h1,cells,k1,k2,fun i x hi=>(k3 i x hi).flat hf⟩
 |.pair a b,_,_,_,hf,⟨c1,c2,b1,b2,h1,h2,h3,h4⟩=>by
  simp only[qcb.flat,zad]at hf;exact⟨c1,c2,b1,b2,h1,h2,h3.flat a hf.1,h4.flat b hf.2⟩
 |.hole _,_,_,_,_,h=>h
theorem qcM.turn {w:World}{F F':Nat→Prop}:(ps:List PM)→{y:PMs.ioDen ps}→{as:List Value}→{i js:List Nat}→(PMs.ye ps=true∨∀b,F b→b<w.heap.size→F' b)→qcM w F ps y as i js→qcM w F' ps y as i js
 |[],_,_,_,_,_,h=>h
 |.iob b::ps,_,_,_,_,hF,⟨bk,i2,j1,j2,cs,te,h1,h2,h3,h4,h5⟩=>⟨bk,i2,j1,j2,cs,te,h1,h2,h3,by
   rcases hF with hF|hF
   ·simp only[PMs.ye,zad]at hF;exact h4.flat b hF.1
   ·exact h4.keep (fun b hb hlt=>⟨hF b hb hlt,hlt,rfl⟩) (fun _ _ _=>rfl),h5.turn ps (by
   grind [PMs.ye])⟩
 |.ior et e::ps,_,_,_,_,hF,⟨i1,i2,h1,h2,h3⟩=>⟨i1,i2,h1,by
   rcases hF with hF|hF
   ·simp only[PMs.ye,zad]at hF;obtain⟨cells,k1,k2,k3⟩:=h2;exact⟨cells,k1,k2,fun i x hi=>(k3 i x hi).flat hF.1⟩
   grind [qO.keep],h3.turn ps (by
   grind [PMs.ye])⟩
 |.io t::ps,_,_,_,_,hF,⟨b,i2,cs,te,h1,h2,h3,h4⟩=>⟨b,i2,cs,te,h1,h2,by
   rcases hF with hF|hF
   ·simp only[PMs.ye,zad]at hF;exact h3.flat hF.1
   ·exact h3.keep fun b hb hlt=>⟨hF b hb hlt,hlt,rfl⟩,h4.turn ps (by
   grind [PMs.ye])⟩
 |.val _::ps,_,_,_,_,hF,h=>qcM.turn ps hF h
 |.own _ _::ps,_,_,_,_,hF,h=>qcM.turn ps hF h
 |.fn _ _::ps,_,_,_,_,hF,h=>qcM.turn ps hF h
 |.nil _ _::ps,_,_,_,_,hF,h=>qcM.turn ps hF h
 |.rd _::ps,_,_,_,_,hF,h=>qcM.turn ps hF h
section
variable {C:Ctx}{E:Env}{σ:St}{tm:Array Value}{a:Act}{w w':World}{own:Own}{o:Oper}{p:qdU} [Tabbed E C]
def qcj (σ:St) (tm:Array Value) (own:Own):List PM→List Value→List Nat→List Nat→List Nat→Prop
 |[],_,ss,i,inn=>ss=[]∧i=[]∧inn=[]
 |.io _::ps,as,ss,i,inn=>∃s r b i2 n1 n2,ss=s::r∧i=b::i2∧inn=n1++n2∧own s=b::n1∧tm.getD s undef=ptr b 0∧s<σ.length∧qcj σ tm own ps as.tail r i2 n2
 |.iob _::ps,as,ss,i,inn=>∃s r b i2 n1 n2 m,ss=s::r∧i=b::i2∧inn=n1++n2∧own s=b::m∧tm.getD s undef=ptr b 0∧s<σ.length∧qcj σ tm own ps as.tail r i2 n2
 |.ior _ _::ps,as,ss,i,inn=>∃s r i1 i2,ss=s::r∧i=i1++i2∧own s=i1∧tm.getD s undef=as.headD undef∧i1=(as.headD undef).ownBlock.toList∧s<σ.length∧qcj σ tm own ps as.tail r i2 inn
 |.val _::ps,as,ss,i,inn=>qcj σ tm own ps as.tail ss i inn
 |.own _ _::ps,as,ss,i,inn=>qcj σ tm own ps as.tail ss i inn
 |.fn _ _::ps,as,ss,i,inn=>qcj σ tm own ps as.tail ss i inn
 |.nil _ _::ps,as,ss,i,inn=>qcj σ tm own ps as.tail ss i inn
 |.rd _::ps,as,ss,i,inn=>qcj σ tm own ps as.tail ss i inn
theorem qju {σ:St}{tm:Array Value}{own:Own}:(ts:List Ty)→{as:List Value}→{ss i inn:List Nat}→qcj σ tm own (valPs ts) as ss i inn→ss=[]∧i=[]∧inn=[]
 |[],_,_,_,_,h=>h
 |_::r,_,_,_,_,h=>qju r h
theorem qj7 (h:qK C σ tm w own) {s:Nat}{S T A B L:List Nat}(hT:T.Perm (s::S)) (hL:L.Perm (A++B)) (hA:A.Nodup) (hAs:∀b∈A,b∈own s) (hB:∀b∈B,∃s'∈S,b∈own s') (hBn:S.Nodup→B.Nodup):(∀b∈L,∃s'∈T,b∈own s')∧(T.Nodup→L.Nodup):=by
 refine⟨fun b hb=>?_,fun hn=>?_⟩
 ·grind
 ·have hn:=zaJ.1 (hT.nodup_iff.1 hn);rw[hL.nodup_iff];refine zai.2 ⟨hA,hBn hn.2,fun b hb b' hb' e=>?_⟩;subst e;obtain⟨s',h1,h2⟩:=hB b hb';have:=h.apart s s' b (hAs b hb) h2;grind
theorem qg0 {s:Nat}(hne:(qj σ s).2≠ .undef):s<σ.length:=by
 grind [qj]
theorem qoO {w:World}{ad:Addr}{cs:List Value}{off n:Nat}(h:qem w ad cs):qem w (ad.add off) ((cs.drop off).take n):=by
 intro j z hj;rw[qbi];refine h _ _ ?_;grind
theorem qsZ (h:qK C σ a.tmps w own) {t:Ty}{o1:Op1}{v:Value}{r:t.den×List Nat×List Bool}(ho:qaC (sit C σ a.tmps w own) o1 v) (hr:(argV E t o1).run (qj σ)=some r) (hc:qb9 r.2.2):q9 w (FW (sit C σ a.tmps w own) r.2.1) t r.1 v:=by
 unfold argV at hr;split at hr
 ·rename_i t' y _ ha;split at hr;case isFalse=>cases hr
  rename_i hag;obtain⟨ps,h1,hr2⟩:=Q.ya hr;clear hr;have:=Q.yb hr2;subst this;obtain⟨hs,hn,hh,hnp⟩:=qb7 h h1;have hsome:=hc _ (zah.2 rfl);rw[qaI]at hsome;obtain⟨z,hz⟩:=zaE.1 hsome;have hv:=ho.unowned (by rw[ha];rfl);rw[ha]at hv;have hrep:=qox hn hh hv.2 hag hz;show q9 w _ t (qy (qfS ps t t' y) t.dflt) v;rw[hz,qbh];exact hrep.mono fun b hb _=>hb.imp id fun hb=>⟨E.hs,zah.2 rfl,hb,hnp.1 b⟩
 ·obtain⟨x,h1,hr2⟩:=Q.ya hr;grind [Q.yb,qcm]
theorem qtw (hFn:qdr E C.P) (h:qK C σ a.tmps w own) {ts us:List Ty}{o1:Op1}{v:Value}{r:(denL ts→Option (denL us))×List Nat×List Bool}(ho:qaC (sit C σ a.tmps w own) o1 v) (hr:(quW E ts us o1.a).run (qj σ)=some r) (hc:qb9 r.2.2):qjC C.P w (FW (sit C σ a.tmps w own) r.2.1) ts us r.1 v:=by
 unfold quW at hr;split at hr
 ·rename_i f cs y _ ha;obtain⟨ps,h1,hr2⟩:=Q.ya hr;clear hr;split at hr2;case h_2=>cases hr2
  rename_i q hq;have:=Q.yb hr2;subst this;obtain⟨hs,hn,hh,hnp⟩:=qb7 h h1;have hun:=ho.unowned (by rw[ha];rfl);rw[ha]at hun;obtain⟨_,vs,hv,hvr⟩:=hun;have:=qq4 hFn h.tabsE hn hh hq hvr hc;rw[hv];exact this.keep fun b hb hl=>⟨hb.elim .inl fun hb=>.inr ⟨E.hs,zah.2 rfl,hb,hnp.1 b⟩,hl,rfl⟩
 ·split at hr;case h_2=>cases hr
  rename_i φ hφ;have:=Q.yb hr;subst this;have hun:o1.a.unowned=true:=by
   unfold quH at hφ;split at hφ
   ·rename_i hq;rw[hq];rfl
   ·rename_i hq;rw[hq];rfl
   ·cases hφ
  have hfr:=qnq hFn (w:=w) (F:=C.free w own) (X:=sit C σ a.tmps w own) ⟨rfl,rfl,rfl⟩ h.tabsE hφ (ho.unowned hun);exact hfr.keep fun b hb hlt=>⟨.inl hb,hlt,rfl⟩
theorem qdi (hFn:qdr E C.P) (h:qK C σ a.tmps w own) (hpt:qpW (sit C σ a.tmps w own)):(ps:List PM)→{os:List Op1}→{vs:List Value}→{A:qrB ps}→qij (sit C σ a.tmps w own) os vs→(∀o1∈os,∀s,o1.s=some s→o1.a≠ .undef→s<σ.length)→(qao E ps os).run (qj σ)=some A→qb9 A.chk→
  ∃g i inn,qac C.P w (fun b=>FW (sit C σ a.tmps w own) A.ow b∨b∈inn) ps A.x vs g i∧((∀b∈g++(i++inn),∃s∈A.gone++A.ios,b∈own s)∧((A.gone++A.ios).Nodup→(g++(i++inn)).Nodup))∧(∀s∈A.gone,s<σ.length)∧qcj σ a.tmps own ps vs A.ios i inn
 |[],[],[],A,_,_,he,hck=>by
  have:=Q.yb he;subst this;exact⟨[],[],[],⟨rfl,rfl,rfl⟩,⟨fun b hb=>(by cases hb),fun _=>zaA⟩,fun s hs=>(by cases hs),rfl,rfl,rfl⟩
 |.val t::ps,o1::os,v::vs,A,⟨ho,hos⟩,hlt,he,hck=>by
  obtain⟨x,h1,he⟩:=Q.ya he;obtain⟨r,h2,he⟩:=Q.ya he;have:=Q.yb he;subst this;obtain⟨g,i,inn,k1,k2,k4,k5⟩:=qdi hFn h hpt ps hos (fun o2 ho2=>hlt o2 (zaj _ ho2)) h2 (fun b hb=>hck b (zaa _ hb));refine⟨g,i,inn,⟨v,vs,rfl,(qsZ h ho h1 fun b hb=>hck b (zab _ hb)).mono fun b hb _=>.inl (FW.mono (fun s hs=>zab _ hs) hb),k1.mono (fun b hb=>?_) ps⟩,k2,k4,k5⟩;grind [FW.mono]
 |.own et e::ps,o1::os,v::vs,A,⟨ho,hos⟩,hlt,he,hck=>by
  have hrec:∀ {r:qrB ps},(qao E ps os).run (qj σ)=some r→_:=fun h2=>qdi hFn h hpt ps hos (fun o2 ho2=>hlt o2 (zaj _ ho2)) h2;have fin:∀(s:Nat) (et':Nat) (e':Ty) (xs':List e'.den) (xs:List e.den) (r:qrB ps),s<σ.length→et=et'→Ty.as (t:= .slice e') (.slice e) xs'=some xs→qO w (C.free w own) et' e' xs' v (own s)→(qao E ps os).run (qj σ)=some r→A=⟨(xs,r.x),r.ow,s::r.gone,r.ios,r.chk⟩→
    ∃g i inn,qac C.P w (fun b=>FW (sit C σ a.tmps w own) A.ow b∨b∈inn) (.own et e::ps) A.x (v::vs) g i∧((∀b∈g++(i++inn),∃s∈A.gone++A.ios,b∈own s)∧((A.gone++A.ios).Nodup→(g++(i++inn)).Nodup))∧(∀s∈A.gone,s<σ.length)∧qcj σ a.tmps own (.own et e::ps) (v::vs) A.ios i inn:=by
   intro s et' e' xs' xs r hs hty has hown hr hA;subst hA;subst hty;obtain⟨e1,e2⟩:=Ty.yd has;injection e1 with e1;subst e1;have e2:xs'=xs:=e2;subst e2;obtain⟨g,i,inn,k1,k2,k4,k5⟩:=hrec hr hck;refine⟨own s++g,i,inn,⟨v,vs,own s,g,rfl,rfl,hown.keep (fun b hb hlt=>⟨.inl (.inl hb),hlt,rfl⟩) (fun _ _ _=>rfl),k1⟩,qj7 h (List.Perm.refl _) (by grind) (h.nodup s) (fun b hb=>hb) k2.1 k2.2,fun s' hs'=>?_,k5⟩;grind
  obtain⟨os1,ov,oa⟩:=o1;cases oa with
  |own et' e' xs'=>
   cases os1 with
   |some s=>
    simp only[qao]at he;split at he
    ·rename_i hty;split at he
     ·rename_i xs has;obtain⟨r,h2,he⟩:=Q.ya he;exact fin s et' e' xs' xs r (hlt _ zar s rfl (by simp)) hty has ho.2.2 h2 (Q.yb he).symm
     ·cases he
    ·cases he
   |none=>
    simp only[qao]at he;split at he
    ·rename_i hty;split at he
     ·rename_i xs has;obtain⟨r,h2,he⟩:=Q.ya he;have:=Q.yb he;subst this;subst hty;obtain⟨e1,e2⟩:=Ty.yd has;injection e1 with e1;subst e1;have e2:xs'=xs:=e2;subst e2;obtain⟨g,i,inn,k1,k2,k4,k5⟩:=hrec h2 hck;have ho:qO w (C.free w own) et e' xs' v []:=ho;exact⟨g,i,inn,⟨v,vs,[],g,rfl,rfl,ho.keep (fun b hb hlt=>⟨.inl (.inl hb),hlt,rfl⟩) (fun _ _ _=>rfl),k1⟩,k2,k4,k5⟩
     ·cases he
    ·cases he
  |ref s v0=>
   cases os1;all_goals
    simp only[qao,Q.yc]at he
    split at he
    ·rename_i hv
     have hu:a.tmps.getD s undef=v:=(ho.unowned rfl).2 hv
     have hat:=h.at_ s
     rw[hu]at hat
     split at he
     ·rename_i et' e' xs' h3
      rw[h3]at hat
      split at he
      ·rename_i hty
       split at he
       ·rename_i xs has
        obtain⟨r,h2,he⟩:=Q.ya he
        exact fin s et' e' xs' xs r (qg0 (by rw[h3];simp)) hty has hat h2 (Q.yb he).symm
       ·cases he
      ·cases he
     ·cases he
    ·cases he
  |_=>cases os1<;>simp only[qao]at he<;>cases he
 |.io t::ps,o1::os,v::vs,A,⟨ho,hos⟩,hlt,he,hck=>by
  have hrec:∀ {r:qrB ps},(qao E ps os).run (qj σ)=some r→_:=fun h2=>qdi hFn h hpt ps hos (fun o2 ho2=>hlt o2 (zaj _ ho2)) h2;have fin:∀(s:Nat) (c:BC) (x:t.den) (fl:Bool) (r:qrB ps),s<σ.length→(∃(b:Nat) (cs:List Value) (bs':List Nat) (te:Nat),a.tmps.getD s undef=ptr b 0∧w.heap[b]? =some (.cells cs.toArray te (0,0))∧qaz w (C.free w own) c cs bs'∧own s=b::bs')→a.tmps.getD s undef=v→(if c.size=t.size then c.get 0 t else none)=some (x,fl)→(qao E ps os).run (qj σ)=some r→A=⟨(x,r.x),r.ow,r.gone,s::r.ios,r.chk⟩→
    ∃g i inn,qac C.P w (fun b=>FW (sit C σ a.tmps w own) A.ow b∨b∈inn) (.io t::ps) A.x (v::vs) g i∧((∀b∈g++(i++inn),∃s∈A.gone++A.ios,b∈own s)∧((A.gone++A.ios).Nodup→(g++(i++inn)).Nodup))∧(∀s∈A.gone,s<σ.length)∧qcj σ a.tmps own (.io t::ps) (v::vs) A.ios i inn:=by
   intro s c x fl r hslt hbx htm hget hr hA;subst hA;obtain⟨b,cs,bs',te,b1,b2,b3,b4⟩:=hbx;obtain⟨g,i,inn,k1,k2,k4,k5⟩:=hrec hr hck;split at hget;case isFalse=>cases hget
   rename_i hsz;obtain⟨q1,q2,_⟩:=b3.get hget;have hcl:=b3.length;have hall:(cs.drop 0).take t.size=cs:=by grind
   rw[hall]at q2;refine⟨g,b::i,bs'++inn,⟨b,vs,i,cs,te,by grind,rfl,b2,q2.keep fun b hb hlt=>⟨?_,hlt,rfl⟩,k1.mono (fun b hb=>?_) ps⟩,qj7 h List.perm_middle (A:=b::bs') (B:=g++(i++inn)) (List.perm_iff_count.2 fun a=>by grind) (by rw[←b4];exact h.nodup s) (fun k hk=>by grind) k2.1 k2.2,k4,s,r.ios,b,i,bs',inn,rfl,rfl,rfl,b4,b1,hslt,k5⟩
   ·rcases hb with hb|hb
    ·exact .inl (.inl hb)
    grind
   grind
  obtain⟨os1,ov,oa⟩:=o1;cases oa with
  |box c=>
   cases os1 with
   |some s=>
    simp only[qao]at he;split at he
    ·rename_i x fl hget;obtain⟨r,h2,he⟩:=Q.ya he;have hs:s<σ.length:=hlt _ zar s rfl (by simp);obtain⟨g1,g2,b,cs,bs',te,g3,g4,g5,g6⟩:=ho;exact fin s c x fl r hs ⟨b,cs,bs',te,g1.symm.trans g3,g4,g5,g6⟩ g1.symm hget h2 (Q.yb he).symm
    ·cases he
   |none=>simp only[qao]at he;cases he
  |pip s off=>
   cases off with
   |succ n=>cases os1<;>simp only[qao]at he<;>cases he
   |zero=>
    cases os1;all_goals
     simp only[qao,Q.yc]at he
     obtain⟨_,b,hu2,hu⟩:=ho.unowned rfl
     have hu2:=hpt s b hu2
     split at he
     ·rename_i c hc
      split at he
      ·rename_i x fl hget
       obtain⟨r,h2,he⟩:=Q.ya he
       exact fin s c x fl r (qg0 (by rw[hc];simp)) (h.box hc) (by rw[hu];exact hu2) hget h2 (Q.yb he).symm
      ·cases he
     ·cases he
  |pbox s v0 off=>
   cases off with
   |succ n=>cases os1<;>simp only[qao]at he<;>cases he
   |zero=>
    cases os1;all_goals
     simp only[qao,Q.yc]at he
     split at he
     ·rename_i hv
      obtain⟨b,hu,hu2⟩:=(ho.unowned rfl).2 hv
      split at he
      ·rename_i c hc
       split at he
       ·rename_i x fl hget
        obtain⟨r,h2,he⟩:=Q.ya he
        exact fin s c x fl r (qg0 (by rw[hc];simp)) (h.box hc) (by rw[hu2];exact hu) hget h2 (Q.yb he).symm
       ·cases he
      ·cases he
     ·cases he
  |_=>cases os1<;>simp only[qao]at he<;>cases he
 |.iob b::ps,o1::os,v::vs,A,⟨ho,hos⟩,hlt,he,hck=>by
  have hrec:∀ {r:qrB ps},(qao E ps os).run (qj σ)=some r→_:=fun h2=>qdi hFn h hpt ps hos (fun o2 ho2=>hlt o2 (zaj _ ho2)) h2;have fin:∀(s:Nat) (c:BC) (x:b.den) (r:qrB ps),s<σ.length→(∃(b:Nat) (cs:List Value) (bs':List Nat) (te:Nat),a.tmps.getD s undef=ptr b 0∧w.heap[b]? =some (.cells cs.toArray te (0,0))∧qaz w (C.free w own) c cs bs'∧own s=b::bs')→a.tmps.getD s undef=v→c.fit b=some x→(qao E ps os).run (qj σ)=some r→A=⟨(x,r.x),r.ow,r.gone,s::r.ios,r.chk⟩→
    ∃g i inn,qac C.P w (fun b=>FW (sit C σ a.tmps w own) A.ow b∨b∈inn) (.iob b::ps) A.x (v::vs) g i∧((∀b∈g++(i++inn),∃s∈A.gone++A.ios,b∈own s)∧((A.gone++A.ios).Nodup→(g++(i++inn)).Nodup))∧(∀s∈A.gone,s<σ.length)∧qcj σ a.tmps own (.iob b::ps) (v::vs) A.ios i inn:=by
   intro s c x r hslt hbx htm hget hr hA;subst hA;obtain⟨bk,cs,bs',te,b1,b2,b3,b4⟩:=hbx;obtain⟨g,i,inn,k1,k2,k4,k5⟩:=hrec hr hck;have hnd:=h.nodup s;rw[b4]at hnd;have hnd:=zaJ.1 hnd;obtain⟨g1,q1,q2⟩:=b3.fit b hnd.2 hget;have hp:bs'.Perm (g1++bs'.filter (fun k=>decide (k∉g1))):=qty q1 hnd.2;refine⟨g1++g,bk::i,bs'.filter (fun k=>decide (k∉g1))++inn,⟨bk,vs,g1,g,i,cs,te,by grind,rfl,rfl,b2,q2 _ (fun k hk=>.inl (.inl hk)) (fun k hk hkn=>.inr (zab _ (List.mem_filter.2 ⟨hk,by simpa using hkn⟩))),k1.mono (fun b hb=>hb.imp id fun hb=>zaa _ hb) ps⟩,qj7 h List.perm_middle (A:=bk::bs') (B:=g++(i++inn)) (List.perm_iff_count.2 fun a=>?_) (by omega) (fun k hk=>by grind) k2.1 k2.2,k4,s,r.ios,bk,i,_,inn,bs',rfl,rfl,rfl,b4,b1,hslt,k5⟩;have:=List.perm_iff_count.1 hp a;simp only[List.count_append,List.count_cons]at this⊢
   omega
  obtain⟨os1,ov,oa⟩:=o1;cases oa with
  |box c=>
   cases os1 with
   |some s=>
    simp only[qao]at he;split at he
    ·rename_i x hget;obtain⟨r,h2,he⟩:=Q.ya he;have hs:s<σ.length:=hlt _ zar s rfl (by simp);obtain⟨g1,g2,b,cs,bs',te,g3,g4,g5,g6⟩:=ho;exact fin s c x r hs ⟨b,cs,bs',te,g1.symm.trans g3,g4,g5,g6⟩ g1.symm hget h2 (Q.yb he).symm
    ·cases he
   |none=>simp only[qao]at he;cases he
  |pip s off=>
   cases off with
   |succ n=>cases os1<;>simp only[qao]at he<;>cases he
   |zero=>
    cases os1;all_goals
     simp only[qao,Q.yc]at he
     obtain⟨_,b,hu2,hu⟩:=ho.unowned rfl
     have hu2:=hpt s b hu2
     split at he
     ·rename_i c hc
      split at he
      ·rename_i x hget
       obtain⟨r,h2,he⟩:=Q.ya he
       exact fin s c x r (qg0 (by rw[hc];simp)) (h.box hc) (by rw[hu];exact hu2) hget h2 (Q.yb he).symm
      ·cases he
     ·cases he
  |pbox s v0 off=>
   cases off with
   |succ n=>cases os1<;>simp only[qao]at he<;>cases he
   |zero=>
    cases os1;all_goals
     simp only[qao,Q.yc]at he
     split at he
     ·rename_i hv
      obtain⟨b,hu,hu2⟩:=(ho.unowned rfl).2 hv
      split at he
      ·rename_i c hc
       split at he
       ·rename_i x hget
        obtain⟨r,h2,he⟩:=Q.ya he
        exact fin s c x r (qg0 (by rw[hc];simp)) (h.box hc) (by rw[hu2];exact hu) hget h2 (Q.yb he).symm
       ·cases he
      ·cases he
     ·cases he
  |_=>cases os1<;>simp only[qao]at he<;>cases he
 |.ior et e::ps,o1::os,v::vs,A,⟨ho,hos⟩,hlt,he,hck=>by
  have hrec:∀ {r:qrB ps},(qao E ps os).run (qj σ)=some r→_:=fun h2=>qdi hFn h hpt ps hos (fun o2 ho2=>hlt o2 (zaj _ ho2)) h2;have fin:∀(s:Nat) (et':Nat) (e':Ty) (xs':List e'.den) (xs:List e.den) (r:qrB ps),s<σ.length→et=et'→Ty.as (t:= .slice e') (.slice e) xs'=some xs→qO w (C.free w own) et' e' xs' v (own s)→a.tmps.getD s undef=v→(qao E ps os).run (qj σ)=some r→A=⟨(xs,r.x),r.ow,r.gone,s::r.ios,r.chk⟩→
    ∃g i inn,qac C.P w (fun b=>FW (sit C σ a.tmps w own) A.ow b∨b∈inn) (.ior et e::ps) A.x (v::vs) g i∧((∀b∈g++(i++inn),∃s∈A.gone++A.ios,b∈own s)∧((A.gone++A.ios).Nodup→(g++(i++inn)).Nodup))∧(∀s∈A.gone,s<σ.length)∧qcj σ a.tmps own (.ior et e::ps) (v::vs) A.ios i inn:=by
   intro s et' e' xs' xs r hs hty has hown htv hr hA;subst hA;subst hty;obtain⟨e1,e2⟩:=Ty.yd has;injection e1 with e1;subst e1;have e2:xs'=xs:=e2;subst e2;obtain⟨g,i,inn,k1,k2,k4,k5⟩:=hrec hr hck;have hob:own s=v.ownBlock.toList:=by
    obtain⟨cells,_,hb,_⟩:=hown;exact hb
   exact⟨g,own s++i,inn,⟨v,vs,own s,i,rfl,rfl,hown.keep (fun b hb hlt=>⟨.inl (.inl hb),hlt,rfl⟩) (fun _ _ _=>rfl),k1⟩,qj7 h List.perm_middle (A:=own s) (B:=g++(i++inn)) (List.perm_iff_count.2 fun a=>by grind) (h.nodup s) (fun b hb=>hb) k2.1 k2.2,k4,s,r.ios,own s,i,rfl,rfl,rfl,htv,hob,hs,k5⟩
  obtain⟨os1,ov,oa⟩:=o1;cases oa with
  |own et' e' xs'=>
   cases os1 with
   |some s=>
    simp only[qao]at he;split at he
    ·rename_i hty;split at he
     ·rename_i xs has;obtain⟨r,h2,he⟩:=Q.ya he;exact fin s et' e' xs' xs r (hlt _ zar s rfl (by simp)) hty has ho.2.2 ho.1.symm h2 (Q.yb he).symm
     ·cases he
    ·cases he
   |none=>simp only[qao]at he;cases he
  |ref s v0=>
   cases os1;all_goals
    simp only[qao,Q.yc]at he
    split at he
    ·rename_i hv
     have hu:a.tmps.getD s undef=v:=(ho.unowned rfl).2 hv
     have hat:=h.at_ s
     rw[hu]at hat
     split at he
     ·rename_i et' e' xs' h3
      rw[h3]at hat
      split at he
      ·rename_i hty
       split at he
       ·rename_i xs has
        obtain⟨r,h2,he⟩:=Q.ya he
        exact fin s et' e' xs' xs r (qg0 (by rw[h3];simp)) hty has hat hu h2 (Q.yb he).symm
       ·cases he
      ·cases he
     ·cases he
    ·cases he
  |_=>cases os1<;>simp only[qao]at he<;>cases he
 |.nil et e::ps,o1::os,v::vs,A,⟨ho,hos⟩,hlt,he,hck=>by
  have fin:v=.slice none 0 0→∀r:qrB ps,(qao E ps os).run (qj σ)=some r→A=⟨((),r.x),r.ow,r.gone,r.ios,r.chk⟩→∃g i inn,qac C.P w (fun b=>FW (sit C σ a.tmps w own) A.ow b∨b∈inn) (.nil et e::ps) A.x (v::vs) g i∧((∀b∈g++(i++inn),∃s∈A.gone++A.ios,b∈own s)∧((A.gone++A.ios).Nodup→(g++(i++inn)).Nodup))∧(∀s∈A.gone,s<σ.length)∧qcj σ a.tmps own (.nil et e::ps) (v::vs) A.ios i inn:=by
   intro hv r hr hA;subst hA;obtain⟨g,i,inn,k1,k2,k4,k5⟩:=qdi hFn h hpt ps hos (fun o2 ho2=>hlt o2 (zaj _ ho2)) hr hck;exact⟨g,i,inn,⟨vs,by rw[hv],k1⟩,k2,k4,k5⟩
  obtain⟨os1,ov,oa⟩:=o1;simp only[qao]at he;split at he
  ·rename_i et' e';split at he;case isFalse=>cases he
   obtain⟨r,h2,he⟩:=Q.ya he;exact fin (ho.unowned rfl).2 r h2 (Q.yb he).symm
  ·rename_i et' e';split at he;case isFalse=>cases he
   obtain⟨r,h2,he⟩:=Q.ya he;have ho:qO w (C.free w own) et' e' [] v []:=ho;refine fin ?_ r h2 (Q.yb he).symm;obtain⟨cells,k1,k2,_⟩:=ho;rcases k1.2 with⟨k3,_⟩|⟨g,cap,cur,k3,_⟩
   ·exact k3
   ·rw[k3]at k2;cases k2
  ·cases he
 |.rd t::ps,o1::os,v::vs,A,⟨ho,hos⟩,hlt,he,hck=>by
  obtain⟨os1,ov,oa⟩:=o1;simp only[qao]at he;split at he;case h_2=>cases he
  rename_i t' y off;split at he;case h_2=>cases he
  rename_i x hs;obtain⟨r,h2,he⟩:=Q.ya he;have:=Q.yb he;subst this;obtain⟨g,i,inn,k1,k2,k4,k5⟩:=qdi hFn h hpt ps hos (fun o2 ho2=>hlt o2 (zaj _ ho2)) h2 hck;obtain⟨_,ad,cs,rfl,g1,g2,g3,g4⟩:=ho.unowned rfl;obtain⟨q1,q2⟩:=g4.sub hs;refine⟨g,i,inn,⟨_,(cs.drop off).take t.size,vs,rfl,?_,?_,qoO g3,q2.keep fun b hb hlt=>⟨.inl (.inl hb),hlt,rfl⟩,k1⟩,k2,k4,k5⟩
  ·rw[qam];exact .inl (.inl g1)
  ·rw[qam];exact g2
 |.fn ts us::ps,o1::os,v::vs,A,⟨ho,hos⟩,hlt,he,hck=>by
  obtain⟨φ,hφ,he⟩:=Q.ya he;obtain⟨r,h2,he⟩:=Q.ya he;have:=Q.yb he;subst this;obtain⟨g,i,inn,k1,k2,k4,k5⟩:=qdi hFn h hpt ps hos (fun o2 ho2=>hlt o2 (zaj _ ho2)) h2 (fun b hb=>hck b (zaa _ hb));have hfr:=qtw hFn h ho hφ (fun b hb=>hck b (zab _ hb));exact⟨g,i,inn,⟨v,vs,rfl,hfr.keep fun b hb hlt=>⟨.inl (FW.mono (fun s hs=>zab _ hs) hb),hlt,rfl⟩,k1.mono (fun b hb=>hb.imp (FW.mono fun s hs=>zaa _ hs) id) ps⟩,k2,k4,k5⟩
 |[],_::_,_,_,_,_,he,_=>by cases he
 |.val _::ps,[],_,_,_,_,he,_=>by cases he
 |.own _ _::ps,[],_,_,_,_,he,_=>by cases he
 |.io _::ps,[],_,_,_,_,he,_=>by cases he
 |.fn _ _::ps,[],_,_,_,_,he,_=>by cases he
 |.nil _ _::ps,[],_,_,_,_,he,_=>by cases he
 |.rd _::ps,[],_,_,_,_,he,_=>by cases he
 |.ior _ _::ps,[],_,_,_,_,he,_=>by cases he
 |.iob _::ps,[],_,_,_,_,he,_=>by cases he
 |[],[],_::_,_,h,_,_,_=>by cases h
 |.val _::ps,_::_,[],_,h,_,_,_=>by cases h
 |.own _ _::ps,_::_,[],_,h,_,_,_=>by cases h
 |.io _::ps,_::_,[],_,h,_,_,_=>by cases h
 |.fn _ _::ps,_::_,[],_,h,_,_,_=>by cases h
 |.nil _ _::ps,_::_,[],_,h,_,_,_=>by cases h
 |.rd _::ps,_::_,[],_,h,_,_,_=>by cases h
 |.ior _ _::ps,_::_,[],_,h,_,_,_=>by cases h
 |.iob _::ps,_::_,[],_,h,_,_,_=>by cases h
end
end Go.Vi
namespace Go.Vi
open Go.RowKit
section
variable {C:Ctx}{E:Env}{σ:St}{tm:Array Value}{a:Act}{w w':World}{own:Own}{o:Oper}{p:qdU} [Tabbed E C]
theorem ql3:∀(us:List U) (σ:St),(us.map (·.s)).Nodup→(∀u∈us,u.bump=true∧u.s<σ.length)→(∀u∈us,qj (qh σ us) u.s=((qj σ u.s).1+1,u.a))∧∀s,s∉us.map (·.s)→qj (qh σ us) s=qj σ s
 |[],σ,_,_=>⟨fun u hu=>(by cases hu),fun _ _=>rfl⟩
 |u::us,σ,hn,hb=>by
  have hn':=zaJ.1 hn;obtain⟨h1,h2⟩:=ql3 us (qG σ u) hn'.2 (fun v hv=>⟨(hb v (zaj _ hv)).1,by grind [qM]⟩);grind [qD,qw,qh]
def qqH (nw:Nat→List Nat) (s:Nat) (l:List Nat) (t:Nat):List Nat:=if t=s then l else nw t
theorem qgb {nw:Nat→List Nat}{s:Nat}{l:List Nat}:qqH nw s l s=l:=if_pos rfl
theorem qgh {nw:Nat→List Nat}{s t:Nat}{l:List Nat}(h:t≠s):qqH nw s l t=nw t:=if_neg h
theorem qee {F:Nat→Prop}:(ps:List PM)→{y:PMs.ioDen ps}→{as:List Value}→{ss i inn js:List Nat}→qcj σ tm own ps as ss i inn→qcM w F ps y as i js→ss.Nodup→(i++js).Nodup→
  (qet ps y ss).map (·.s)=ss∧(∀s∈ss,s<σ.length)∧∃nw:Nat→List Nat,(∀u∈qet ps y ss,u.bump=true∧u.a.mentions=[]∧∀X:Sit,X.w=w→(PMs.ye ps=true∨∀b,F b→b<w.heap.size→X.F b)→qS X u.a (tm.getD u.s undef) (nw u.s))∧
   (∀s∈ss,(nw s).Nodup∧∀b∈nw s,b∈i++js)∧∀s∈ss,∀s'∈ss,∀b,b∈nw s→b∈nw s'→s=s'
 |[],_,_,_,_,_,_,⟨h1,_⟩,_,_,_=>by subst h1;exact⟨rfl,fun s hs=>(by cases hs),fun _=>[],fun u hu=>(by cases hu),fun s hs=>(by cases hs),fun s hs=>(by cases hs)⟩
 |.io t::ps,y,as,_,_,_,js,⟨s,ss,b,i2,n1,n2,h0,h1,h2,h3,h4,h5,h6⟩,⟨b',i2',cs,te,k1,k2,k3,k4⟩,hn,hij=>by
  subst h0;rw[h1]at k1;injection k1 with e1 e2;subst e1;subst e2;subst h1;have hn:=zaJ.1 hn;have hij:(b::(i2++js)).Nodup:=hij;have hij:=zaJ.1 hij;obtain⟨g1,g0,nw,g2,g3,g4⟩:=qee (ss:=ss) ps h6 k4 hn.2 hij.2;have ne:∀s'∈ss,s'≠s:=fun s' hs' e=>hn.1 (e▸hs');refine⟨by simp[qet,g1],fun s' hs'=>?_,qqH nw s [b],fun u hu=>?_,fun s' hs'=>?_,fun s1 hs1 s2 hs2 c hc1 hc2=>?_⟩
  ·grind
  ·rcases zak.1 hu with rfl|hu
   ·refine⟨rfl,rfl,fun X hw hF=>?_⟩;subst hw;simp only[qgb];refine⟨b,cs,[],te,h4,k2,⟨rfl,?_⟩,rfl⟩;rcases hF with hF|hF
    ·simp only[PMs.ye,zad]at hF;exact k3.flat hF.1
    ·exact k3.keep fun b hb hlt=>⟨hF b hb hlt,hlt,rfl⟩
   grind [qgh,PMs.ye]
  all_goals grind [qgb,qgh]
 |.iob t::ps,y,as,_,_,_,_,⟨s,ss,b,i2,n1,n2,m,h0,h1,h2,h3,h4,h5,h6⟩,⟨b',i2',j1,j2,cs,te,k1,k0,k2,k3,k4⟩,hn,hij=>by
  subst h0;rw[h1]at k1;injection k1 with e1 e2;subst e1;subst e2;subst h1;subst k0;have hn:=zaJ.1 hn;have hp:((b::i2)++(j1++j2)).Perm ((b::j1)++(i2++j2)):=List.perm_iff_count.2 fun a=>by grind
  have hij:=zai.1 (hp.nodup_iff.1 hij);obtain⟨g1,g0,nw,g2,g3,g4⟩:=qee (ss:=ss) ps h6 k4 hn.2 hij.2.1;have ne:∀s'∈ss,s'≠s:=fun s' hs' e=>hn.1 (e▸hs');refine⟨by simp[qet,g1],fun s' hs'=>?_,qqH nw s (b::j1),fun u hu=>?_,fun s' hs'=>?_,fun s1 hs1 s2 hs2 c hc1 hc2=>?_⟩
  ·grind
  ·rcases zak.1 hu with rfl|hu
   ·refine⟨rfl,rfl,fun X hw hF=>?_⟩;subst hw;simp only[qgb];refine⟨b,cs,j1,te,h4,k2,?_,rfl⟩;rcases hF with hF|hF
    ·simp only[PMs.ye,zad]at hF;exact k3.flat t hF.1
    ·exact k3.keep (fun b hb hlt=>⟨hF b hb hlt,hlt,rfl⟩) (fun _ _ _=>rfl)
   grind [qgh,PMs.ye]
  ·rcases zak.1 hs' with rfl|hs';all_goals grind [qgb,qgh]
  ·rcases zak.1 hs1 with rfl|hs3<;>rcases zak.1 hs2 with rfl|hs4;all_goals grind [qgb,qgh]
 |.ior et e::ps,y,as,_,_,_,js,⟨s,ss,i1,i2,h0,h1,h2,h3,h4,h5,h6⟩,⟨i1',i2',k1,k2,k3⟩,hn,hij=>by
  subst h0;have e1:i1'=i1:=by
   obtain⟨cells,_,hb,_⟩:=k2;rw[hb,h4]
  subst e1;rw[h1]at k1;have e2:=List.append_cancel_left k1;subst e2;subst h1;have hn:=zaJ.1 hn;rw[zau]at hij;have hij:=zai.1 hij;obtain⟨g1,g0,nw,g2,g3,g4⟩:=qee (ss:=ss) ps h6 k3 hn.2 hij.2.1;have ne:∀s'∈ss,s'≠s:=fun s' hs' e=>hn.1 (e▸hs');refine⟨by simp[qet,g1],fun s' hs'=>?_,qqH nw s i1',fun u hu=>?_,fun s' hs'=>?_,fun s1 hs1 s2 hs2 c hc1 hc2=>?_⟩
  ·grind
  ·rcases zak.1 hu with rfl|hu
   ·refine⟨rfl,rfl,fun X hw hF=>?_⟩;subst hw;show qO _ _ et e y.1 (tm.getD s undef) (qqH nw s i1' s);rw[qgb];rw[h3];rcases hF with hF|hF
    ·simp only[PMs.ye,zad]at hF;obtain⟨cells,q1,q2,q3⟩:=k2;exact⟨cells,q1,q2,fun i x hi=>(q3 i x hi).flat hF.1⟩
    grind [qO.keep]
   grind [qgh,PMs.ye]
  all_goals grind [qgb,qgh]
 |.val _::ps,y,as,ss,_,_,_,h1,h2,hn,hij=>by
  have:=qee (ss:=ss) ps h1 (y:=y) h2 hn hij;simpa[qet,PMs.ye]using this
 |.own _ _::ps,y,as,ss,_,_,_,h1,h2,hn,hij=>by
  have:=qee (ss:=ss) ps h1 (y:=y) h2 hn hij;simpa[qet,PMs.ye]using this
 |.nil _ _::ps,y,as,ss,_,_,_,h1,h2,hn,hij=>by
  have:=qee (ss:=ss) ps h1 (y:=y) h2 hn hij;simpa[qet,PMs.ye]using this
 |.rd _::ps,y,as,ss,_,_,_,h1,h2,hn,hij=>by
  have:=qee (ss:=ss) ps h1 (y:=y) h2 hn hij;simpa[qet,PMs.ye]using this
 |.fn _ _::ps,y,as,ss,_,_,_,h1,h2,hn,hij=>by
  have:=qee (ss:=ss) ps h1 (y:=y) h2 hn hij;simpa[qet,PMs.ye]using this
theorem qs5 {X:Sit}(rs:List RM) {y:RMs.den rs}{vs:List Value}{bs:List Nat}(h:qaB X.w X.F (qcU rs y) vs bs):qS X (qhT rs y) (qcG vs) bs:=by
 match rs,y,h with
 |[],y,h=>
  obtain⟨h1,h2⟩:=h;subst h1;exact⟨[],rfl,rfl,h2⟩
 |[.val t],y,⟨v,r,b1,b2,h1,h2,h3,h4,h5⟩=>
  subst h4;rw[h1,h2,h5,h3.1];exact⟨rfl,h3.2⟩
 |[.nz e],y,⟨v,r,b1,b2,h1,h2,h3,h4,h5⟩=>
  subst h4;rw[h1,h2,h5,h3.1];exact⟨rfl,h3.2⟩
 |[.own et e],y,⟨v,r,b1,b2,h1,h2,h3,h4,h5⟩=>
  subst h4;rw[h1,h2,h5,zaO];exact h3
 |r1::r2::rs,y,h=>
  have e1:qhT (r1::r2::rs) y=.tup (qcU (r1::r2::rs) y):=by grind [qhT]
  rw[e1];refine⟨vs,?_,h⟩;cases r1<;>cases r2<;>(obtain⟨v,r,b1,b2,h1,h2,h3,v2,r2',b3,b4,h4,_⟩:=h;subst h1;subst h4;rfl)
theorem ql1 (rs:List RM) (y:RMs.den rs):(qhT rs y).mentions=[]:=by
 unfold qhT;split<;>rfl
theorem qq6 (rs:List RM) (y:RMs.den rs):(qhT rs y).isHeap=false:=by
 unfold qhT;split<;>rfl
theorem qc5:(ps:List PM)→(y:PMs.ioDen ps)→(ss:List Nat)→∀u∈qet ps y ss,u.a.isHeap=false
 |.io t::ps,y,s::ss,u,h=>by
  rcases zak.1 h with rfl|h
  ·rfl
  ·exact qc5 ps y.2 ss u h
 |.ior et e::ps,y,s::ss,u,h=>by
  rcases zak.1 h with rfl|h
  ·rfl
  ·exact qc5 ps y.2 ss u h
 |.iob b::ps,y,s::ss,u,h=>by
  rcases zak.1 h with rfl|h
  ·rfl
  ·exact qc5 ps y.2 ss u h
 |.val _::ps,y,ss,u,h=>qc5 ps y ss u h
 |.own _ _::ps,y,ss,u,h=>qc5 ps y ss u h
 |.fn _ _::ps,y,ss,u,h=>qc5 ps y ss u h
 |.nil _ _::ps,y,ss,u,h=>qc5 ps y ss u h
 |.rd _::ps,y,ss,u,h=>qc5 ps y ss u h
 |[],_,_,_,h=>by cases h
 |.io _::_,_,[],_,h=>by cases h
 |.ior _ _::_,_,[],_,h=>by cases h
 |.iob _::_,_,[],_,h=>by cases h
theorem qla (h:qK C σ a.tmps w own) {D:qH}{f:Nat}{y:RMs.den D.rs×PMs.ioDen D.ps}{as:Array Value}{gone ios g i inn:List Nat}{al:List Value}{F:Nat→Prop}
  (hcall:(∀b∈g++i,¬F b∧b<w.heap.size)→(g++i).Nodup→Calls C.P f as w fun e w'=>∃v,e=.returned v∧D.Post w F al g i y v w') (hgw:∀b∈g++(i++inn),∃s∈gone++ios,b∈own s) (hgn:(gone++ios).Nodup→(g++(i++inn)).Nodup) (hgl:∀s∈gone,s<σ.length) (hbx:qcj σ a.tmps own D.ps al ios i inn)
  (hF:∀b,F b→C.free w own b∨b∈inn∨(∃s,s∉gone++ios∧b∈own s))
  (hflat:(RMs.flat D.rs=true∧PMs.ye D.ps=true)∨∀b,F b→C.free w own b∨b∈inn)
  (hnd:(gone++ios).Nodup) (hdst:∀d,o.dst=some d→d∉gone++ios) (hd:∀u∈qaL o (qhT D.rs y.1),u.s<σ.length)
  (hr:(execOp a.eval o).run C.P w=.ok (.enter f as) w):
  qb5 C o a w (qh σ (gone.map (fun s=>⟨s,true,.undef⟩)++qet D.ps y.2 ios++qaL o (qhT D.rs y.1))):=by
 have hn1:=zai.1 hnd;have hgii:=hgn hnd;have hgi:(g++i).Nodup:=by
  grind
 have gi:∀b∈g++i,∃s∈gone++ios,b∈own s:=fun b hb=>hgw b (by
  grind)
 have bx2:∀b∈inn,∃s∈gone++ios,b∈own s:=fun b hb=>hgw b (zaa _ (zaa _ hb));have hg:∀b∈g,∃s∈gone++ios,b∈own s:=fun b hb=>gi b (zab _ hb);have bn2:∀b∈g++i,b∉inn:=fun b hb hm=>by
  grind
 have hpre:∀b∈g++i,¬F b∧b<w.heap.size:=by
  intro b hb;obtain⟨s,hs,hbs⟩:=gi b hb;refine⟨fun hFb=>?_,(h.mine s b hbs).2⟩;rcases hF b hFb with hf|hf|⟨s',hs',hf⟩
  ·exact hf.2.2 s hbs
  ·grind
  ·have:=h.apart s s' b hbs hf;grind
 intro K Q hK;unfold Oper.wp;rw[hr];refine Calls.mono (hcall hpre hgi) ?_;rintro e w' ⟨v,rfl,vs,bs,js,rfl,hbjn,hbl,hres,hios,hkept⟩;have hbjn':=zai.1 hbjn;have hbn:=hbjn'.1;have hbi:∀b∈bs++js,b∉i:=fun b hb hi=>by
  grind
 have hijn:(i++js).Nodup:=zai.2 ⟨(zai.1 hgi).2.1,hbjn'.2.1,fun b hb b' hb' e=>by
  grind⟩
 obtain⟨u1,bx3,_,_⟩:=qee (σ:=σ) (tm:=a.tmps) (own:=own) D.ps hbx hios hn1.2.1 hijn;generalize hus:gone.map (fun s=>(⟨s,true,.undef⟩:U))++qet D.ps y.2 ios++qaL o (qhT D.rs y.1)=us at hK;have hslots:us.map (·.s)=gone++ios++o.dst.toList:=by
  rw[←hus,List.map_append,List.map_append,u1];congr 1
  ·congr 1;rw[List.map_map];exact List.map_id _
  grind [qaL]
 have hdst':∀d∈o.dst.toList,d∉gone++ios:=fun d hd=>hdst d (by simpa using hd);have hsn:(us.map (·.s)).Nodup:=by
  rw[hslots];refine zai.2 ⟨hnd,by grind,fun s hs s' hs' e=>?_⟩;grind
 have hub:∀u∈us,u.bump=true∧u.s<σ.length:=by
  intro u hu;rw[←hus]at hu;rcases zaf.1 hu with hu|hu
  ·rcases zaf.1 hu with hu|hu
   ·obtain⟨s,hs,rfl⟩:=List.mem_map.1 hu;grind
   grind [List.mem_map_of_mem]
  ·refine⟨?_,hd u hu⟩;unfold qaL at hu;cases hdd:o.dst with
   |none=>grind
   |some d=>rw[hdd]at hu;grind
 obtain⟨at1,at2⟩:=ql3 us σ hsn hub;have bsAway:∀b∈bs++js,∀s,b∈own s→s∈gone++ios:=by
  intro b hb s hs;rcases(hbl b hb).1 with hgb|hfr
  ·obtain⟨s',hs',k⟩:=hg b hgb;have:=h.apart s s' b hs k;grind
  ·have:=(h.mine s b hs).2;omega
 have free:∀own':Own,(∀s b,b∈own' s→b∈bs++js∨b∈i∨(b∈own s∧s∉gone++ios))→∀b,qiS w F g i (bs++js) b→b<w'.heap.size→(C.free w own b∨b∈inn∨(∃s,s∉gone++ios∧b∈own s)→C.free w own b∨b∈inn)→C.free w' own' b:=by
  rintro own' hown' b ⟨hb1,hb2,hb3⟩ hlt hnot;have hbase:C.base b:=by
   rcases hb1 with hb1|hb1|hb1
   ·rcases hF b hb1 with hf|hf|⟨s',hs',hf⟩
    ·exact hf.1
    ·obtain⟨s',_,k⟩:=bx2 b hf;exact .inr (h.mine s' b k).1
    ·exact .inr (h.mine s' b hf).1
   ·obtain⟨s,_,k⟩:=hg b hb1;exact .inr (h.mine s b k).1
   ·have:=h.kept.size;exact .inr (.inr (by omega))
  refine⟨hbase,hlt,fun s hs=>?_⟩;rcases hown' s b hs with h1|h1|⟨h1,h2⟩
  ·exact hb2 h1
  ·exact hb3 h1
  ·rcases hb1 with hb1|hb1|hb1
   ·rcases hnot (hF b hb1)with hf|hf
    ·exact hf.2.2 s h1
    ·obtain⟨s',hs',k⟩:=bx2 b hf;have:=h.apart s s' b h1 k;grind
   ·obtain⟨s',hs',k⟩:=hg b hb1;have:=h.apart s s' b h1 k;grind
   ·have:=(h.mine s b h1).2;omega
 have conv:∀own':Own,(∀s b,b∈own' s→b∈bs++js∨b∈i∨(b∈own s∧s∉gone++ios))→(RMs.flat D.rs=true∨∀b,qiS w F g i (bs++js) b→b<w'.heap.size→C.free w' own' b)∧(PMs.ye D.ps=true∨∀b,qiS w F g i (bs++js) b→b<w'.heap.size→C.free w' own' b):=by
  intro own' hown';rcases hflat with⟨f1,f2⟩|hf
  ·grind
  ·have:∀b,qiS w F g i (bs++js) b→b<w'.heap.size→C.free w' own' b:=fun b hb hlt=>by
    refine free own' hown' b hb hlt fun hor=>?_;rcases hb.1 with hFb|hgb|hfr
    ·exact hf b hFb
    ·obtain⟨s,hs,k⟩:=hg b hgb;rcases hor with hq|hq|⟨s',hs',k'⟩
     ·exact .inl hq
     ·exact .inr hq
     ·have:=h.apart s s' b k k';grind
    ·rcases hor with hq|hq|⟨s',hs',k'⟩
     ·exact .inl hq
     ·exact .inr hq
     ·have:=(h.mine s' b k').2;omega
   grind
 have hboth:∃own':Own,own'.gh=own.gh∧(∀d,o.dst=some d→own' d=bs)∧(∀s∈gone,own' s=[])∧(∀s,s∉us.map (·.s)→own' s=own s)∧(∀s∈ios,(own' s).Nodup∧∀b∈own' s,b∈i++js)∧(∀s∈ios,∀s'∈ios,∀b,b∈own' s→b∈own' s'→s=s')∧
   (∀u∈qet D.ps y.2 ios,u.bump=true∧u.a.mentions=[]∧∀X:Sit,X.w=w'→X.F=C.free w' own'→qS X u.a (a.tmps.getD u.s undef) (own' u.s))∧qaB w' (C.free w' own') (qcU D.rs y.1) vs bs:=by
  have mk:∀nw:Nat→List Nat,(∀s∈ios,(nw s).Nodup∧∀b∈nw s,b∈i++js)→∃own':Own,own'.gh=own.gh∧(∀d,o.dst=some d→own' d=bs)∧(∀s∈gone,own' s=[])∧(∀s∈ios,own' s=nw s)∧(∀s,s∉us.map (·.s)→own' s=own s)∧(∀s b,b∈own' s→b∈bs++js∨b∈i∨(b∈own s∧s∉gone++ios)):=by
   intro nw hnw;refine⟨⟨fun s=>if s∈o.dst.toList then bs else if s∈gone then[]else if s∈ios then nw s else own s,own.gh⟩,rfl,fun d hd=>by simp[hd],fun s hs=>?_,fun s hs=>?_,fun s hs=>?_,fun s b hb=>?_⟩
   ·have:s∉o.dst.toList:=fun hm=>hdst' s hm (zab _ hs);grind
   ·have h1:s∉o.dst.toList:=fun hm=>hdst' s hm (zaa _ hs);grind
   ·rw[hslots]at hs;simp only[zaf,not_or]at hs;grind
   ·simp only at hb;split at hb
    ·grind
    ·split at hb
     ·cases hb
     ·rename_i h2;split at hb
      ·rename_i h3;rcases zaf.1 ((hnw s h3).2 b hb)with hb|hb;all_goals grind
      grind
  obtain⟨_,_,nw,v2,v3,v4⟩:=qee (σ:=σ) (tm:=a.tmps) (own:=own) D.ps hbx hios hn1.2.1 hijn;obtain⟨own',og,o1,o2,o3,o4,o5⟩:=mk nw v3;have hcv:=conv own' o5
  refine⟨own',og,o1,o2,o4,fun s hs=>by rw[o3 s hs];exact v3 s hs,fun s hs s' hs' b hb hb'=>v4 s hs s' hs' b (by rw[←o3 s hs];exact hb) (by rw[←o3 s' hs'];exact hb'),fun u hu=>?_,qaB.turn D.rs hcv.1 hres⟩;have hus':u.s∈ios:=by rw[←u1];exact List.mem_map_of_mem hu
  rw[o3 _ hus'];refine⟨(v2 u hu).1,(v2 u hu).2.1,fun X hw hF'=>?_⟩;exact(v2 u hu).2.2 X hw (by rw[hF'];exact hcv.2)
 obtain⟨own',oGh,oDst,oGone,oElse,oIos,oAp,u2',hres'⟩:=hboth;refine hK _ _ own' (qeg o a _) ?_;have htmps:∀s,s∉o.dst.toList→(a.put o.dst (qcG vs)).tmps.getD s undef=a.tmps.getD s undef:=fun s hs=>by
  cases hdd:o.dst with
  |none=>rfl
  |some d=>
   rw[hdd]at hs;exact qay _ _ (by simpa using hs)
 have hmem:∀s,s∈us.map (·.s)→(s∈gone∨s∈ios)∨s∈o.dst.toList:=fun s hs=>by
  rw[hslots]at hs;rcases zaf.1 hs with hs|hs;all_goals grind
 have slot:∀s,s∈us.map (·.s)→(qj σ s).1<(qj (qh σ us) s).1∧qS (sit C (qh σ us) (a.put o.dst (qcG vs)).tmps w' own') (qj (qh σ us) s).2 ((a.put o.dst (qcG vs)).tmps.getD s undef) (own' s)∧(qj (qh σ us) s).2.mentions=[]∧(qj (qh σ us) s).2.isHeap=false:=by
  intro s hs;obtain⟨u,hu,rfl⟩:=List.mem_map.1 hs;rw[at1 u hu];refine⟨Nat.lt_succ_self _,?_⟩;have hu0:=hu;rw[←hus]at hu;rcases zaf.1 hu with hu|hu
  ·rcases zaf.1 hu with hu|hu
   ·obtain⟨s,hs,rfl⟩:=List.mem_map.1 hu;exact⟨trivial,rfl,rfl⟩
   ·have hsi:u.s∈ios:=by rw[←u1];exact List.mem_map_of_mem hu
    refine⟨?_,(u2' u hu).2.1,qc5 _ _ _ u hu⟩;rw[htmps _ (fun hm=>hdst' _ hm (zaa _ hsi))];exact(u2' u hu).2.2 _ rfl rfl
  ·unfold qaL at hu;cases hdd:o.dst with
   |none=>rw[hdd]at hu;cases hu
   |some d=>
    rw[hdd]at hu;have hu:u=⟨d,true,qhT D.rs y.1⟩:=by simpa using hu
    have hdl:d<σ.length:=by grind
    subst hu;refine⟨?_,ql1 _ _,qq6 _ _⟩;show qS _ _ ((a.put (some d) (qcG vs)).tmps.getD d undef) (own' d);rw[oDst d hdd,show(a.put (some d) (qcG vs)).tmps.getD d undef=qcG vs from qbn _ _ (by rw[h.size];exact hdl)];exact qs5 (X:=sit C (qh σ us) _ w' own') D.rs hres'
 refine h.update (fun s=>s∈us.map (·.s)) (qB _ _) (by cases o.dst<;>simp[Act.put]) ?_ (fun s hs=>.inl (slot s hs).1) ?_ ?_ ?_ ?_ (fun s hs=>(slot s hs).2.1) (fun s hs m hm=>by rw[(slot s hs).2.2.1]at hm;cases hm) (fun s hs hh=>by rw[(slot s hs).2.2.2]at hh;cases hh) (.inl oGh)
 ·intro s hs;refine⟨at2 s hs,htmps s fun hm=>hs ?_,oElse s hs⟩;rw[hslots];exact zaa _ hm
 ·refine hkept.mono fun k hk=>?_;obtain⟨s,hs,hb⟩:=gi k hk;exact⟨s,by rw[hslots];exact zab _ hs,hb⟩
 ·intro s hs;obtain⟨u,hu,rfl⟩:=List.mem_map.1 hs;exact(hub u hu).2
 ·intro s hs;rcases hmem s hs with(hm|hm)|hm
  ·rw[oGone s hm];exact⟨fun b hb=>(by cases hb),zaA⟩
  ·refine⟨fun b hb=>?_,(oIos s hm).1⟩;rcases zaf.1 ((oIos s hm).2 b hb)with hb|hb
   ·obtain⟨s',h1,h2⟩:=gi b (zaa _ hb);exact .inr ⟨s',by rw[hslots];exact zab _ h1,h2⟩
   ·obtain⟨h1,h2⟩:=hbl b (zaa _ hb);rcases h1 with hgb|hfr
    ·obtain⟨s',hs',k⟩:=hg b hgb;exact .inr ⟨s',by rw[hslots];exact zab _ hs',k⟩
    omega
  ·rw[oDst s (by simpa using hm)];refine⟨fun b hb=>?_,hbn⟩;obtain⟨h1,h2⟩:=hbl b (zab _ hb);rcases h1 with hgb|hfr
   ·obtain⟨s',hs',k⟩:=hg b hgb;exact .inr ⟨s',by rw[hslots];exact zab _ hs',k⟩
   omega
 ·intro s s' b hs hs' hb hb';have sub:∀s,s∈us.map (·.s)→s∉o.dst.toList→b∈own' s→b∈i++js∧s∈ios:=by
   intro s hs hnd hb;rcases hmem s hs with(hm|hm)|hm
   ·rw[oGone s hm]at hb;cases hb
   ·exact⟨(oIos s hm).2 b hb,hm⟩
   ·exact(hnd hm).elim
  have cross:∀s s',s∈o.dst.toList→s'∈us.map (·.s)→s'∉o.dst.toList→b∈own' s→b∈own' s'→False:=by
   intro s s' hd hs' hnd hb hb';rw[oDst s (by simpa using hd)]at hb;obtain⟨k1,k2⟩:=sub s' hs' hnd hb';rcases zaf.1 k1 with k1|k1
   ·exact hbi b (zab _ hb) k1
   ·exact hbjn'.2.2 b hb b k1 rfl
  by_cases h1:s∈o.dst.toList<;>by_cases h2:s'∈o.dst.toList
  ·have e1:o.dst=some s:=by simpa using h1
   have e2:o.dst=some s':=by simpa using h2
   rw[e1]at e2;injection e2
  ·exact(cross s s' h1 hs' h2 hb hb').elim
  ·exact(cross s' s h2 hs h1 hb' hb).elim
  ·exact oAp s (sub s hs h1 hb).2 s' (sub s' hs' h2 hb').2 b hb hb'
end
end Go.Vi
namespace Go.Vi
open Go.RowKit
section
variable {C:Ctx}{E:Env}{σ:St}{tm:Array Value}{a:Act}{w w':World}{own:Own}{o:Oper}{p:qdU} [Tabbed E C]
theorem qK.expose (h:qK C σ tm w own) {s:Nat}{c:BC}{u:Ty}{x:u.den}{f:Bool}(hs:(qj σ s).2=.box c) (hsz:c.size=u.size) (hg:c.get 0 u=some (x,f)):
  ∃own',qK C (qG σ ⟨s,true,.view u x 0⟩) tm w own'∧(∀b,C.free w own b→C.free w own' b)∧(∀s',∀b∈own' s',b∈own s')∧
   ∃(b:Nat) (cs:List Value),tm.getD s undef=.pointer (some ⟨b,0,none⟩)∧C.free w own' b∧b<w.heap.size∧qem w ⟨b,0,none⟩ cs∧Rep w (C.free w own') u x cs:=by
 have hsl:s<σ.length:=qg0 (by rw[hs];simp);have hr:=h.rep s hsl;rw[hs]at hr;obtain⟨b,cs,bs',te,h1,h2,h3,h4⟩:=hr;let own':Own:=⟨fun s'=>if s'=s then[]else own s',own.gh⟩;have sub:∀s',∀b∈own' s',b∈own s':=fun s' b hb=>by
  grind
 have mono:∀b,C.free w own b→C.free w own' b:=fun b hb=>⟨hb.1,hb.2.1,fun s' hs'=>hb.2.2 s' (sub s' b hs')⟩;have new:∀b∈own s,C.free w own' b:=fun b hb=>⟨.inr (h.mine s b hb).1,(h.mine s b hb).2,fun s' hs'=>by
  have:=h.apart s s' b hb (sub s' b hs');grind⟩
 have hb0:b∈own s:=by grind
 obtain⟨q1,q2,_⟩:=h3.get hg;have hlen:=h3.length;rw[zaN,zan (by omega)]at q2;have hrep:Rep w (C.free w own') u x cs:=q2.keep fun b' hb' hlt=>⟨by
  grind,hlt,rfl⟩
 have hcl:qem w ⟨b,0,none⟩ cs:=by
  grind [qff]
 have hlt:b<w.heap.size:=(h.mine s b hb0).2;have eS:qj (qG σ ⟨s,true,.view u x 0⟩) s=((qj σ s).1+1,.view u x 0):=qD σ ⟨s,true,_⟩ hsl;refine⟨own',?_,mono,sub,b,cs,h1,new b hb0,hlt,hcl,hrep⟩;refine h.update (fun x=>x=s) (qM _ _) rfl (fun s' hs'=>⟨qw σ ⟨s,true,.view u x 0⟩ hs',rfl,by grind⟩) (fun s' hs'=>.inl (by grind)) (qaA.refl _ _) (fun s' hs'=>by omega) (fun s' hs'=>?_) (fun x y b hx hy _ _=>hx.trans hy.symm) (fun s' hs'=>?_) (fun s' hs' m hm=>?_) (fun s' hs' hh=>by subst hs';rw[eS]at hh;cases hh)
 ·grind
 ·subst hs';rw[eS];simp only[own',if_true];exact⟨rfl,⟨b,0,none⟩,cs,by rw[h1];rfl,new b hb0,hlt,hcl,hrep⟩
 ·subst hs';rw[eS]at hm;cases hm
theorem qlB:(us:List Ty)→(ops:List Operand)→{q:denL us×List U}→(qpV us ops).run (qj σ)=some q→(qfQ ops).Nodup→{τ:St}→{own:Own}→qK C τ a.tmps w own→(∀s∈qfQ ops,qj τ s=qj σ s)→
  ∃own',qK C (qh τ q.2) a.tmps w own'∧(∀b,C.free w own b→C.free w own' b)∧qgN w (C.free w own') us q.1 (ops.map a.eval)∧∀u∈q.2,u.s∈qfQ ops
 |[],[],q,he,_,τ,own,h,_=>by
  have:=Q.yb he;subst this;exact⟨own,h,fun _ hb=>hb,rfl,fun u hu=>by cases hu⟩
 |[],_::_,_,he,_,_,_,_,_=>by cases he
 |_::_,[],_,he,_,_,_,_,_=>by cases he
 |u::us,.const _::_,_,he,_,_,_,_,_=>by cases he
 |u::us,.func _::_,_,he,_,_,_,_,_=>by cases he
 |u::us,.global _::_,_,he,_,_,_,_,_=>by cases he
 |u::us,.tmp s::r,q,he,hn,τ,own,h,qdS=>by
  simp only[qpV,Q.yc]at he;obtain⟨q1,h1,he⟩:=Q.ya he;have hn:=zaJ.1 hn;have hs0:=qdS s zar;split at he
  ·rename_i c hc;split at he;case isFalse=>cases he
   rename_i hsz;split at he;case h_2=>cases he
   rename_i x f hg;have:=Q.yb he;subst this;obtain⟨qhw,k1,k2,k3,b,cs,k4,k5,k6,k7,k8⟩:=h.expose (by rw[hs0];exact hc) hsz hg;obtain⟨own2,g1,g2,g3,g4⟩:=qlB us r h1 hn.2 k1 (fun s' hs'=>by
    rw[qw τ ⟨s,true,.view u x 0⟩ (show s'≠s from fun e=>hn.1 (e▸hs'))];exact qdS s' (zaj _ hs'))
   refine⟨own2,g1,fun b hb=>g2 b (k2 b hb),⟨⟨b,0,none⟩,cs,_,?_,g2 b k5,k6,k7,k8.keep fun b hb hlt=>⟨g2 b hb,hlt,rfl⟩,g3⟩,fun u' hu'=>?_⟩
   ·simp only[zaC];congr 1
   ·rcases zak.1 hu' with rfl|hu'
    ·exact zar
    ·exact zaj _ (g4 u' hu')
  ·rename_i t y off hv;split at he;case h_2=>cases he
   rename_i x hsub;have:=Q.yb he;subst this;obtain⟨own2,g1,g2,g3,g4⟩:=qlB us r h1 hn.2 h (fun s' hs'=>qdS s' (zaj _ hs'));have hsl:s<τ.length:=qg0 (by grind);have hr:=h.rep s hsl;rw[hs0,hv]at hr;obtain⟨_,ad,cs,m1,m2,m3,m4,m5⟩:=hr;obtain⟨n1,n2⟩:=m5.sub hsub;refine⟨own2,g1,g2,⟨ad.add off,(cs.drop off).take u.size,_,?_,?_,?_,qoO m4,n2.keep fun b hb hlt=>⟨g2 b hb,hlt,rfl⟩,g3⟩,fun u' hu'=>zaj _ (g4 u' hu')⟩
   ·simp only[zaC];congr 1
   all_goals grind [qam]
  ·cases he
theorem qny (hF:qdr E C.P) (h:qK C σ a.tmps w own) {fn:Fn}{first caps:Array Operand}(hop:o.op=.makeFunc fn first caps) {f:Eff}
  (he:(qdR E p o).run (qj σ)=some f) (hd:∀u∈f.upd,u.s<σ.length):qb5 C o a w (qh σ f.upd):=by
 unfold qdR at he;rw[hop]at he;simp only at he;split at he;case h_2=>cases he
 rename_i g;split at he;case isFalse=>cases he
 rename_i hfirst;unfold cloE at he;split at he;case h_2=>cases he
 rename_i D hD;split at he;case h_2=>cases he
 rename_i ts us vs hp1 hp2;split at he;case isFalse=>cases he
 rename_i hty;obtain⟨q,h1,he⟩:=Q.ya he;split at he;case isFalse=>cases he
 rename_i hcond;simp only[zad]at hcond;have:=Q.yb he;subst this;have hnd:=qcs hcond.1;obtain⟨own',k1,k2,k3,k4⟩:=qlB us caps.toList h1 hnd h (fun _ _=>rfl);have hok:=hF g D hD;obtain⟨ps,rs,sem⟩:=D;obtain⟨e1,e2⟩:=hty;simp only at e1 e2 hp1 hp2;subst e1;subst e2;have hrun:(execOp a.eval o).run C.P w=.ok (.value (.func (.func g) #[] (caps.map a.eval))) w:=by
  grind [Sem.run_pure,execOp,Instr.makeFunc]
 have hrep:qjC C.P w (C.free w own') ts vs (fun x:denL ts=>qkj (fun y:RMs.den (valRs vs)×PMs.ioDen (valPs ts++rdPs us)=>qqF vs y.1) (sem (qm5 ts us x q.1))) (.func (.func g) #[] (caps.map a.eval)):=by
  refine⟨g,caps.map a.eval,rfl,hok.1,fun w' F' x y as hkp hvals hy=>?_⟩;simp only[qeE,zao]at hy;obtain⟨z,hz,rfl⟩:=hy;have qoM:qgN w' F' us q.1 (caps.map a.eval).toList:=by
   have:=k3.keep hkp us;simp_all
  have hpar:=qhc (P:=C.P) ts us hvals qoM;have:=hok.2 w' F' (qm5 ts us x q.1) z (as++(caps.map a.eval).toList) [] [] ((qK.tabsE (E:=E) k1).keep hkp) hpar (fun b hb=>by cases hb) zaA hz;have e:(as++(caps.map a.eval).toList).toArray=as.toArray++caps.map a.eval:=by simp
  rw[e]at this;refine Calls.mono this ?_;rintro e w'' ⟨v',rfl,rs,bs,js,rfl,_,_,hres,_,hk⟩;obtain⟨m1,rfl⟩:=qhd vs hres;refine⟨rs,rfl,m1.mono vs fun b hb=>?_,hk.mono fun b hb=>by cases hb⟩;rcases hb.1 with h|h|h;all_goals grind
 have hd2:∀u∈qaL o (.fnv ts vs (fun x:denL ts=>qkj (fun y:RMs.den (valRs vs)×PMs.ioDen (valPs ts++rdPs us)=>qqF vs y.1) (sem (qm5 ts us x q.1)))),u.s<(qh σ q.2).length:=fun u hu=>by
  grind [qB]
 obtain⟨own2,hst⟩:=k1.dst0 (o:=o) (av:= .fnv ts vs (fun x:denL ts=>qkj (fun y:RMs.den (valRs vs)×PMs.ioDen (valPs ts++rdPs us)=>qqF vs y.1) (sem (qm5 ts us x q.1)))) (v:= .func (.func g) #[] (caps.map a.eval)) hd2 ⟨rfl,hrep⟩ (fun m hm=>by cases hm);intro K Q1 hK;unfold Oper.wp;rw[hrun];rw[qbq]at hK;exact hK _ _ own2 (qeg o a _) hst
end
end Go.Vi
namespace Go.Vi
open Go.RowKit
theorem qt9:(k:Ty)→k.key=true→{x y:k.den}→keyV k x=keyV k y→x=y
 |.int _,_,x,y,h=>by grind [keyV]
 |.bool,_,x,y,h=>by grind [keyV]
 |.str,_,x,y,h=>by simpa[keyV]using h
theorem qd0: {k:Ty}→{d:TypeDesc}→qi3 k d=true→(x:k.den)→MapKept.IsKey d (keyV k x)
 |.int k,.int k',h,_=>by
  have:k'=k:=of_decide_eq_true h;exact this.symm
 |.bool,.bool,_,_=>trivial
 |.str,.string,_,_=>trivial
theorem qgd: {k:Ty}→{d:TypeDesc}→qi3 k d=true→k.key=true
 |.int _,.int _,_=>rfl
 |.bool,.bool,_=>rfl
 |.str,.string,_=>rfl
theorem q9.keyV {w:World}{F:Nat→Prop}: {k:Ty}→k.key=true→{x:k.den}→{v:Value}→q9 w F k x v→v=Vi.keyV k x
 |.int _,_,_,_,h=>h.int.1
 |.bool,_,_,_,h=>h.bool
 |.str,_,_,_,h=>h.str.1
section
open Classical
theorem quf {α β:Type}(k:α):qjm ([]:List (α×β)) k=0:=rfl
theorem qr2 {α β:Type}(p:α×β) (xs:List (α×β)) (k:α):qjm (p::xs) k=if p.1=k then 0 else qjm xs k+1:=by
 grind [qjm]
end
theorem qqA {k:Ty}{d:TypeDesc}(hd:qi3 k d=true) {β:Type}(x:k.den):∀(xs:List (k.den×β)) (l:List MapEntry) (i:Nat),l.length=xs.length→(∀(j:Nat) (e:MapEntry) (p:k.den×β),l[j]? =some e→xs[j]? =some p→e.key=keyV k p.1)→
  (qjm xs x<xs.length∧∃e,l[qjm xs x]? =some e∧Instr.findNow d (keyV k x) l i=some (some (i+qjm xs x,e.val)))∨(¬qjm xs x<xs.length∧Instr.findNow d (keyV k x) l i=some none)
 |[],[],i,_,_=>.inr ⟨by simp[quf],rfl⟩
 |p::xs,e::l,i,hl,h=>by
  have hk:e.key=keyV k p.1:=h 0 e p rfl rfl;obtain⟨r,hr,hiff⟩:=MapKept.sameNow_of_keys (qd0 hd x) (by grind [qd0]:MapKept.IsKey d e.key);rw[qr2];by_cases hpx:p.1=x
  ·grind [Instr.findNow]
  ·have hr1:r=false:=by
    cases r with
    |false=>rfl
    |true=>exact absurd (qt9 k (qgd hd) (by grind)) hpx
   subst hr1;rw[if_neg hpx];rcases qqA hd x xs l (i+1) (by simpa using hl) (fun j e p he hp=>h (j+1) e p (by simpa using he) (by simpa using hp))with⟨h1,e',h2,h3⟩|⟨h1,h2⟩;all_goals grind [Instr.findNow]
section
variable {C:Ctx}{E:Env}{σ:St}{tm:Array Value}{a:Act}{w w':World}{own:Own}{o:Oper}{p:qdU} [Tabbed E C]
theorem qn1 (h:qK C σ a.tmps w own) {x:Operand}{o1:Op1}{tid:Nat}(hp:qa5 (sit C σ a.tmps w own) p) (hx:(opd E p tid x).run (qj σ)=some o1) {M:MV}(he:(qtv o1).run (qj σ)=some M):
  M.s<σ.length∧(qj σ M.s).2=.mp M.k M.v M.xs∧a.tmps.getD M.s undef=a.eval x∧qiA w (C.free w own) M.k M.v M.xs (a.eval x) (own M.s):=by
 have ho:=qF h hp hx;have lt:∀s,(qj σ s).2=.mp M.k M.v M.xs→s<σ.length:=fun s hs=>by
  grind [qj]
 unfold qtv at he;split at he
 ·rename_i s k v xs h1 h2;have:=Q.yb he;subst this;have hgs:(qj σ s).2=.mp k v xs∨∃s' v' w' a',(qj σ s).2=.grd s' v' w' a':=by
   unfold opd at hx;split at hx
   ·rename_i t;rw[Q.yc]at hx;have:=Q.yb hx;subst this;simp only at h1 h2;injection h1 with h1;subst h1;generalize hg:(qj σ t).2=g at h2;cases g with
    |grd s' v' w' a'=>grind
    |_=>grind [qav]
   ·split at hx
    ·grind [Q.yb]
    ·cases hx
   ·grind [Q.yb]
   ·split at hx
    ·grind [Q.yb]
    ·cases hx
  unfold qaC at ho;rw[h1,h2]at ho;obtain⟨e1,e2,e3⟩:=ho;rcases hgs with hgs|⟨s',v',w',a',hgs⟩
  ·exact⟨lt s hgs,hgs,e1.symm,e3⟩
  ·have hat:=h.at_ s;rw[hgs]at hat;have hn:own s=[]:=hat.1;obtain⟨b,es,_,hb,_⟩:=e3;have hb:own s=[b]:=hb;grind
 ·rename_i s v0 h2;rw[Q.yc]at he;split at he
  ·rename_i hv;split at he
   ·rename_i k v xs hm;have:=Q.yb he;subst this;have hu:=ho.unowned (by rw[h2];rfl);rw[h2]at hu;have e1:a.tmps.getD s undef=a.eval x:=hu.2 hv;have hat:=h.at_ s;rw[hm,e1]at hat;exact⟨lt s hm,hm,e1,hat⟩
   ·cases he
  ·cases he
 ·cases he
theorem quu (h:qK C σ a.tmps w own) {k:Ty}(hk:k.key=true) {o1:Op1}{v:Value}{q:k.den×List Nat}(ho:qaC (sit C σ a.tmps w own) o1 v) (he:(toVal k o1).run (qj σ)=some q):v=keyV k q.1:=
 (qcm h ho he).keyV hk
theorem qoV (hE:qad E C.P) (h:qK C σ a.tmps w own) {t:Nat}{r:Option Operand}(hop:o.op=.makeMap t r) {f:Eff}
  (he:(qdR E p o).run (qj σ)=some f) (hd:∀u∈f.upd,u.s<σ.length):qb5 C o a w (qh σ f.upd):=by
 unfold qdR at he;rw[hop]at he;simp only at he;split at he;case isFalse=>cases he
 rename_i hr;cases r with
 |some _=>cases hr
 |none=>
  unfold qqx at he;split at he
  ·rename_i k v hty;have:=qE he;subst this;obtain⟨kn,vn,d,i,z,h1,h2,h3,_⟩:=hE.map t k v hty;refine qt (v:= .map (some w.heap.size)) (w':=w.alloc (.map #[] 0)) ?_ (h.dst (bs:=[w.heap.size]) (qaA.alloc _ w _) hd (fun b hb=>?_) (by simp) ?_ (fun m hm=>by cases hm))
   ·simp_all [execOp,Instr.makeMap]
   ·simp_all
   ·refine⟨w.heap.size,#[],rfl,rfl,?_,rfl,qgd h3,fun i e p hi _=>by simp at hi⟩;exact(MapKept.heap_alloc w _).1
  ·cases he
theorem qiA.look {F:Nat→Prop}{k t:Ty}{xs:List (k.den×t.den)}{v:Value}{bs:List Nat}(h:qiA w F k t xs v bs) {d:TypeDesc}(hd:qi3 k d=true) (x:k.den):
  ∃b es,v=.map (some b)∧bs=[b]∧w.heap[b]? =some (.map es es.size)∧es.size=xs.length∧
   ((quB xs x=false∧(∀dd,qu5 xs x dd=dd)∧Instr.findNow d (keyV k x) es.toList 0=some none)∨
    ∃e q,quB xs x=true∧(∀dd,qu5 xs x dd=q.2)∧es[qjm xs x]? =some e∧xs[qjm xs x]? =some q∧e.key=keyV k x∧q9 w F t q.2 e.val∧Instr.findNow d (keyV k x) es.toList 0=some (some (qjm xs x,e.val))):=by
 obtain⟨b,es,h1,h2,h3,h4,h5,h6⟩:=h;refine⟨b,es,h1,h2,h3,h4,?_⟩;rcases qqA hd x xs es.toList 0 (by simpa using h4) (fun j e p he hp=>(h6 j e p (by simpa using he) hp).1)with⟨g1,e,g2,g3⟩|⟨g1,g2⟩
 ·right;have hq:=zac g1;grind [qna,qp2,qjm]
 grind [qna,qp2]
theorem qpf (hE:qad E C.P) (h:qK C σ a.tmps w own) (hp:qa5 (sit C σ a.tmps w own) p) {t:Nat}{m k:Operand}{ok:Bool}(hop:o.op=.lookup t m k ok) {f:Eff}
  (he:(qdR E p o).run (qj σ)=some f) (hd:∀u∈f.upd,u.s<σ.length):qb5 C o a w (qh σ f.upd):=by
 unfold qdR at he;rw[hop]at he;simp only at he;obtain⟨m1,g1,he⟩:=Q.ya he;obtain⟨k1,g2,he⟩:=Q.ya he;unfold qrX at he;obtain⟨M,g3,he⟩:=Q.ya he;obtain⟨q,g4,he⟩:=Q.ya he;split at he;case isFalse=>cases he
 rename_i hty;obtain⟨kn,vn,d,i,z,e1,e2,e3,e4,e5,e6⟩:=hE.map t M.k M.v hty;obtain⟨hlt,hgs,htm,hrep⟩:=qn1 h hp g1 g3;have hkv:=quu h (qgd e3) (qF h hp g2) g4;obtain⟨b,es,r1,r2,r3,r4,r5⟩:=hrep.look e3 q.1;obtain⟨v,hv,hrun⟩:∃v,q9 w (C.free w own) M.v (qu5 M.xs q.1 M.v.dflt) v∧∀cok,(Instr.lookup t (.map (some b)) (keyV M.k q.1) cok).run C.P w=.ok (if cok then .tuple #[v,.bool (quB M.xs q.1)]else v) w:=by
  rcases r5 with⟨s1,s2,s3⟩|⟨e,qq,s1,s2,s3,s4,s5,s6,s7⟩
  ·refine⟨z,by grind,fun cok=>?_⟩;simp[Instr.lookup,run_underlying e1,MapKept.run_getObj_map r3,MapKept.run_checkKey e2 (qd0 e3 q.1),MapKept.run_findKey e2 s3,zeroValue,typeInfo,e4,e5,s1]
  ·refine⟨e.val,by grind,fun cok=>?_⟩;simp[Instr.lookup,run_underlying e1,MapKept.run_getObj_map r3,MapKept.run_checkKey e2 (qd0 e3 q.1),MapKept.run_findKey e2 s7,s1]
 have hex:(execOp a.eval o).run C.P w=.ok (.value (if ok then .tuple #[v,.bool (quB M.xs q.1)]else v)) w:=by
  unfold execOp;rw[hop];simp only[Sem.run_bind,r1,hkv,hrun ok,Result.andThen_ok];rfl
 split at he
 ·have:=qE he;grind [qaH]
 ·have:=qE he;subst this;refine qt hex (h.dst0 hd ?_ (fun m hm=>by cases hm));exact⟨[v,.bool (quB M.xs q.1)],rfl,v,_,[],[],rfl,rfl,⟨rfl,hv⟩,_,[],[],[],rfl,rfl,⟨rfl,q9.ofBool _ _ _⟩,rfl,rfl⟩
theorem qK.mapTurn (h:qK C σ tm w own) {s b:Nat}{k t:Ty}{xs ys:List (k.den×t.den)}{es es':Array MapEntry}(hs:s<σ.length) (hgs:(qj σ s).2=.mp k t xs) (hown:own s=[b]) (htm:tm.getD s undef=.map (some b))
  (hb:w.heap[b]? =some (.map es es.size)) (hk:k.key=true) (hsz:es'.size=ys.length)
  (hx:∀(i:Nat) (e:MapEntry) (p:k.den×t.den),es'[i]? =some e→ys[i]? =some p→e.key=keyV k p.1∧e.born=i∧q9 w (C.free w own) t p.2 e.val):
  qK C (qh σ [⟨s,false,.mp k t ys⟩]) tm { w with heap:=w.heap.setIfInBounds b (.map es' es'.size) } own:=by
 obtain⟨hh1,hh2⟩:=MapKept.heap_set (o':= .map es' es'.size) hb;have hsz':({ w with heap:=w.heap.setIfInBounds b (.map es' es'.size) }:World).heap.size=w.heap.size:=by simp
 have eS:qj (qh σ [⟨s,false,.mp k t ys⟩]) s=((qj σ s).1,.mp k t ys):=qD σ ⟨s,false,_⟩ hs;have eN:∀x,x≠s→qj (qh σ [⟨s,false,.mp k t ys⟩]) x=qj σ x:=fun x hx=>qw σ ⟨s,false,_⟩ hx;have hfree:∀x,C.free w own x→x<w.heap.size→C.free { w with heap:=w.heap.setIfInBounds b (.map es' es'.size) } own x∧x<({ w with heap:=w.heap.setIfInBounds b (.map es' es'.size) }:World).heap.size∧({ w with heap:=w.heap.setIfInBounds b (.map es' es'.size) }:World).heap[x]? =w.heap[x]? :=fun x hx hlt=>
  ⟨⟨hx.1,by omega,hx.2.2⟩,by omega,hh2 x fun e=>hx.2.2 s (by grind)⟩
 refine h.update (fun x=>x=s) (qB _ _) rfl (fun x hx=>⟨eN x hx,rfl,rfl⟩) (fun x hx=>?_) ?_ (fun x hx=>hx▸hs) (fun x hx=>?_) (fun x x' b' hx hx' _ _=>hx.trans hx'.symm) (fun x hx=>?_) (fun x hx m hm=>?_) (fun x hx hh=>by subst hx;rw[eS]at hh;cases hh)
 ·subst hx;right;refine⟨by rw[eS],rfl,fun b' _ hp=>?_⟩;rw[htm]at hp;cases hp
 ·refine⟨rfl,rfl,rfl,Nat.le_of_eq hsz'.symm,fun x hlt hn=>hh2 x fun e=>hn ⟨s,rfl,by grind⟩⟩
 ·grind
 ·subst hx;rw[eS];refine⟨b,es',htm,hown,hh1,hsz,hk,fun i e p hi hpp=>?_⟩;obtain⟨q1,q2,q3⟩:=hx i e p hi hpp;exact⟨q1,q2,q3.1.keep hfree,q3.2⟩
 ·subst hx;rw[eS]at hm;cases hm
theorem qqW {es:Array MapEntry}{i j:Nat}{g:MapEntry→MapEntry}{e:MapEntry}(h:(es.modify i g)[j]? =some e):∃e0,es[j]? =some e0∧e=if i=j then g e0 else e0:=by
 grind
theorem qlT (hE:qad E C.P) (h:qK C σ a.tmps w own) (hp:qa5 (sit C σ a.tmps w own) p) {t:Nat}{m k x:Operand}(hop:o.op=.mapUpdate t m k x) {f:Eff}
  (he:(qdR E p o).run (qj σ)=some f) (hd:∀u∈f.upd,u.s<σ.length):qb5 C o a w (qh σ f.upd):=by
 unfold qdR at he;rw[hop]at he;simp only at he;split at he
 ·cases he
 rename_i hdst;obtain⟨m1,g1,he⟩:=Q.ya he;obtain⟨k1,g2,he⟩:=Q.ya he;obtain⟨x1,g2',he⟩:=Q.ya he;unfold ql8 at he;obtain⟨M,g3,he⟩:=Q.ya he;obtain⟨q,g4,he⟩:=Q.ya he;obtain⟨r,g5,he⟩:=Q.ya he;split at he;case isFalse=>cases he
 rename_i hcond;obtain⟨hty,hns⟩:=hcond;obtain⟨fz,g6,he⟩:=Q.ya he;have:=qE he;subst this;obtain⟨kn,vn,d,i,z,e1,e2,e3,e4,e5,e6⟩:=hE.map t M.k M.v hty;obtain⟨hlt,hgs,htm,hrep⟩:=qn1 h hp g1 g3;have hkv:=quu h (qgd e3) (qF h hp g2) g4;have hxv:=qcm h (qF h hp g2') g5;obtain⟨σ1,qhw,hst,hσ1,hl1,hown1,hgs1,hrx,hfr⟩:∃σ1 qhw,qK C σ1 a.tmps w qhw∧σ1=qh σ fz∧σ1.length=σ.length∧qhw M.s=own M.s∧(qj σ1 M.s).2=.mp M.k M.v M.xs∧q9 w (C.free w qhw) M.v r.1 (a.eval x)∧(∀b,C.free w own b→C.free w qhw b):=by
  by_cases hf:M.v.flat=true
  ·rw[if_pos hf]at g6;have:=Q.yb g6;subst this;exact⟨σ,own,h,rfl,rfl,rfl,hgs,hxv.flat hf,fun _ hb=>hb⟩
  ·rw[if_neg hf]at g6;obtain⟨own',q1,q2,q3,q4⟩:=qcL r.2 h g6;exact⟨qh σ fz,own',q1,rfl,qB _ _,(q3 _ hns).1,by grind,hxv.mono fun b hb _=>q4 b hb,fun b hb=>q4 b (.inl hb)⟩
 rw[qbq,←hσ1];have hrep1:qiA w (C.free w qhw) M.k M.v M.xs (a.eval m) (qhw M.s):=by
  have:=hst.at_ M.s;rw[hgs1]at this;have h2:a.tmps.getD M.s undef=a.eval m:=htm;rw[h2]at this;exact this
 obtain⟨b,es,r1,r2,r3,r4,r5⟩:=hrep1.look e3 q.1;obtain⟨b',es',r1',r2',r3',r4',r5',r6'⟩:=hrep1;have hbb:b'=b:=by grind
 subst hbb;have hee:es'=es:=by grind
 subst hee;have htm':a.tmps.getD M.s undef=.map (some b'):=by grind
 have qt6:∀w2,qK C (qh σ1 [⟨M.s,false,.mp M.k M.v (qvB M.xs q.1 r.1)⟩]) a.tmps w2 qhw→∃own',qK C (qh σ1 [⟨M.s,false,.mp M.k M.v (qvB M.xs q.1 r.1)⟩]) (a.put o.dst undef).tmps w2 own':=fun w2 hh=>by
  have:o.dst=none:=by cases ho:o.dst<;>simp[ho]at hdst⊢
  rw[this];exact⟨qhw,hh⟩
 rcases r5 with⟨s1,s2,s3⟩|⟨e,qq,s1,s2,s3,s4,s5,s6,s7⟩
 ·have hn:¬qjm M.xs q.1<M.xs.length:=by grind [qna]
  have hput:qvB M.xs q.1 r.1=M.xs++[(q.1,r.1)]:=by rw[qqu,if_neg hn]
  refine qdI (w':= { w with heap:=w.heap.setIfInBounds b' (.map (es'.push { key:=keyV M.k q.1,val:=a.eval x,born:=es'.size }) (es'.push { key:=keyV M.k q.1,val:=a.eval x,born:=es'.size }).size) }) ?_ (qt6 _ ?_)
  ·unfold execOp;rw[hop];simp[r1,hkv,Instr.mapUpdate,run_underlying e1,MapKept.run_getObj_map r3,MapKept.run_checkKey e2 (qd0 e3 q.1),MapKept.run_findKey e2 s3,MapKept.run_setObj_map _ r3]
  ·rw[hput];refine hst.mapTurn (by omega) hgs1 r2 htm' r3 r5' (by simp[r4]) (fun j ee pp hj hpp=>?_);rw[Array.getElem?_push]at hj;grind
 ·have hn:qjm M.xs q.1<M.xs.length:=by grind
  have hput:qvB M.xs q.1 r.1=M.xs.set (qjm M.xs q.1) (qq.1,r.1):=by grind [qqu,qvv]
  refine qdI (w':= { w with heap:=w.heap.setIfInBounds b' (.map (es'.modify (qjm M.xs q.1) fun e=> { e with key:=keyV M.k q.1,val:=a.eval x }) (es'.modify (qjm M.xs q.1) fun e=> { e with key:=keyV M.k q.1,val:=a.eval x }).size) }) ?_ (qt6 _ ?_)
  ·unfold execOp;rw[hop];simp[r1,hkv,Instr.mapUpdate,run_underlying e1,MapKept.run_getObj_map r3,MapKept.run_checkKey e2 (qd0 e3 q.1),MapKept.run_findKey e2 s7,s3,s5,MapKept.run_keyThatStays (qd0 e3 q.1),MapKept.run_setObj_map _ r3]
  ·rw[hput];refine hst.mapTurn (by omega) hgs1 r2 htm' r3 r5' (by simp[r4]) (fun j ee pp hj hpp=>?_);obtain⟨e0,hj2,rfl⟩:=qqW hj;by_cases hij:qjm M.xs q.1=j;all_goals grind
end
end Go.Vi
namespace Go.Vi
open Go.RowKit
structure qoA (E:Env) (C:Ctx) (pin:List Nat):Prop where
 fns:qdr E C.P
 pins:∀k∈E.pins,∃b,C.pn k=some b
 sub:∀k b,C.pn k=some b→k∈pin
 hfns:qfN E C.P
def qti (C:Ctx) (tm:Array Value):Prop:=∀k b,C.pn k=some b→tm.getD k undef=ptr b 0
section
variable {C:Ctx}{E:Env}{σ:St}{tm:Array Value}{a:Act}{w w':World}{own:Own}{o:Oper}{p:qdU} [Tabbed E C]
theorem qeB {a b:List Nat}(h:apart a b=true):∀s∈a,s∉b:=by
 intro s hs hb;have:=List.all_eq_true.1 h s hs;grind
theorem qcj.turn {σ':St}{own':Own}(hl:σ'.length=σ.length): {ps:List PM}→{as:List Value}→{ss i inn:List Nat}→(∀s∈ss,own' s=own s)→qcj σ tm own ps as ss i inn→qcj σ' tm own' ps as ss i inn
 |[],_,_,_,_,_,h=>h
 |.io _::ps,_,_,_,_,hs,⟨s,r,b,i2,n1,n2,h1,h2,h3,h4,h5,h6,h7⟩=>by
  subst h1;exact⟨s,r,b,i2,n1,n2,rfl,h2,h3,by grind,h5,by omega,h7.turn hl fun s' hs'=>hs s' (zaj _ hs')⟩
 |.iob _::ps,_,_,_,_,hs,⟨s,r,b,i2,n1,n2,m,h1,h2,h3,h4,h5,h6,h7⟩=>by
  subst h1;exact⟨s,r,b,i2,n1,n2,m,rfl,h2,h3,by grind,h5,by omega,h7.turn hl fun s' hs'=>hs s' (zaj _ hs')⟩
 |.ior _ _::ps,_,_,_,_,hs,⟨s,r,i1,i2,h1,h2,h3,h4,h5,h6,h7⟩=>by
  subst h1;exact⟨s,r,i1,i2,rfl,h2,by grind,h4,h5,by omega,h7.turn hl fun s' hs'=>hs s' (zaj _ hs')⟩
 |.val _::ps,_,_,_,_,hs,h=>qcj.turn (ps:=ps) hl hs h
 |.own _ _::ps,_,_,_,_,hs,h=>qcj.turn (ps:=ps) hl hs h
 |.fn _ _::ps,_,_,_,_,hs,h=>qcj.turn (ps:=ps) hl hs h
 |.nil _ _::ps,_,_,_,_,hs,h=>qcj.turn (ps:=ps) hl hs h
 |.rd _::ps,_,_,_,_,hs,h=>qcj.turn (ps:=ps) hl hs h
theorem qlp:(ts:List Ty)→(as:List Value)→qcj σ tm own (valPs ts) as [] [] []
 |[],_=>⟨rfl,rfl,rfl⟩
 |_::r,as=>qlp r as.tail
theorem qtF (h:qK C σ a.tmps w own) (hpt:qpW (sit C σ a.tmps w own)) {D:qH}{fn:Nat}(hD:D.okT C.P E.tabs fn) (hFn:qdr E C.P) {os:List Op1}{vs:List Value}(ho:qij (sit C σ a.tmps w own) os vs) (hlt:∀o1∈os,∀s,o1.s=some s→o1.a≠ .undef→s<σ.length)
  {f:Eff}(he:(qvG E o D os).run (qj σ)=some f) (hd:∀u∈f.upd,u.s<σ.length) (hc:qb9 f.chk)
  (hr:(execOp a.eval o).run C.P w=.ok (.enter fn vs.toArray) w):qb5 C o a w (qh σ f.upd):=by
 unfold qvG at he;obtain⟨A,h1,he⟩:=Q.ya he;split at he;case isFalse=>cases he
 rename_i hcond;simp only[zad]at hcond;obtain⟨⟨c1,c2⟩,c3⟩:=hcond;obtain⟨fz,h2,he⟩:=Q.ya he;have:=Q.yb he;subst this;have hsem:∃y,D.sem A.x=some y:=by
  have:=hc _ (zaa _ (zah.2 rfl));grind [zaE,qaI]
 obtain⟨y,hy⟩:=hsem;simp only[hy,qbh,Option.getD_some]at hd⊢
 obtain⟨g,i,inn,k1,⟨k2,k3⟩,k4,k5⟩:=qdi hFn h hpt D.ps ho hlt h1 (fun b hb=>hc b (zab _ hb));have hdst:∀d,o.dst=some d→d∉A.gone++A.ios:=fun d hd=>qeB c3 d (by simp[hd]);have hnd:=qcs c1;have hap:=qeB c2;by_cases hfl:(RMs.flat D.rs&&PMs.ye D.ps)=true
 ·rw[if_pos hfl]at h2;have:=Q.yb h2;subst this;simp only[zad]at hfl;refine qla h (fun hpre hgi=>hD.2 w _ A.x y vs g i (h.tabsE.keep fun b hb hlt=>⟨.inl (.inl hb),hlt,rfl⟩) k1 hpre hgi hy) k2 k3 k4 k5 (fun b hb=>?_) (.inl hfl) hnd hdst (fun u hu=>hd u (zaa _ (zaa _ hu))) hr;rcases hb with(hb|⟨s,hs,hb,_⟩)|hb
  ·exact .inl hb
  ·exact .inr (.inr ⟨s,hap s hs,hb⟩)
  grind
 ·rw[if_neg hfl]at h2;obtain⟨own',q1,q2,q3,q4⟩:=qcL A.ow h h2;have same:∀s∈A.gone++A.ios,own' s=own s:=fun s hs=>(q3 s fun hm=>hap s hm hs).1;rw[qbq];have k1':qac C.P w (fun b=>C.free w own' b∨b∈inn) D.ps A.x vs g i:=k1.mono (fun b hb=>hb.imp (q4 b) id) D.ps;refine qla q1 (F:=fun b=>C.free w own' b∨b∈inn) (fun hpre hgi=>hD.2 w _ A.x y vs g i (q1.tabsE.keep fun b hb hlt=>⟨.inl hb,hlt,rfl⟩) k1' hpre hgi hy) (fun b hb=>?_) k3 (fun s hs=>by grind [qB]) (k5.turn (qB _ _) fun s hs=>same s (zaa _ hs)) (fun b hb=>?_) (.inr fun b hb=>hb) hnd hdst (fun u hu=>by grind [qB]) hr;all_goals grind
theorem qm8 (h:qK C σ a.tmps w own):∀(xs:List Operand) (ts:List Nat) {os:List Op1},(qtg E p xs ts).run (qj σ)=some os→∀o1∈os,∀s,o1.s=some s→o1.a≠ .undef→s<σ.length
 |[],_,os,he=>by
  have:=Q.yb he;grind
 |x::xs,ts,os,he=>by
  obtain⟨o1,h1,he⟩:=Q.ya he;obtain⟨r,h2,he⟩:=Q.ya he;have:=Q.yb he;subst this;intro o2 ho2;rcases zak.1 ho2 with rfl|ho2
  ·exact qoP h1
  ·exact qm8 h xs ts.tail h2 o2 ho2
theorem qto (h:qK C σ a.tmps w own) (hpt:qpW (sit C σ a.tmps w own)) (hFn:qdr E C.P) {ts us:List Ty}{φ:denL ts→Option (denL us)}{fv:Value}(hfv:qjC C.P w (C.free w own) ts us φ fv) {os:List Op1}{vs:List Value}(ho:qij (sit C σ a.tmps w own) os vs) (hlt:∀o1∈os,∀s,o1.s=some s→o1.a≠ .undef→s<σ.length)
  {f:Eff}(he:(qvt E o ts us φ os).run (qj σ)=some f) (hd:∀u∈f.upd,u.s<σ.length) (hc:qb9 f.chk)
  (hr:∀fn caps,fv=.func (.func fn) #[] caps→(∀as w',(callFunc fn as).run C.P w'=.ok (.enter fn as) w')→(execOp a.eval o).run C.P w=.ok (.enter fn (vs.toArray++caps)) w):qb5 C o a w (qh σ f.upd):=by
 unfold qvt at he;obtain⟨A,h1,he⟩:=Q.ya he;obtain⟨fz,h2,he⟩:=Q.ya he;have:=Q.yb he;subst this;have hsem:∃y,φ (qoL ts A.x)=some y:=by
  have:=hc _ (zaa _ (zah.2 rfl));grind [zaE,qaI]
 obtain⟨y,hy⟩:=hsem;simp only[hy,qbh,Option.getD_some]at hd⊢
 obtain⟨g,i,inn,k1,⟨k2,k3⟩,k4,k5⟩:=qdi hFn h hpt (valPs ts) ho hlt h1 (fun b hb=>hc b (zab _ hb));obtain⟨e1,e2,e3⟩:=qlg ts h1;obtain⟨k6,rfl,rfl⟩:=qhP ts k1;obtain⟨fn,caps,hfv1,hfv2,hfv3⟩:=hfv;have hio:PMs.ye (valPs ts)=true:=qjr ts;have hups:qet (valPs ts) (PMs.yg (valPs ts)) []=[]:=qk3 ts _;have hinn:inn=[]:=(qju ts k5).2.2;subst hinn;let D:qH:=⟨valPs ts,valRs us,fun _=>none⟩;have fin:∀ {σ2:St}{own2:Own}{F:Nat→Prop},qK C σ2 a.tmps w own2→(∀b,C.free w own b→F b)→qct w F ts (qoL ts A.x) vs→(∀b,F b→C.free w own2 b∨b∈[]∨(∃s,s∉[]++[]∧b∈own2 s))→
   ((RMs.flat (valRs us)=true∧PMs.ye (valPs ts)=true)∨∀b,F b→C.free w own2 b∨b∈[])→(∀u∈qaL o (qhT (valRs us) (qsT us y)),u.s<σ2.length)→
   qb5 C o a w (qh σ2 (qaL o (qhT (valRs us) (qsT us y)))):=by
  intro σ2 own2 F hst hfr qfS hF1 hF2 hd2;have:=qla (D:=D) (f:=fn) (y:=(qsT us y,PMs.yg (valPs ts))) (as:=vs.toArray++caps) (gone:=[]) (ios:=[]) (g:=[]) (i:=[]) (inn:=[]) (al:=vs) (F:=F) hst (fun _ _=>?_) (fun b hb=>by cases hb) (fun _=>zaA) (fun s hs=>by cases hs) (qlp ts vs) hF1 hF2 zaA (fun d _ hm=>by cases hm) hd2 (hr fn caps hfv1 hfv2)
  ·grind
  ·refine Calls.mono (hfv3 w F (qoL ts A.x) y vs (fun b hb hlt=>⟨hfr b hb,hlt,rfl⟩) qfS hy) ?_;rintro e w' ⟨rs,rfl,hvs,hk⟩;have m1:qaB w' (qiS w F [] [] ([]++[])) (qcU D.rs (qsT us y)) rs []:=qiZ us (hvs.mono us fun b hb=>⟨hb.elim .inl fun h=>.inr (.inr h),by simp,by simp⟩);have m2:qcM w' (qiS w F [] [] ([]++[])) D.ps (PMs.yg (valPs ts)) vs [] []:=qgA ts;have m0:∀b∈([]:List Nat),(b∈([]:List Nat)∨w.heap.size≤b)∧b<w'.heap.size:=fun b hb=>by cases hb
   exact⟨_,rfl,rs,[],[],rfl,zaA,m0,m1,m2,hk.mono fun _ h=>h.elim⟩
 by_cases hfl:RMs.flat (valRs us)=true
 ·rw[if_pos hfl]at h2;have:=Q.yb h2;subst this;refine fin h (fun b hb=>.inl (.inl hb)) k6 (fun b hb=>?_) (.inl ⟨hfl,hio⟩) hd;rcases hb with(hb|⟨s,hs,hb,_⟩)|hb
  ·exact .inl hb
  ·exact .inr (.inr ⟨s,by simp,hb⟩)
  ·cases hb
 ·rw[if_neg hfl]at h2;obtain⟨own',q1,q2,q3,q4⟩:=qcL A.ow h h2;rw[qbq];refine fin (F:=fun b=>C.free w own' b∨b∈([]:List Nat)) q1 (fun b hb=>.inl (q4 b (.inl hb))) (k6.mono ts fun b hb=>hb.imp (q4 b) id) (fun b hb=>hb.elim .inl fun h=>by cases h) (.inr fun b hb=>hb) (fun u hu=>by grind [qB])
theorem qrH (hE:qad E C.P) (hF:qdr E C.P) (h:qK C σ a.tmps w own) (hp:qa5 (sit C σ a.tmps w own) p) {c:Call}(hop:o.op=.call c) {f:Eff}
  (he:(qdR E p o).run (qj σ)=some f) (hd:∀u∈f.upd,u.s<σ.length) (hc:qb9 f.chk):qb5 C o a w (qh σ f.upd):=by
 unfold qdR at he;rw[hop]at he;simp only at he;split at he
 ·rename_i b hb;obtain⟨os,h1,he⟩:=Q.ya he;refine qo7 hE h (qiX h hp _ _ h1) (qm8 h _ _ h1) he hd hc ⟨o.type,(c.args.map fun|.const _=>true|_=>false),?_⟩;unfold execOp;rw[hop];simp only[resolve,hb,Sem.run_bind,Sem.run_pure,Result.andThen_ok,invoke];rw[show c.args.map a.eval=(c.args.toList.map a.eval).toArray from by grind,show c.argTypes.toList.toArray=c.argTypes from by simp];rfl
 ·rename_i x hx;split at he
  ·rename_i fn;split at he
   ·rename_i D hD;obtain⟨os,h1,he⟩:=Q.ya he;refine qtF h hp.1 (hF fn D hD) hF (qiX h hp _ _ h1) (qm8 h _ _ h1) he hd hc ?_;unfold execOp;rw[hop];have e1:a.eval (.func fn)=.func (.func fn) #[] #[]:=rfl;simp only[resolve,hx,e1,Deferred.ofValue,Sem.run_bind,Sem.run_pure,Result.andThen_ok,invoke];rw[show c.args.map a.eval=(c.args.toList.map a.eval).toArray from by grind];simpa using(hF fn D hD).1 (c.args.toList.map a.eval).toArray w
   ·cases he
  ·rename_i s;rw[Q.yc]at he;have hop1:=qF h hp (E:=E) (tid:=0) (x:= .tmp s) (o1:=⟨some s,(qj σ s).1,qav p (qj σ s).2⟩) rfl;split at he;case h_2=>cases he
   rename_i ts us φ hst;obtain⟨os,h1,he⟩:=Q.ya he;have hfv:qjC C.P w (C.free w own) ts us φ (a.eval (.tmp s)):=by
    have:=hop1.unowned (by rw[hst];rfl);rw[hst]at this;exact this.2
   refine qto h hp.1 hF hfv (qiX h hp _ _ h1) (qm8 h _ _ h1) he hd hc fun fn caps hfe henter=>?_;unfold execOp;rw[hop];simp only[resolve,hx,hfe,Deferred.ofValue,Sem.run_bind,Sem.run_pure,Result.andThen_ok,invoke];rw[show c.args.map a.eval=(c.args.toList.map a.eval).toArray from by grind];grind
  ·cases he
 ·cases he
theorem qs8 (hE:qad E C.P) (hF:qdr E C.P) (hpn:∀k∈E.pins,∃b,C.pn k=some b) (h:qK C σ a.tmps w own) (hp:qa5 (sit C σ a.tmps w own) p) {f:Eff}
  (he:(qdR E p o).run (qj σ)=some f) (hd:∀u∈f.upd,u.s<σ.length) (hc:qb9 f.chk):qb5 C o a w (qh σ f.upd):=by
 cases hop:o.op with
 |move x=>exact qn9 hpn h hp (as:=false) hop he hd hc
 |assign x=>exact qn9 hpn h hp (as:=true) hop he hd hc
 |pick c x y=>grind [qsJ]
 |alloc t=>grind [qqQ]
 |box t x=>grind [qui]
 |build t ps=>grind [qq5]
 |buildSlice t n ps=>grind [qlm]
 |load t x=>grind [qsE]
 |store t x y=>grind [qrp]
 |nilCheck x=>grind [qmU]
 |binOp op t x y b=>grind [qrc]
 |unOp op t x=>grind [qrE]
 |convert s d x=>grind [qnR]
 |slice t x lo hi mx=>
  cases mx with
  |none=>grind [qqR]
  |some m=>unfold qdR at he;rw[hop]at he;cases he
 |fieldAddr t x f=>grind [qlR]
 |field t x f=>grind [qrx]
 |indexAddr t x ix=>grind [qlG]
 |index t x ix=>grind [qqM]
 |extract x i=>grind [qor]
 |makeSlice t x y=>grind [qlU]
 |call c=>grind [qrH]
 |makeFunc fn first caps=>grind [qny]
 |makeMap t r=>grind [qoV]
 |lookup t m k ok=>grind [qpf]
 |mapUpdate t m k x=>grind [qlT]
 |_=>unfold qdR at he;rw[hop]at he;cases he
end
end Go.Vi
namespace Go.Vi
open Go.RowKit
section
variable {C:Ctx}{E:Env}{σ:St}{tm:Array Value}{a:Act}{w w':World}{own:Own}{o:Oper}{p:qdU} [Tabbed E C]
theorem qk2 (hE:qad E C.P) (h:qK C σ a.tmps w own) {nb0:List Nat}{ps:List qQ}(hn:(ps.map (·.k)).Nodup) (hh:qL w (C.free w own) own.gh ps nb0) {t:Nat}{x1:Op1}{v:Value}(ho:qaC (sit C σ a.tmps w own) x1 v) {c:((t:Ty)×t.den)×List qQ×List U}
  (he:(qjx E t x1 ps).run (qj σ)=some c):TyB C.P t c.1.1∧c.2.2.length≤1∧qaw E w (C.free w own) own own.gh nb0 c.2 fun gh'=>qb3 w (C.free w own) gh' c.1.1 c.1.2 v:=by
 have ty:∀ {t':Ty},some t'=E.hty t∨some t'=E.ty t→TyB C.P t t':=fun {t'} h=>by
  rcases h with h|h
  ·exact hE.heap.ty t t' h.symm
  ·exact hE.ty t t' h.symm
 unfold qjx at he;split at he
 ·rename_i t' y ha;split at he;case isFalse=>cases he
  rename_i hc;have:=Q.yb he;subst this;have hr:=ho.unowned (by rw[ha];rfl);rw[ha]at hr;exact⟨ty hc,zaD _,qaw.yu hn hh hr.2⟩
 ·rename_i t' y ha;split at he;case isFalse=>cases he
  rename_i hc;have:=Q.yb he;subst this;have hr:=ho.unowned (by rw[ha];rfl);rw[ha]at hr;exact⟨ty hc,zaD _,qaw.yu hn hh (q9.toH hr.2)⟩
 ·split at he;case h_2=>cases he
  rename_i u hu;obtain⟨r,h1,he⟩:=Q.ya he;have:=Q.yb he;subst this;exact⟨qn3 hE hu,qhn h (qaJ.refl _) hn hh ho h1⟩
theorem qrL (hE:qad E C.P) (h:qK C σ a.tmps w own) {t:Nat}{x1:Op1}{v:Value}(ho:qaC (sit C σ a.tmps w own) x1 v) (hd:qnt x1.a=true) {c:((t:Ty)×t.den)×List qQ×List U}
  (he:(qjx E t x1 []).run (qj σ)=some c):TyB C.P t c.1.1∧qb3 w (C.free w own) own.gh c.1.1 c.1.2 v:=by
 obtain⟨h1,_,gh',_,_,g2,_,_,_,_,g7⟩:=qk2 hE h (nb0:=[]) (ps:=[]) zaA ⟨rfl,fun r hr=>by cases hr⟩ ho he;have e:c.2.2=[]:=by
  unfold qjx at he;unfold qnt at hd;split at hd
  ·rename_i ha;rw[ha]at he;simp only at he;split at he
   ·grind [Q.yb]
   ·cases he
  ·rename_i ha;rw[ha]at he;simp only at he;split at he
   ·grind [Q.yb]
   ·cases he
  ·cases hd
 grind
theorem qqS (hE:qad E C.P) (h:qK C σ a.tmps w own) (hpt:qpW (sit C σ a.tmps w own)) {t:Nat}{p1 x1:Op1}{pv v:Value}(hp:qaC (sit C σ a.tmps w own) p1 pv) (ho:qaC (sit C σ a.tmps w own) x1 v) (hdst:o.dst=none) {f:Eff}
  (he:(qpl E t p1 x1).run (qj σ)=some (some f)) (hd:∀u∈f.upd,u.s<σ.length) (hc:qb9 f.chk) (hx:(execOp a.eval o).run C.P w=((Instr.storeAt t pv v).run C.P w).andThen fun _ w'=>.ok .skip w'):qb5 C o a w (qh σ f.upd):=by
 have hput:(a.put o.dst undef).tmps=a.tmps:=by rw[hdst];rfl
 unfold qpl at he;split at he
 ·rename_i k sz id i off hq;obtain⟨ps,hps,he⟩:=Q.ya he;obtain⟨hs,hn,hh,hnp⟩:=qb7 h hps;split at he;case h_2=>cases he
  rename_i u hu;obtain⟨c,hcc,he⟩:=Q.ya he;have hco:=qhn h (qaJ.refl _) hn hh ho hcc;obtain⟨gh',nb,g1,g2,g3,g4,g5,g6,g7⟩:=hco.2.nodup h (qe4 hco.1);split at he;case h_2=>cases he
  rename_i q hq';split at he;case isFalse=>cases he
  rename_i hcond;obtain⟨hsz,hna⟩:=hcond;split at he;case h_2=>cases he
  rename_i z hz;have:=Q.yb he;injection this with this;subst this;have hrow':=qgU (d:=[]) (hc _ (zah.2 rfl));generalize hxs:qy (qN q.rows id) []=xs at hrow' hz hd⊢
  obtain⟨i0,g,n,cap,hg,i1,rfl⟩:=qpO hp hq (qbN hrow').1;obtain⟨b1,b2,b3,e1,k2,k3⟩:=(g4.1.clr (et:=q.et)).find (by rw[qeR];exact g3) (qkA hq');obtain⟨hd',c1,c2,c3,m1,m2,m3,m4⟩:=k2.row hrow';have hk:=(qcF hq').1;rw[hk,g1 _ _ _ hg]at m1;injection m1 with m1;subst m1;have hgn:g∈nb:=by
   obtain⟨_,_,e3,_⟩:=m3;rw[e1,m2,e3];simp[Value.ownBlock]
  have hfree:∀x,C.free w own x→x≠g:=fun x hx e=>by
   rcases g7 g hgn with h1|⟨u',_,h1⟩
   ·exact hx.2.2 _ (e▸h1)
   ·exact hx.2.2 _ (e▸h1)
  obtain⟨W,r1,r2,r3,r4⟩:=qI.store (P:=C.P) (qn3 hE hu) hna m3 hfree i0 i1 hz g2.1;have hF:∀b,C.free w own b→b<w.heap.size→C.free w own b∧b<W.heap.size∧W.heap[b]? =w.heap[b]? :=fun b hb hl=>⟨hb,zaq hl r2.size,r2.block b hl (hfree b hb)⟩;have hgt:∃cur,w.heap[g]? =some (.cells cur q.et (0,0)):=by
   obtain⟨_,e2,e3,_⟩:=m3;exact qcW e2 (by grind)
  have hro:=qhX.store (q0:=q) (R:=qdD q.rows id (qdz xs i z)) (w':=W) (F':=C.free w own) (gh':=gh') (bs':=nb) g3 (qcF hq').2 (show q.k<100 by rw[hk];exact(qcD hq').1) (qaJ.refl _) hF (fun b hb hl=>⟨(Classical.em (b=g)).elim (fun e=>.inr (by rw[e];exact hgt)) (fun e=>.inl (r2.block b hl e)),.inr hb⟩) g4.2;rw[e1,m2]at g6;have hout:∀b,b∈b1∨b∈b3∨b∈c1∨b∈c3→b≠g:=fun b hb e=>by
   have hgc:g∈c2:=by rw[r3];simp
   have n1:=zai.1 g6;have n2:=zai.1 n1.2.1;have n3:=zai.1 n2.1;grind
  have hnew:=k3 W (C.free w own) gh' { q with rows:=qdD q.rows id (qdz xs i z) } _ hF ⟨qaJ.refl _,fun _ _=>rfl⟩ (fun b hb hl=>r2.block b hl (hout b (hb.elim .inl fun h=>.inr (.inl h)))) hk
   (by rw[qec];exact m4 W (C.free w own) gh' (some (qdz xs i z)) c2 hF (qaJ.refl _) rfl (fun b hb hl=>r2.block b hl (hout b (.inr (.inr hb)))) r4)
  rw[hsz]at r1;rw[r1]at hx;refine qdI hx ?_;rw[hput];rw[e1,m2]at hro;refine h.heapT (hnp:=hnp) g5 [] [] (.inl ⟨rfl,rfl⟩) g1 hd (r2.mono fun b hb=>?_) (by rw[qe5,qeR];exact g3) ⟨hnew,hro⟩ (fun b hb=>(hF b hb hb.2.1).2) ⟨g6,zaA,fun _ _=>(by simp),fun b hb=>?_⟩ (fun u hu=>by cases hu)
  ·rw[hb,zaO];exact g7 g hgn
  ·rw[zaO];rcases hb with hb|hb
   ·exact .inr (g7 b (by grind))
   grind
 ·split at he;case h_2=>cases Q.yb he
  rename_i s v0 off hb;rw[Q.yc]at he;split at he;case h_2=>cases Q.yb he
  rename_i T y hbx;split at he;case isFalse=>cases he
  rename_i hcond;obtain⟨hv,hne⟩:=hcond;split at he
  ·rename_i hnd;obtain⟨c,hcc,he⟩:=Q.ya he;obtain⟨hu,y2⟩:=qrL hE h ho hnd hcc;obtain⟨⟨u,xu⟩,cps,cus⟩:=c;simp only at hu y2 he;split at he;case h_2=>cases he
   rename_i z hz;have:=Q.yb he;injection this with this;subst this;obtain⟨b,hpb,rfl,_⟩:=qiv h hpt hp hb hv;have hat:=h.at_ s;rw[hbx]at hat;obtain⟨b',cs,te,h1,h2,h3,h4⟩:=hat;rw[hpb]at h1;obtain⟨rfl,_⟩:=qdC h1;obtain⟨q1,q2⟩:=h3.put y2.1 hz;have hrun:=qdV (P:=C.P) (w:=w) hu (v:=v) (off:=off) h2 y2.1.length (by simpa using q1) y2.1.oneCell;have hbo:b∈own s:=by grind
   generalize hW:w.setRow b ((cs.toArray).toList.take off++v.cells.toList++(cs.toArray).toList.drop (off+u.size)).toArray=W at hrun;have r2:qaA (fun k=>k=b) w W:=by rw[←hW];exact qcR _ h2
   have hheap:W.heap[b]? =some (.cells ((cs.toArray).toList.take off++v.cells.toList++(cs.toArray).toList.drop (off+u.size)).toArray te (0,0)):=by rw[←hW];exact setRow_heap w b _ _ te _ h2
   have hfree:∀x,C.free w own x→x≠b:=fun x hx e=>hx.2.2 s (e▸hbo);have hF:∀b',C.free w own b'→b'<w.heap.size→C.free w own b'∧b'<W.heap.size∧W.heap[b']? =w.heap[b']? :=fun b' hb' hl=>⟨hb',zaq hl r2.size,r2.block b' hl (hfree b' hb')⟩;rw[hrun]at hx;refine qdI hx ?_;rw[hput];refine h.oneU (bs:=[b]) (hd ⟨s,true,.hbox z.1 z.2⟩ (by simp)) rfl (fun _ _=>rfl) (r2.mono fun k hk=>by grind) ⟨fun b' hb'=>.inr (by grind),by simp⟩ ⟨rfl,rfl⟩ fun X' x1 x2 x3 x4 x5=>?_;refine⟨b,_,te,hpb,by rw[x4];exact hheap,?_,rfl⟩;rw[x3,x4];simp only[List.toList_toArray];exact q2.keep (fun b' hb' hl=>⟨x5 b' hb',(hF b' hb' hl).2⟩) (qaJ.refl _)
  obtain⟨ps,hps,he⟩:=Q.ya he;obtain⟨hs,hn,hh,hnp⟩:=qb7 h hps;obtain⟨c,hcc,he⟩:=Q.ya he;obtain⟨hu,hlen,hpo⟩:=qk2 hE h hn hh ho hcc;obtain⟨gh',nb,g1,g2,g3,g4,g5,g6,g7⟩:=hpo.nodup h (qe4 hlen);obtain⟨⟨u,xu⟩,cps,cus⟩:=c;simp only at hu hlen g2 g3 g4 g5 g7 hd he⊢
  split at he
  ·cases he
  rename_i hnc;split at he;case h_2=>cases he
  rename_i z hz;have hx0:=hpo;obtain⟨b,hpb,rfl,_⟩:=qiv h hpt hp hb hv;have hat:=h.at_ s;rw[hbx]at hat;obtain⟨b',cs,te,h1,h2,h3,h4⟩:=hat;rw[hpb]at h1;obtain⟨rfl,_⟩:=qdC h1;have h3':=h3.keep (F':=C.free w own) (gh':=gh') (fun b hb hl=>⟨hb,hl,rfl⟩) g1;obtain⟨q1,q2⟩:=h3'.put g2.1 hz;have hrun:=qdV (P:=C.P) (w:=w) hu (v:=v) (off:=off) h2 g2.1.length (by simpa using q1) g2.1.oneCell;have hbo:b∈own s:=by grind
  generalize hW:w.setRow b ((cs.toArray).toList.take off++v.cells.toList++(cs.toArray).toList.drop (off+u.size)).toArray=W at hrun;have r2:qaA (fun k=>k=b) w W:=by rw[←hW];exact qcR _ h2
  have hheap:W.heap[b]? =some (.cells ((cs.toArray).toList.take off++v.cells.toList++(cs.toArray).toList.drop (off+u.size)).toArray te (0,0)):=by rw[←hW];exact setRow_heap w b _ _ te _ h2
  have hfree:∀x,C.free w own x→x≠b:=fun x hx e=>hx.2.2 s (e▸hbo);have hF:∀b',C.free w own b'→b'<w.heap.size→C.free w own b'∧b'<W.heap.size∧W.heap[b']? =w.heap[b']? :=fun b' hb' hl=>⟨hb',zaq hl r2.size,r2.block b' hl (hfree b' hb')⟩;have hsn:s∉cus.map (·.s):=by simpa using hnc
  have hbn:b∉nb:=fun hm=>by
   rcases g7 b hm with h1|⟨u',hm',h1⟩
   ·exact hne (h.apart s E.hs b hbo h1)
   ·exact hsn (h.apart s u'.s b hbo h1▸List.mem_map_of_mem hm')
  rw[hrun]at hx;split at he
  ·rename_i h0;have h0:cus=[]:=List.isEmpty_iff.1 h0;have:=Q.yb he;injection this with this;subst this;obtain⟨gh2,_,_,y2,_,_,_,_,y7⟩:=hx0;have e:=y7 h0;subst e;refine qdI hx ?_;rw[hput];refine h.oneU (bs:=[b]) (hd ⟨s,true,.hbox z.1 z.2⟩ (by simp)) rfl (fun _ _=>rfl) (r2.mono fun k hk=>by grind) ⟨fun b' hb'=>.inr (by grind),by simp⟩ ⟨rfl,rfl⟩ fun X' x1 x2 x3 x4 x5=>?_;refine⟨b,_,te,hpb,by rw[x4];exact hheap,?_,rfl⟩;rw[x3,x4];simp only[List.toList_toArray];exact(h3.put y2.1 hz).2.keep (fun b' hb' hl=>⟨x5 b' hb',(hF b' hb' hl).2⟩) (qaJ.refl _)
  have:=Q.yb he;injection this with this;subst this;refine qdI hx ?_;rw[hput];refine h.heapT (hnp:=hnp) g5 [⟨s,true,.hbox z.1 z.2⟩] [b] (.inr ⟨s,_,rfl,hne,hsn,⟨rfl,rfl⟩,rfl,fun _ _=>rfl⟩) g1 hd (r2.mono fun k hk=>.inr ⟨⟨s,true,.hbox z.1 z.2⟩,by simp,by grind⟩) g3
   (qL.keep hF rfl (fun b' hb' hl=>r2.block b' hl fun e=>hbn (e▸hb')) g4) (fun b' hb'=>(hF b' hb' hb'.2.1).2) ⟨g6,by simp,fun b' hb' hm=>hbn (by grind),fun b' hb'=>?_⟩ (fun u' hu' X' x1 x2 x3 x4 x5=>?_)
  ·rcases hb' with hb'|⟨_,hb'⟩
   ·grind
   simp_all
  ·rw[zah]at hu';subst hu';refine⟨b,_,te,hpb,by rw[x4];exact hheap,?_,rfl⟩;rw[x3,x4];simp only[List.toList_toArray];exact q2.keep (fun b' hb' hl=>⟨x5 b' hb',(hF b' hb' hl).2⟩) (qaJ.refl _)
end
end Go.Vi
namespace Go.Vi
open Go.RowKit
section
variable {C:Ctx}{E:Env}{σ:St}{tm:Array Value}{a:Act}{w w':World}{own:Own}{o:Oper}{p:qdU} [Tabbed E C]
theorem qnD (h:qK C σ a.tmps w own) (hnp:qil C w own (a.tmps.getD E.hs undef)) {t:Nat}{T:Ty}{y:T.den}{ps:List qQ}{us:List U}{gh':Nat→Nat→Option Value}{nb:List Nat}{cs:List Value}(g1:qaJ own.gh gh') (g2:qa6 w (C.free w own) gh' T y cs) (g3:(ps.map (·.k)).Nodup) (g4:qL w (C.free w own) gh' ps nb)
  (g5:qtk E us) (g6:nb.Nodup) (g7:∀b∈nb,b∈own E.hs∨∃u∈us,b∈own u.s) (g8:us=[]→gh'=own.gh) {f:Eff}(he:(qtZ E o t T y ps us).run (qj σ)=some (some f)) (hd:∀u∈f.upd,u.s<σ.length)
  (hx:(execOp a.eval o).run C.P w=.ok (.value (ptr w.heap.size 0)) (w.alloc (.cells cs.toArray t))):qb5 C o a w (qh σ f.upd):=by
 have hold:∀k,k<w.heap.size→(w.alloc (.cells cs.toArray t)).heap[k]? =w.heap[k]? :=fun k hk=>qef w _ _ hk;have hsz:(w.alloc (.cells cs.toArray t)).heap.size=w.heap.size+1:=by simp
 have hnew:(w.alloc (.cells cs.toArray t)).heap[w.heap.size]? =some (.cells cs.toArray t (0,0)):=heap_alloc_new w _;have hk:qaA (fun _=>False) w (w.alloc (.cells cs.toArray t)):=qaA.alloc _ _ _;have hF:∀b,C.free w own b→b<w.heap.size→C.free w own b∧b<(w.alloc (.cells cs.toArray t)).heap.size∧(w.alloc (.cells cs.toArray t)).heap[b]? =w.heap[b]? :=fun b hb hl=>⟨hb,by omega,hold b hl⟩;have hnlt:∀b∈nb,b<w.heap.size:=fun b hb=>by
  rcases g7 b hb with h1|⟨u,_,h1⟩<;>exact(h.mine _ b h1).2
 have g4':=qL.keep hF (gh':=gh') rfl (fun b hb hl=>hold b hl) g4;unfold qtZ at he;split at he;case h_2=>cases he
 rename_i d hdst;split at he;case isFalse=>cases he
 rename_i hcond;obtain⟨hdne,hdu⟩:=hcond;have hdu:d∉us.map (·.s):=by simpa using hdu
 split at he
 ·rename_i k hk';split at he;case h_2=>cases he
  rename_i q hq;split at he;case isFalse=>cases he
  rename_i hqt;split at he;case h_2=>cases he
  rename_i z hz;obtain⟨e1,e2⟩:=Ty.yd hz;subst e1;have e2:y=z:=e2;subst e2;have:=Q.yb he;injection this with this;subst this;have hlen:=g2.length;have qN:qI (w.alloc (.cells cs.toArray t)) (C.free w own) gh' q.et q.e [y] (.slice (some ⟨w.heap.size,0,none⟩) 1 1) [w.heap.size]:=by
   refine⟨cs,⟨by grind,.inr ⟨w.heap.size,1,cs.toArray,rfl,zaD _,by grind,zax _,by decide,by grind,?_⟩⟩,rfl,fun i x hi=>?_⟩
   ·grind [zan]
   ·cases i with
    |zero=>
     injection hi with hi;subst hi;rw[Nat.zero_mul,zaN,zan (by omega)];exact g2.keep hF (qaJ.refl _)
    |succ i=>cases hi
  obtain⟨b1,b2,b3,n1,n2,n3⟩:=g4'.add g3 hq qN;have hkk:=(qcF hq).1;refine qt hx ?_;rw[qdG a hdst];have hN:w.heap.size∉nb:=fun hm=>by grind
  have hperm:(b1++((b2++[w.heap.size])++b3)).Perm (w.heap.size::nb):=by
   grind
  refine h.heapT (hnp:=hnp) g5 [⟨d,true,.hv (.ptr k q.e.size) (qn q.rows,0)⟩] [] (.inr ⟨d,_,rfl,hdne,hdu,⟨rfl,rfl⟩,by simp,fun s hs=>qay _ _ hs⟩) (fun k' i v hv=>n2.1 _ _ _ (g1 _ _ _ hv)) hd (hk.mono fun _ h=>h.elim) (by rw[qe5];exact g3) n3
   (fun b hb=>(hF b hb hb.2.1).2) ⟨hperm.nodup_iff.2 (zaJ.2 ⟨hN,g6⟩),zaA,fun _ _=>(by simp),fun b hb=>?_⟩ (fun u hu X' x1 x2 x3 x4 x5=>?_)
  ·rcases hb with hb|hb
   ·rcases zak.1 (hperm.mem_iff.1 hb)with rfl|hb;all_goals grind
   ·cases hb.2
  ·rw[zah]at hu;subst hu;have hdl:d<σ.length:=hd ⟨d,true,.hv (.ptr k q.e.size) (qn q.rows,0)⟩ (by simp);show qS X' _ ((a.tmps.setIfInBounds d (ptr w.heap.size 0)).getD d undef) [];rw[qbn _ _ (by rw[h.size];exact hdl)];refine⟨rfl,⟨ptr w.heap.size 0,rfl,.inr ⟨?_,zaF _,w.heap.size,1,1,?_,Int.zero_lt_one,?_⟩⟩,fun h=>(by cases h),fun _ cs h=>by cases h⟩;all_goals grind [zat,qd3,qn]
 ·rename_i hob;split at he
  ·rename_i h0;have h0:=g8 (List.isEmpty_iff.1 h0);subst h0;have:=Q.yb he;injection this with this;subst this;refine qt hx ?_;rw[qdG a hdst];have hdl:d<σ.length:=hd ⟨d,true,.hbox T y⟩ (by simp);refine h.oneU (bs:=[w.heap.size]) hdl (by simp) (fun s hs=>qay _ _ hs) (hk.mono fun _ h=>h.elim) ⟨fun b hb=>?_,by simp⟩ ⟨rfl,rfl⟩ fun X' x1 x2 x3 x4 x5=>?_
   ·grind
   ·rw[qbn _ _ (by rw[h.size];exact hdl)];refine⟨w.heap.size,cs,t,rfl,by grind,?_,rfl⟩;rw[x3,x4];exact g2.keep (fun b' hb' hl=>⟨x5 b' hb',(hF b' hb' hl).2⟩) (qaJ.refl _)
  have:=Q.yb he;injection this with this;subst this;refine qt hx ?_;rw[qdG a hdst];refine h.heapT (hnp:=hnp) g5 [⟨d,true,.hbox T y⟩] [w.heap.size] (.inr ⟨d,_,rfl,hdne,hdu,⟨rfl,rfl⟩,by simp,fun s hs=>qay _ _ hs⟩) g1 hd (hk.mono fun _ h=>h.elim) g3 g4'
   (fun b hb=>(hF b hb hb.2.1).2) ⟨g6,by simp,fun b hb hm=>?_,fun b hb=>?_⟩ (fun u hu X' x1 x2 x3 x4 x5=>?_)
  ·grind
  ·grind
  ·rw[zah]at hu;subst hu;have hdl:d<σ.length:=hd ⟨d,true,.hbox T y⟩ (by simp);show qS X' _ ((a.tmps.setIfInBounds d (ptr w.heap.size 0)).getD d undef) [w.heap.size];rw[qbn _ _ (by rw[h.size];exact hdl)];refine⟨w.heap.size,cs,t,rfl,by grind,?_,rfl⟩;rw[x3,x4];exact g2.keep (fun b' hb' hl=>⟨x5 b' hb',(hF b' hb' hl).2⟩) (qaJ.refl _)
theorem qqC (h:qK C σ a.tmps w own) {t:Nat}{T:Ty}{y:T.den}{cs:List Value}(g2:qa6 w (C.free w own) own.gh T y cs) {f:Eff}(he:(qtA o T y).run (qj σ)=some (some f)) (hd:∀u∈f.upd,u.s<σ.length)
  (hx:(execOp a.eval o).run C.P w=.ok (.value (ptr w.heap.size 0)) (w.alloc (.cells cs.toArray t))):qb5 C o a w (qh σ f.upd):=by
 unfold qtA at he;split at he;case h_2=>cases he
 rename_i d hdst;have:=Q.yb he;injection this with this;subst this;have hsz:(w.alloc (.cells cs.toArray t)).heap.size=w.heap.size+1:=by simp
 have hold:∀k,k<w.heap.size→(w.alloc (.cells cs.toArray t)).heap[k]? =w.heap[k]? :=fun k hk=>qef w _ _ hk;refine qt hx ?_;rw[qdG a hdst];have hdl:d<σ.length:=hd ⟨d,true,.hbox T y⟩ (by simp);refine h.oneU (bs:=[w.heap.size]) hdl (by simp) (fun s hs=>qay _ _ hs) ((qaA.alloc _ _ _).mono fun _ (h:False)=>h.elim) ⟨fun b hb=>?_,by simp⟩ ⟨rfl,rfl⟩ fun X' x1 x2 x3 x4 x5=>?_
 ·grind
 ·rw[qbn _ _ (by rw[h.size];exact hdl)];refine⟨w.heap.size,cs,t,rfl,by grind [heap_alloc_new],?_,rfl⟩;rw[x3,x4];exact g2.keep (fun b' hb' hl=>⟨x5 b' hb',by omega,hold b' hl⟩) (qaJ.refl _)
theorem qqT (hE:qad E C.P) (h:qK C σ a.tmps w own) {t:Nat}{f:Eff}(he:(qpH E o t).run (qj σ)=some (some f)) (hd:∀u∈f.upd,u.s<σ.length)
  (hx:∀i z,C.P.info? t=some i→i.zero=some z→(execOp a.eval o).run C.P w=.ok (.value (ptr w.heap.size 0)) (w.alloc (.cells z.cells t))):qb5 C o a w (qh σ f.upd):=by
 unfold qpH at he;split at he;case h_2=>cases Q.yb he
 rename_i T hT;split at he
 ·cases Q.yb he
 obtain⟨i,z,k1,k2,k3⟩:=hE.heap.zero t T hT;split at he
 ·exact qqC h (k3 _ _ _) he hd (by simpa using hx i z k1 k2)
 obtain⟨ps,hps,he⟩:=Q.ya he;obtain⟨hs,hn,hh,hnp⟩:=qb7 h hps;exact qnD h hnp (qaJ.refl _) (k3 _ _ _) hn hh qtk.nil (h.nodup _) (fun b hb=>.inl hb) (fun _=>rfl) he hd (by simp_all)
theorem qp7 (hE:qad E C.P) (h:qK C σ a.tmps w own) {t:Nat}{x1:Op1}{v:Value}(ho:qaC (sit C σ a.tmps w own) x1 v) {f:Eff}(he:(qtE E o t x1).run (qj σ)=some (some f)) (hd:∀u∈f.upd,u.s<σ.length)
  (hx:(execOp a.eval o).run C.P w=.ok (.value (ptr w.heap.size 0)) (w.alloc (.cells v.cells t))):qb5 C o a w (qh σ f.upd):=by
 unfold qtE at he;split at he;case h_2=>cases Q.yb he
 rename_i T hT;split at he
 ·cases Q.yb he
 split at he
 ·rename_i hq;obtain⟨c,hcc,he⟩:=Q.ya he;exact qqC h (qrL hE h ho hq.2 hcc).2.1 he hd (by simpa using hx)
 obtain⟨ps,hps,he⟩:=Q.ya he;obtain⟨hs,hn,hh,hnp⟩:=qb7 h hps;obtain⟨c,hcc,he⟩:=Q.ya he;obtain⟨_,hlen,hpo⟩:=qk2 hE h hn hh ho hcc;by_cases hu:c.2.2=[]
 ·obtain⟨gh',nb,g1,g2,g3,g4,g5,g6,g7⟩:=hpo;have e:=g7 hu;subst e;rw[hu]at g5;have hnd:nb.Perm (own E.hs):=by simpa using g5
  exact qnD h hnp g1 g2.1 g3 g4 (by rw[hu];exact qtk.nil) (hnd.nodup_iff.2 (h.nodup _)) (fun b hb=>.inl (hnd.mem_iff.1 hb)) (fun _=>rfl) he hd (by simpa using hx)
 obtain⟨gh',nb,g1,g2,g3,g4,g5,g6,g7⟩:=hpo.nodup h (qe4 hlen);exact qnD h hnp g1 g2.1 g3 g4 g5 g6 g7 (fun e=>absurd e hu) he hd (by simpa using hx)
theorem qre (hE:qad E C.P) (h:qK C σ a.tmps w own) {t fl:Nat}{x1:Op1}{v:Value}(ho:qaC (sit C σ a.tmps w own) x1 v) {f:Eff}(he:(qpR E o t fl x1).run (qj σ)=some (some f)) (hd:∀u∈f.upd,u.s<σ.length)
  (hx:(execOp a.eval o).run C.P w=((Instr.field t v fl).run C.P w).andThen fun v w'=>.ok (.value v) w'):qb5 C o a w (qh σ f.upd):=by
 unfold qpR at he;split at he;case h_2=>cases Q.yb he
 rename_i T y ha;split at he;case h_2=>cases he
 rename_i T' off u h1 h2 h3;split at he;case isFalse=>cases he
 rename_i hTT;subst hTT;split at he;case h_2=>cases he
 rename_i z hz;have:=Q.yb he;injection this with this;subst this;have hr:=ho.unowned (by rw[ha];rfl);rw[ha]at hr;obtain⟨fs,fd,k1,k2,k3,k4,_⟩:=hE.off t fl off h2;obtain⟨q1,q2⟩:=hr.2.1.sub hz;have hag:T'.agg=true:=by
  obtain⟨d,d1,d2⟩:=(hE.heap.ty t T' h1).desc;grind
 obtain⟨cs,ecs⟩:=hr.2.2.1 hag;obtain⟨r1,r2⟩:=qfg (X:=sit C σ a.tmps w own) (qb3.ofCells q2);refine qt (v:=mkV u ((v.cells.toList.drop off).take u.size)) ?_ (h.dst0 hd r1 (fun m hm=>by grind) (by unfold qjy;split<;>rfl));rw[hx];simp only[Sem.run_bind,Instr.field,run_underlying k1,Result.andThen_ok,k2,ecs,asAgg,Sem.run_pure];rw[ecs]at q1;have hl:off+u.size≤cs.toList.length:=by simpa[Value.cells]using q1
 have:=(qn3 hE h3).run_part (w:=w) (cs:=cs.toList) (off:=off) hl;simp_all [Value.cells]
theorem qe2.form {gh:Nat→Nat→Option Value}{k sz:Nat}{s:Int×(Int×Int)}{v:Value}(h:qe2 gh k sz s v):∃A n c,v=.slice A n c∧(n:Int)=s.2.2-s.2.1∧n≤c∧n≤maxLen:=by
 rcases h with⟨_,h1,h2,rfl⟩|⟨h0,h1,h2,ad,n,cap,_,⟨h3,h4,_⟩,h5,rfl|⟨_,h6,A,c,rfl⟩⟩
 ·grind
 ·exact⟨_,_,_,rfl,by omega,by omega,by omega⟩
 grind
theorem quq (h:qK C σ a.tmps w own) {t:Nat}{x1:Op1}{v:Value}(ho:qaC (sit C σ a.tmps w own) x1 v) {f:Eff}(he:(qvO o x1).run (qj σ)=some (some f)) (hd:∀u∈f.upd,u.s<σ.length)
  (hx:∃ty cs,(execOp a.eval o).run C.P w=(builtin .len #[t] ty cs #[v]).run C.P w) (ht:C.P.underlying t=some (.slice (E.etid t))):qb5 C o a w (qh σ f.upd):=by
 unfold qvO at he;split at he;case h_2=>cases Q.yb he
 rename_i k sz s hq;have:=Q.yb he;injection this with this;subst this;obtain⟨A,n,c,rfl,h1,h2,h3⟩:=(qf6 ho hq).form;obtain⟨ty,cs,hx⟩:=hx;refine qaH h (v:= .int .i64 n) ?_ hd ?_
 ·rw[hx];simp[builtin,Builtin.len_,run_underlying ht,goInt]
 ·rw[qdF,←h1];exact .ofInt _ _ (qgP h3)
theorem qhg (hE:qad E C.P) (h:qK C σ a.tmps w own) {t:Nat}{x1:Op1}{v:Value}(ho:qaC (sit C σ a.tmps w own) x1 v) {lo hi:Option Op1}{vl vh:Option Value}(hlo:(lo=none∧vl=none)∨∃b' v',lo=some b'∧vl=some v'∧qaC (sit C σ a.tmps w own) b' v')
  (hhi:(hi=none∧vh=none)∨∃b' v',hi=some b'∧vh=some v'∧qaC (sit C σ a.tmps w own) b' v') {k0 sz0:Nat}(ht:E.hty t=some (.sl k0 sz0)) (hsz:∀k sz s,qqt x1=some (k,sz,s)→sz=sz0) {f:Eff}
  (he:(qji E o x1 lo hi).run (qj σ)=some (some f)) (hd:∀u∈f.upd,u.s<σ.length) (hc:qb9 f.chk) (hx:(execOp a.eval o).run C.P w=((Instr.sliceAt t v vl vh none).run C.P w).andThen fun v w=>.ok (.value v) w):qb5 C o a w (qh σ f.upd):=by
 unfold qji at he;split at he;case h_2=>cases Q.yb he
 rename_i k sz s hq;obtain⟨l,h1,he⟩:=Q.ya he;obtain⟨u,h2,he⟩:=Q.ya he;suffices qdR:0≤l→l≤u→(∀A n c,v=.slice A n c→u≤(c:Int))→(∀ad m cap,own.gh k s.1.toNat=some (.slice ad m cap)→s.2.2≤(m:Int)→s.2.1+u≤(m:Int))→(u≤s.2.2-s.2.1∨s.2.1≤0)→(∀u'∈qaL o (.hv (.sl k sz) (s.1,(qX s.2.1 l,qX s.2.1 u))),u'.s<σ.length)→qb5 C o a w (qh σ (qaL o (.hv (.sl k sz) (s.1,(qX s.2.1 l,qX s.2.1 u))))) by
  have hrep:=qf6 ho hq;split at he
  ·have:=Q.yb he;injection this with this;subst this;have hb:=hc _ (zah.2 rfl);rw[qhS,qdF]at hb;simp only[zad,decide_eq_true_eq]at hb;obtain⟨b0,b1,b2⟩:=hb;obtain⟨A,n,c,hv,f1,f2,f3⟩:=hrep.form;grind
  ·obtain⟨ps,hps,he⟩:=Q.ya he;obtain⟨hs,hn,hh,hnp⟩:=qb7 h hps;split at he;case h_2=>cases he
   rename_i q hq';have:=Q.yb he;injection this with this;subst this;have hrow':=qgU (d:=[]) (hc _ (zaj _ zar));have hb:=hc _ zar;have hz:=hc _ (zaj _ (zaj _ zar));generalize qy (qN q.rows s.1) []=xs at hrow' hb;rw[qhS,qdF,qv]at hb;rw[qdZ]at hz;simp only[zad,decide_eq_true_eq]at hb hz;obtain⟨b0,b1,b2⟩:=hb;obtain⟨b1',b2',b3',e1,p2,_⟩:=hh.find hn hq';obtain⟨hd',c1,c2,c3,m1,m2,m3,_⟩:=p2.row hrow';obtain⟨ad',cap',e2,e3,_⟩:=m3.form;have hk:=(qcF hq').1;rw[hk,e2]at m1;have hh0:=(qbN hrow').1;refine qdR b0 b1 (fun A' n' c' e=>?_) (fun ad m cap hg _=>?_) (.inr hz) hd
   ·rcases hrep with⟨g0,_⟩|⟨g0,g1,g2,ad,m,cap,g3,g4,g5,g6⟩;all_goals grind [sit,sliced]
   grind
 intro b0 b1 hfit hm' hlast hd;obtain⟨q1,q2⟩:=hE.heap.sl t k0 sz0 ht;have hsz:=hsz _ _ _ hq;subst hsz;have hrep:=qf6 ho hq;obtain⟨A,n,c,rfl,f1,f2,f3⟩:=hrep.form;have hl:=qdl h hlo h1;have hh:=qdl h hhi h2;rw[qdF,←f1]at hh;have hfit:=hfit A n c rfl;have hrun:=qhG (w:=w) q1 q2 (ad:=A) hl hh b0 b1 hfit;refine qt (v:=sliced A l.toNat u.toNat c sz) (by rw[hx,hrun];rfl) (h.dst0 hd ⟨rfl,⟨sliced A l.toNat u.toNat c sz,?_,?_⟩,fun h=>(by cases h),fun _ cs h=>by cases h⟩ fun m hm=>by cases hm)
 ·rfl
 rw[qed,qed];rcases hrep with⟨g0,g1,g2,g3⟩|⟨g0,g1,g2,ad,m,cap,g3,g4,g5,g6⟩
 ·injection g3 with g3 g3n g3c;subst g3;have e2:u=0:=by omega
  have e1:l=0:=by omega
  refine .inl ⟨g0,by grind,by grind,?_⟩;rw[e1,e2,g3c];rfl
 ·have hmu:=hm' _ _ _ g3 g5;refine .inr ⟨g0,by grind,by grind,ad,m,cap,g3,g4,by omega,?_⟩;by_cases hz:0<s.2.1+l∧l=u
  ·refine .inr ⟨hz.1,by grind,?_⟩;obtain⟨A0,rfl⟩:∃A0,A=some A0:=by
    rcases g6 with g6|⟨_,_,A0,_,g6⟩
    ·obtain⟨g,rfl⟩:=g4.2.2.resolve_left (by omega);unfold sliced at g6;grind
    grind
   refine⟨if c=l.toNat then A0 else A0.add (l.toNat*sz),c-l.toNat,?_⟩;unfold sliced;rw[show u.toNat-l.toNat=0 by omega];split<;>rfl
  ·left;rcases g6 with g6|⟨p1,p2,_⟩
   ·unfold sliced at g6⊢
    injection g6 with e1 e2 e3;show Value.slice _ _ _=Value.slice _ _ _;have a1:(s.2.1+u).toNat-(s.2.1+l).toNat=u.toNat-l.toNat:=by omega
    have a2:cap-(s.2.1+l).toNat=c-l.toNat:=by omega
    rw[a1,a2];congr 1;by_cases hl0:s.2.1+l=0
    ·have k1:s.2.1=0:=by omega
     have k2:l=0:=by omega
     rw[e1,k1,k2];simp only[Int.toNat_zero,Int.add_zero];by_cases hc0:cap=0
     ·grind
     ·have:c≠0:=by omega
      simp only[if_neg hc0,if_neg this];cases ad with
      |none=>rfl
      |some x=>simp[Addr.add]
    ·have hlu:l<u:=by omega
     have hc1:¬cap=s.2.1.toNat:=by omega
     have hc2:¬c=l.toNat:=by omega
     have hc3:¬cap=(s.2.1+l).toNat:=by omega
     rw[if_neg hc2,if_neg hc3,e1,if_neg hc1];cases ad with
     |none=>rfl
     |some x=>
      simp only[Option.map_some,qbi,←zaS];rw[show s.2.1.toNat+l.toNat=(s.2.1+l).toNat by omega]
   omega
end
end Go.Vi
