/- The abstract interpreter: appending, the built-in functions. -/
import Derived.Test.YtfcdfdnlgfebmaaGreatDoorViOp7
import Derived.Lib.AppendZeros
import Derived.Lib.AppendStr
import Derived.Laws.CopyRow
import Derived.Laws.BitsLemmas
set_option linter.unusedVariables false
set_option linter.unusedSimpArgs false
set_option linter.unnecessarySimpa false
set_option linter.unusedSectionVars false
namespace Go.Vi
open Go.RowKit
section
variable {C:Ctx} {E:Env} {σ:St} {tm:Array Value} {a:Act} {w w':World} {own:Nat→List Nat} {o:Oper} {p:qhl} [Tabbed E C]
def quS (C:Ctx) (σ:St) (tm:Array Value) (w:World) (own:Nat→List Nat) (ro:Option (Nat×AV)) (b2:List Nat):Prop:=
 match ro with
 |none=>b2=[]
 |some p=>p.1<σ.length∧p.2.mentions=[]∧∃b1 b3,own p.1=b1++(b2++b3)∧∀W,qcx (fun k=>k∈b2) w W→qaF { sit C σ tm w own with w:=W } p.2 (tm.getD p.1 undef) (b1++b3)
theorem qlo (h:qag C σ a.tmps w own) {o1:Op1} {v:Value} (ho:qb3 (sit C σ a.tmps w own) o1 v) (hs:∀s,o1.s=some s→o1.a≠ .undef→s<σ.length) {r:Option (Nat×AV)×Nat×((e:Ty)×List e.den)} (he:(qk4 o1).run (qt σ)=some r):
  ∃b2,q7 w (C.free w own) r.2.1 r.2.2.1 r.2.2.2 v b2∧quS C σ a.tmps w own r.1 b2:=by
 obtain ⟨os,ov,oa⟩:=o1
 unfold qk4 at he
 cases oa with
 |own et e xs=>
  have:=Q.ret_some he
  subst this
  cases os with
  |none=>exact ⟨[],ho,rfl⟩
  |some s=>exact ⟨own s,ho.2.2,hs s rfl (by simp),rfl,[],[],by simp,fun W _=>trivial⟩
 |nilr et e=>
  have:=Q.ret_some he
  subst this
  rw [(ho.unowned rfl).2]
  exact ⟨[],q7.nil_ w _ et e,rfl⟩
 |ref s v0=>
  simp only [Q.run_get] at he
  split at he
  ·rename_i hv
   have hu:a.tmps.getD s undef=v:=(ho.unowned rfl).2 hv
   have hat:=h.at_ s
   rw [hu] at hat
   split at he
   ·rename_i et e xs h3
    rw [h3] at hat
    have:=Q.ret_some he
    subst this
    refine ⟨own s,hat,?_,rfl,[],[],by simp,fun W _=>trivial⟩
    by_cases hlt:s<σ.length
    ·exact hlt
    ·have:qt σ s=(0,.undef):=by simp [qt,List.getD,List.getElem?_eq_none (Nat.le_of_not_lt hlt)]
     rw [this] at h3
     cases h3
   ·cases he
  ·cases he
 |bref s v0 off u=>
  simp only at he
  split at he
  ·rename_i hag
   rw [Q.run_get] at he
   split at he
   ·rename_i hv
    split at he
    ·rename_i r0 a0 h3 h4
     obtain ⟨et,e,xs⟩:=r0
     have:=Q.ret_some he
     subst this
     obtain ⟨hlt,b1,b2,b3,q1,q2,q3,q4⟩:=h.rowAt h3 (qiz (ho.unowned rfl) hag hv)
     obtain ⟨_,hm⟩:=q4 w (.hole 1) [] a0 (qcx.refl _ _) ⟨rfl,rfl⟩ h4
     exact ⟨b2,q1,hlt,hm,b1,b3,q2,fun W hk=>(q4 W (.hole 1) [] a0 hk ⟨rfl,rfl⟩ h4).1⟩
    ·cases he
   ·cases he
  ·cases he
 |_=>cases he
theorem qrq {P:Program} {t ty e:Nat} {i:TypeInfo} {z:Value} {size bytes:Nat} (ht:P.underlying t=some (.slice e)) (hi:P.info? e=some i) (hz:i.zero=some z)
  (hsize:i.size=size) (hby:i.bytes=bytes) (hzs:z.cells.size=size) (hsz:0<size) {v:Value} {n:Nat} {xs:List Value} (hown:w.ownsRow 0 e size v n xs)
  {ad:Addr} {m c:Nat} {news:List Value} (hl:news.length=m * size) (hnews:∀j u,news[j]? =some u→w.cell? (ad.add j)=some u) (h1:∀u∈news,u.oneCell'=true)
  (h63:n+m≤maxLen) (hbytes:(n+m) * bytes≤140737488355328):
  ∃v' w',(Builtin.append_ #[t,t] ty #[v,.slice (some ad) m c]).run P w= .ok v' w'∧w'.ownsRow 0 e size v' (n+m) (xs++news)∧w.grownBy w' v.ownBlock∧
   ∀b∈v'.ownBlock.toList,(w.heap.size≤b∧b<w'.heap.size)∨b∈v.ownBlock.toList:=by
 obtain ⟨v',w',k1,k2,k3,k4⟩:=run_append_own (P:=P) w 0 t ty e i z size bytes ht hi hz hsize hby hzs hsz v n xs hown ad m c news hl hnews h1 h63 hbytes (Nat.zero_le _)
 refine ⟨v',w',k1,k2,k3,?_⟩
 subst hsize
 subst hby
 have hsmall:n+m≤9223372036854775807:=by simp only [maxLen] at h63; omega
 have fresh:∀ {cap:Nat} {o:Obj} {w1:World},w1.heap.size=w.heap.size→(Builtin.append_ #[t,t] ty #[v,.slice (some ad) m c]).run P w= .ok (.slice (some ⟨w.heap.size,0,none⟩) (n+m) cap) (w1.alloc o)→∀b∈v'.ownBlock.toList,(w.heap.size≤b∧b<w'.heap.size)∨b∈v.ownBlock.toList:=by
  intro cap o w1 hs hr b hb
  rw [hr] at k1
  injection k1 with e1 e2
  subst e1
  subst e2
  simp [Value.ownBlock] at hb
  subst hb
  exact .inl ⟨Nat.le_refl _,by simp [hs]⟩
 rcases hown.2 with ⟨rfl,rfl⟩|⟨g,cap,cur,rfl,hbg,hg,hnc,hcm,hcs,htake⟩
 ·have hx:xs=[]:=List.eq_nil_of_length_eq_zero (by simpa using hown.1)
  by_cases hm:m=0
  ·have:=(k4.2 ⟨rfl,hm⟩)
   subst this
   intro b hb
   cases hb
  ·have hr:=run_append_nil (P:=P) w t ty e i z ht hi hz ad m c news hl hnews (by omega) (by omega) (by have hb:=hbytes; simp only [Nat.zero_add] at hb; omega)
   exact fresh (w1:=w.drew) (cap:=grownCap w m 0 e) (by rfl) (by rw [hr,Nat.zero_add])
 ·by_cases hroom:n+m≤cap
  ·have hfit:n * i.size+news.length≤cur.size:=by rw [hl,hcs,←Nat.add_mul]; exact Nat.mul_le_mul_right _ hroom
   have hr:=run_append_room (P:=P) w t ty e i ht hi g n cap cur hg ad m c news hl hnews h1 hroom hfit
   rw [hr] at k1
   injection k1 with e1 e2
   subst e1
   intro b hb
   exact .inr hb
  ·have holds:∀j u,xs[j]? =some u→w.cell? ((⟨g,0,none⟩:Addr).add j)=some u:=hown.cells (g:=g) rfl
   have hr:=run_append_grow (P:=P) w t ty e i z ht hi hz ⟨g,0,none⟩ n cap xs hown.1 holds ad m c news hl hnews (by omega) (by omega) (growslice_fits (by omega) hbytes)
   exact fresh (w1:=w.drew) (by rfl) hr
theorem qmM (h:qag C σ a.tmps w own) {d et:Nat} {e:Ty} {xs zs:List e.den} {ro:Option (Nat×AV)} {x:Value} {cells:List Value} (hdst:o.dst=some d) (c6:ro.map (·.1)≠some d) (hdl:d<σ.length)
  (hleft:quS C σ a.tmps w own ro x.ownBlock.toList) (g1:w.ownsRow 0 et e.size x xs.length cells) (g3:∀(i:Nat) (u:e.den),xs[i]? =some u→Rep w (C.free w own) e u ((cells.drop (i * e.size)).take e.size))
  (key:∃v' w' news,(execOp a.eval o).run C.P w= .ok (.value v') w'∧w'.ownsRow 0 et e.size v' (xs.length+zs.length) (cells++news)∧w.grownBy w' x.ownBlock∧
   (∀b∈v'.ownBlock.toList,(w.heap.size≤b∧b<w'.heap.size)∨b∈x.ownBlock.toList)∧(∀(i:Nat) (u:e.den),zs[i]? =some u→Rep w (C.free w own) e u ((news.drop (i * e.size)).take e.size))):
  qdT C o a w (qr σ (qve ro++[⟨d,true,.own et e (qf3 xs zs)⟩])):=by
 obtain ⟨v',w',news,a1,a2,a3,a4,a5⟩:=key
 refine qK (v:=v') (w':=w') a1 ?_
 rw [qiR a hdst]
 have hkept:qcx (fun k=>k∈x.ownBlock.toList) w w':=(qcx.grown a3).mono fun k hk=>by rw [←hk]; simp
 have hnot:∀b,C.free w own b→some b≠x.ownBlock:=fun b hb e=>by
  cases ro with
  |none=>
   have:x.ownBlock.toList=[]:=hleft
   rw [←e] at this
   cases this
  |some p=>
   obtain ⟨_,_,b1,b3,q2,_⟩:=hleft
   refine hb.2.2 p.1 ?_
   rw [q2,←e]
   exact List.mem_append_right _ (List.mem_append_left _ (by simp))
 have hfree:∀b,C.free w own b→b<w.heap.size→(C.free w own b)∧b<w'.heap.size∧w'.heap[b]? =w.heap[b]? :=fun b hb hlt=>⟨hb,Nat.lt_of_lt_of_le hlt a3.size,a3.block b hlt (hnot b hb)⟩
 have hnd:v'.ownBlock.toList.Nodup:=by cases v'.ownBlock <;> simp
 have hrow:q7 w' (C.free w own) et e (qf3 xs zs) v' v'.ownBlock.toList:=by
  refine ⟨cells++news,by simpa [qbE] using a2,rfl,fun i u hi=> ?_⟩
  have hcl:cells.length=xs.length * e.size:=g1.1
  by_cases hlt:i<xs.length
  ·have hi':xs[i]? =some u:=by
    rw [qbE] at hi
    rwa [List.getElem?_append_left hlt] at hi
   have hle:(i+1) * e.size≤xs.length * e.size:=Nat.mul_le_mul_right _ hlt
   rw [Nat.add_mul,Nat.one_mul] at hle
   rw [qd8 (by omega)]
   exact (g3 i u hi').keep hfree
  ·have hi':zs[i - xs.length]? =some u:=by
    rw [qbE] at hi
    rwa [List.getElem?_append_right (by omega)] at hi
   have hle:xs.length * e.size≤i * e.size:=Nat.mul_le_mul_right _ (by omega)
   rw [qdw (by omega),hcl,←Nat.sub_mul]
   exact (a5 _ u hi').keep hfree
 cases ro with
 |none=>
  have h0:x.ownBlock.toList=[]:=hleft
  exact h.mut hdl [] (fun _ hx=>by cases hx) (hkept.mono fun k hk=>by rw [h0] at hk; cases hk) (av:= .own et e (qf3 xs zs)) (v:=v') (bs:=v'.ownBlock.toList) (fun b hb=>by
   rcases a4 b hb with h|h
   ·exact .inl h
   ·rw [h0] at h; cases h) hnd hrow rfl
 |some p=>
  obtain ⟨q0,qm,b1,b3,q2,q4⟩:=hleft
  have hne:p.1≠d:=fun e=>c6 (by rw [←e]; rfl)
  exact h.mut2 hdl q0 hne q2 (hkept.mono fun k hk=> .inr hk) (fun b hb=>by
   rcases a4 b hb with h|h
   ·exact .inl h
   ·exact .inr (.inr h)) hnd hrow rfl (q4 w' hkept) qm
theorem qrt (hE:qbG E C.P) (h:qag C σ a.tmps w own) {t:Nat} {x1 y1:Op1} {x y:Value} (hx:qb3 (sit C σ a.tmps w own) x1 x) (hxs:∀s,x1.s=some s→x1.a≠ .undef→s<σ.length) (hy:qb3 (sit C σ a.tmps w own) y1 y)
  {f:Eff} (he:(qpo E o t x1 y1).run (qt σ)=some f) (hd:∀u∈f.upd,u.s<σ.length) (hc:qd3 f.chk)
  (hr:∃ty,(execOp a.eval o).run C.P w=((Builtin.append_ #[t,t] ty #[x,y]).run C.P w).andThen fun v w=> .ok (.value v) w):qdT C o a w (qr σ f.upd):=by
 unfold qpo at he
 obtain ⟨r,h1,he⟩:=Q.bind_some he
 obtain ⟨q,h2,he⟩:=Q.bind_some he
 split at he
 case h_2=>cases he
 rename_i d hdst
 split at he
 case isFalse=>cases he
 rename_i hcond
 obtain ⟨c1,c2,c3,c4,c5,c6⟩:=hcond
 split at he
 case h_2=>cases he
 rename_i ys hys
 have:=Q.ret_some he
 subst this
 obtain ⟨bs,r1,r2⟩:=qlo h hx hxs h1
 have hrow:=quk h hy h2
 obtain ⟨i,z,k1,k2,k3,k4,k5,k6,k7⟩:=hE.elem' c1
 obtain ⟨ro,et,⟨e,xs⟩⟩:=r
 obtain ⟨⟨e',zs⟩,qo⟩:=q
 simp only at c1 c2 c3 c4 c5 c6 r1 r2 hrow hd hc hys k3 k5 k7⊢
 have hee:e'=e:=by
  obtain ⟨e1,_⟩:=Ty.as_some hys
  injection e1
 subst hee
 have hzs:zs=ys:=by
  obtain ⟨e1,e2⟩:=Ty.as_some hys
  exact e2
 subst hzs
 obtain ⟨cells,g1,g2,g3⟩:=r1
 obtain ⟨ty,hr⟩:=hr
 have hroom:((xs.length:Int)+(zs.length:Int)) * (E.bytes et:Int)≤140737488355328:=by
  have:=hc _ (List.mem_singleton.2 rfl)
  rw [qjF,qi,qi] at this
  exact of_decide_eq_true this
 have hbytes:(xs.length+zs.length) * E.bytes et≤140737488355328:=by
  have:(((xs.length+zs.length) * E.bytes et:Nat):Int)≤140737488355328:=by
   rw [Int.natCast_mul,Int.natCast_add]; exact hroom
  omega
 have h63:xs.length+zs.length≤maxLen:=by
  have:(xs.length+zs.length) * 1≤(xs.length+zs.length) * E.bytes et:=Nat.mul_le_mul_left _ (by omega)
  simp only [maxLen]; omega
 have hdl:d<σ.length:=hd ⟨d,true,.own et e' (qf3 xs zs)⟩ (by simp)
 rw [g2] at r2
 have key:∃v' w' news,(execOp a.eval o).run C.P w= .ok (.value v') w'∧w'.ownsRow 0 et e'.size v' (xs.length+zs.length) (cells++news)∧w.grownBy w' x.ownBlock∧
   (∀b∈v'.ownBlock.toList,(w.heap.size≤b∧b<w'.heap.size)∨b∈x.ownBlock.toList)∧(∀(i:Nat) (u:e'.den),zs[i]? =some u→Rep w (C.free w own) e' u ((news.drop (i * e'.size)).take e'.size)):=by
  rcases hrow with ⟨rfl,hz0⟩|⟨ad,cap,news,rfl,n1,n2,n3⟩
  ·have hz0:zs=[]:=hz0
   subst hz0
   refine ⟨x,w,[],?_,by simpa using g1,⟨rfl,rfl,rfl,Nat.le_refl _,fun _ _ _=>rfl⟩,fun b hb=> .inr hb,fun i u hi=>by cases hi⟩
   rw [hr]
   rw [run_append_owned_none (w:=w) 0 t ty et i e'.size (by rw [k1,c2]) (by rw [c2]; exact k2) x xs.length cells g1]
   rfl
  ·obtain ⟨v',w',a1,a2,a3,a4⟩:=qrq (P:=C.P) (t:=t) (ty:=ty) (e:=et) (i:=i) (z:=z) (size:=e'.size) (bytes:=E.bytes et) (by rw [k1,c2]) (by rw [c2]; exact k2) k4 k3 (by rw [k6,c2]) k5 (by omega) g1 (c:=cap) n1 n2 (by
    intro u hu
    obtain ⟨j,hj,rfl⟩:=List.getElem_of_mem hu
    have hpos:0<e'.size:=by omega
    have hjlt:j / e'.size<zs.length:=(Nat.div_lt_iff_lt_mul hpos).2 (by rw [←n1]; exact hj)
    have hrep:=n3 _ _ (List.getElem?_eq_getElem hjlt)
    have hm:=Nat.mod_lt j hpos
    have hdm:j / e'.size * e'.size+j % e'.size=j:=by rw [Nat.mul_comm]; exact Nat.div_add_mod j _
    refine hrep.oneCell _ (List.mem_of_getElem? (i:=j % e'.size) ?_)
    rw [List.getElem?_take,if_pos hm,List.getElem?_drop,hdm]
    exact List.getElem?_eq_getElem hj) h63 hbytes
   exact ⟨v',w',news,by rw [hr,a1]; rfl,a2,a3,a4,n3⟩
 exact qmM h hdst c6 hdl r2 g1 g3 key
theorem qpN {P:Program} {t u ty e:Nat} {i:TypeInfo} (ht:P.underlying t=some (.slice e)) (hu:P.underlying u=some .string) (hi:P.info? e=some i) (hz:i.zero=some (.int .u8 0))
  (hsize:i.size=1) (hby:i.bytes=1) {v:Value} {n:Nat} {xs:List Value} (hown:w.ownsRow 0 e 1 v n xs) (s:ByteArray) (h63:n+s.size≤maxLen) (hbytes:n+s.size≤140737488355328):
  ∃v' w',(Builtin.append_ #[t,u] ty #[v,.string s]).run P w= .ok v' w'∧w'.ownsRow 0 e 1 v' (n+s.size) (xs++Lib.strCells s)∧w.grownBy w' v.ownBlock∧
   ∀b∈v'.ownBlock.toList,(w.heap.size≤b∧b<w'.heap.size)∨b∈v.ownBlock.toList:=by
 obtain ⟨v',w',k1,k2,k3,k4⟩:=Lib.run_append_own_string (P:=P) w 0 t u ty e i ht hu hi hz hsize hby v n xs hown s h63 hbytes (Nat.zero_le _)
 refine ⟨v',w',k1,k2,k3,?_⟩
 have hsmall:n+s.size≤9223372036854775807:=by simp only [maxLen] at h63; omega
 have fresh:∀ {cap:Nat} {o:Obj} {w1:World} {m:Nat},w1.heap.size=w.heap.size→(Builtin.append_ #[t,u] ty #[v,.string s]).run P w= .ok (.slice (some ⟨w.heap.size,0,none⟩) m cap) (w1.alloc o)→∀b∈v'.ownBlock.toList,(w.heap.size≤b∧b<w'.heap.size)∨b∈v.ownBlock.toList:=by
  intro cap o w1 m hs hr b hb
  rw [hr] at k1
  injection k1 with e1 e2
  subst e1
  subst e2
  simp [Value.ownBlock] at hb
  subst hb
  exact .inl ⟨Nat.le_refl _,by simp [hs]⟩
 rcases hown.2 with ⟨rfl,rfl⟩|⟨g,cap,cur,rfl,hbg,hg,hnc,hcm,hcs,htake⟩
 ·by_cases hm:s.size=0
  ·have:=(k4.2 ⟨rfl,hm⟩)
   subst this
   intro b hb
   cases hb
  ·have hr:=run_append_nil_string (P:=P) w t u ty e i (.int .u8 0) ht hu hi hz s (by omega) (by omega) (by rw [hby]; omega)
   exact fresh (w1:=w.drew) (by rfl) hr
 ·by_cases hroom:n+s.size≤cap
  ·have hcs':cur.size=cap:=by simpa using hcs
   have hr:=Lib.run_append_room_string (P:=P) w t u ty e i ht hu hi hsize g n cap cur hg s hroom (by omega)
   rw [hr] at k1
   injection k1 with e1 e2
   subst e1
   intro b hb
   exact .inr hb
  ·have holds:∀j x,xs[j]? =some x→w.cell? ((⟨g,0,none⟩:Addr).add j)=some x:=hown.cells (g:=g) rfl
   have hr:=Lib.run_append_grow_string (P:=P) w t u ty e i (.int .u8 0) ht hu hi hz ⟨g,0,none⟩ n cap xs (by rw [hsize]; exact hown.1) holds s (by omega) (by omega) (by rw [hby]; exact growslice_fits (by omega) (by omega))
   exact fresh (w1:=w.drew) (by rfl) hr
theorem qhe {l:List Value} {i:Nat} {u:Value} (h:l[i]? =some u):(l.drop (i * 1)).take 1=[u]:=by
 rw [Nat.mul_one]
 obtain ⟨hi,rfl⟩:=List.getElem?_eq_some_iff.1 h
 rw [List.drop_eq_getElem_cons hi]
 rfl
theorem qq8 (hE:qbG E C.P) (h:qag C σ a.tmps w own) {t t':Nat} {x1 y1:Op1} {x y:Value} (hx:qb3 (sit C σ a.tmps w own) x1 x) (hxs:∀s,x1.s=some s→x1.a≠ .undef→s<σ.length) (hy:qb3 (sit C σ a.tmps w own) y1 y)
  {f:Eff} (he:(qpZ E o t t' x1 y1).run (qt σ)=some f) (hd:∀u∈f.upd,u.s<σ.length) (hc:qd3 f.chk)
  (hr:∃ty,(execOp a.eval o).run C.P w=((Builtin.append_ #[t,t'] ty #[x,y]).run C.P w).andThen fun v w=> .ok (.value v) w):qdT C o a w (qr σ f.upd):=by
 unfold qpZ at he
 obtain ⟨r,h1,he⟩:=Q.bind_some he
 obtain ⟨q,h2,he⟩:=Q.bind_some he
 split at he
 case h_2=>cases he
 rename_i d hdst
 split at he
 case isFalse=>cases he
 rename_i hcond
 obtain ⟨c1,c2,c3,c5,c6⟩:=hcond
 split at he
 case h_2=>cases he
 rename_i xs0 hxs0
 have:=Q.ret_some he
 subst this
 obtain ⟨bs,r1,r2⟩:=qlo h hx hxs h1
 obtain ⟨i,z,k1,k2,k3,k4,k5,k6,k7⟩:=hE.elem' c1
 obtain ⟨ro,et,⟨e,xs⟩⟩:=r
 simp only at c1 c2 c3 c5 c6 r1 r2 hd hc hxs0⊢
 have hee:e= .int .u8:=by
  obtain ⟨e1,_⟩:=Ty.as_some hxs0
  injection e1
 subst hee
 have hzs:xs=xs0:=by
  obtain ⟨e1,e2⟩:=Ty.as_some hxs0
  exact e2
 subst hzs
 obtain ⟨s,qo⟩:=q
 simp only at hd hc⊢
 obtain ⟨e2,hsl⟩:=qaq.str (qcS h hy h2)
 obtain ⟨cells,g1,g2,g3⟩:=r1
 obtain ⟨ty,hr⟩:=hr
 rw [g2] at r2
 have hroom:(xs.length:Int)+(s.length:Int)≤140737488355328:=by
  have:=hc _ (List.mem_singleton.2 rfl)
  rw [qjF,qi,qi] at this
  have:=of_decide_eq_true this
  simpa using this
 have hz:z= .int .u8 0:=by
  have hrep:z.cells.toList=[.int .u8 0]:=(k7 w (fun _=>True)).1
  obtain ⟨i',z',q1,q2,q3,_⟩:=hE.dflt t _ c1
  rw [k2] at q1
  injection q1 with q1
  subst q1
  rw [k4] at q2
  injection q2 with q2
  subst q2
  have q3:=q3 rfl
  cases z with
  |agg cs=>exact absurd rfl (q3 cs)
  |_=>simpa [Value.cells] using hrep
 refine qmM h hdst c6 (hd ⟨d,true,.own et (.int .u8) (qf3 xs (qeL s))⟩ (by simp)) r2 g1 g3 ?_
 have hss:(⟨s.toArray⟩:ByteArray).size=s.length:=by simp [ByteArray.size]
 have g1':w.ownsRow 0 et 1 x xs.length cells:=g1
 obtain ⟨v',w',a1,a2,a3,hfresh⟩:=qpN (P:=C.P) (w:=w) (t:=t) (u:=t') (ty:=ty) (e:=et) (i:=i) (by rw [k1,c2]) (hE.str t' c5) (by rw [c2]; exact k2) (by rw [k4,hz]) k3 (by rw [k6,←c2,c3]) g1' ⟨s.toArray⟩ (by rw [hss]; simp only [maxLen]; omega) (by rw [hss]; omega)
 refine ⟨v',w',Lib.strCells ⟨s.toArray⟩,by rw [hr,e2,a1]; rfl,?_,a3,hfresh,fun i u hi=> ?_⟩
 ·rw [show (qeL s).length=s.length by rw [qdj]; simp]
  rw [hss] at a2
  exact a2
 ·rw [qdj] at hi
  rw [List.getElem?_map] at hi
  obtain ⟨b,hb,rfl⟩:=Option.map_eq_some_iff.1 hi
  have:(Lib.strCells ⟨s.toArray⟩)[i]? =some (.int .u8 b.toNat):=by
   simp only [Lib.strCells,List.getElem?_map,hb,Option.map_some]
  show Rep w (C.free w own) (.int .u8) (qcc b) ((List.drop (i * 1) _).take 1)
  rw [qhe this,qe9]
  refine ⟨rfl,?_⟩
  have:=b.toNat_lt
  simp [IntKind.has,IntKind.min,IntKind.max,IntKind.signed,IntKind.bits]
  omega
theorem qu7 {k:IntKind} {x y:Int} (hx:k.has x) (hy:k.has y):k.has (qvp x y):=by rw [qno]; split <;> assumption
theorem qvv {k:IntKind} {x y:Int} (hx:k.has x) (hy:k.has y):k.has (minI x y):=by rw [qkZ]; split <;> assumption
theorem qjA {n:Nat} (h:n≤maxLen):IntKind.i64.has (n:Int):=by
 simp only [maxLen] at h
 simp [IntKind.has,IntKind.min,IntKind.max,IntKind.signed,IntKind.bits]
 omega
theorem qag.drewn {tm:Array Value} (h:qag C σ tm w own):qag C σ tm w.drew own:=
 h.world ⟨rfl,rfl,rfl,Nat.le_refl _,fun _ _ _=>rfl⟩
theorem qqV (hE:qbG E C.P) (h:qag C σ a.tmps w own) {t t':Nat} {x y:Op1} {v u:Value} (hx:qb3 (sit C σ a.tmps w own) x v) (hy:qb3 (sit C σ a.tmps w own) y u) {f:Eff}
  (he:(qpJ E o t t' x y).run (qt σ)=some f) (hd:∀u∈f.upd,u.s<σ.length) (hc:qd3 f.chk)
  (hr:∃ty,(execOp a.eval o).run C.P w=((Builtin.append_ #[t,t'] ty #[v,u]).run C.P w).andThen fun v w=> .ok (.value v) w):qdT C o a w (qr σ f.upd):=by
 obtain ⟨ty,hr⟩:=hr
 unfold qpJ at he
 split at he
 case h_2=>cases he
 rename_i et e hxa
 obtain ⟨n,h1,he⟩:=Q.bind_some he
 split at he
 case isFalse=>cases he
 rename_i hcond
 obtain ⟨hty,het,hsz,hby,hint⟩:=hcond
 have:=Q.ret_some he
 subst this
 obtain ⟨e1,g1⟩:=qef h hy h1
 have hv:v= .slice none 0 0:=by
  have:=hx.unowned (by rw [hxa]; rfl)
  rw [hxa] at this
  exact this.2
 obtain ⟨kn,htn⟩:∃k,C.P.underlying t'=some (.int k):=by
  unfold qpm at hint
  split at hint
  ·rename_i k hk; exact ⟨k,hE.int t' k hk⟩
  ·cases hint
 obtain ⟨i,z,k1,k2,k3,k4,k5,k6,k7⟩:=hE.elem' hty
 have c1:0<n.2:=by have:=hc (ltI 0 n.2) (by simp); simpa [qa0] using this
 have c2:n.2 * (E.bytes et:Int)≤140737488355328:=by
  have:=hc (quZ n.2 (E.bytes et)) (by simp)
  simp [qnZ] at this
  exact this.2
 have c3:n.2≤140737488355328:=by
  have h1:(1:Int)≤(E.bytes et:Int):=by omega
  have h2:n.2 * 1≤n.2 * (E.bytes et:Int):=Int.mul_le_mul_of_nonneg_left h1 (by omega)
  omega
 obtain ⟨m,hm⟩:∃m:Nat,n.2=(m:Int):=⟨n.2.toNat,by omega⟩
 rw [hm] at c1 c2 c3 e1
 have c2':m * i.bytes≤281474976710656:=by
  rw [k6,←het]
  have:((m * E.bytes et:Nat):Int)≤140737488355328:=by rw [Int.natCast_mul]; exact c2
  omega
 have hrun:=Lib.run_append_nil_zeros (P:=C.P) w t t' ty (E.etid t) i z n.1 kn k1 htn k2 k4 m (by omega) (by omega) (by omega) c2'
 have hx2:(execOp a.eval o).run C.P w= .ok (.value (.slice (some ⟨w.heap.size,0,none⟩) m (grownCap w m 0 (E.etid t)))) (w.drew.alloc (.cells (Builtin.zeroCells z.cells m++Builtin.zeroCells z.cells (grownCap w m 0 (E.etid t) - m)) (E.etid t))):=by
  rw [hr,hv,e1,hrun]; rfl
 generalize hcap:grownCap w m 0 (E.etid t)=cap at hx2
 have hge:m≤cap:=by rw [←hcap]; exact grownCap_ge w m 0 (E.etid t)
 have hle:cap≤maxLen:=by rw [←hcap]; exact grownCap_le_maxLen w m 0 (E.etid t) (by simp only [maxLen]; omega)
 generalize hcur:(Builtin.zeroCells z.cells m++Builtin.zeroCells z.cells (cap - m))=cur at hx2
 have hcs:cur.size=cap * e.size:=by
  rw [←hcur,Array.size_append,size_zeroCells,size_zeroCells,k5,←Nat.add_mul]
  congr 1; omega
 have hlr:qqY n.2 e.dflt=List.replicate m e.dflt:=by rw [qjG,hm]; simp
 rw [hlr,het]
 simp only [hlr,het] at hd
 have hD:=h.drewn
 refine qK hx2 (hD.dst (bs:=[w.heap.size]) (w':=w.drew.alloc (.cells cur (E.etid t))) (qcx.alloc _ _ _) hd (fun b hb=> ?_) (by simp) ?_ (fun m hm=>by cases hm))
 ·simp at hb
  subst hb
  exact ⟨Nat.le_refl _,by show w.heap.size<(w.heap.push _).size; simp⟩
 ·refine ⟨cur.toList.take (m * e.size),⟨?_,.inr ⟨w.heap.size,cap,cur,by simp,Nat.zero_le _,heap_alloc_new w.drew _,by simpa using hge,hle,hcs,by simp⟩⟩,rfl,fun i x hi=> ?_⟩
  ·rw [List.length_take,Array.length_toList,hcs,List.length_replicate]
   exact Nat.min_eq_left (Nat.mul_le_mul_right _ hge)
  ·have hlt:i<m:=by
    have:=(List.getElem?_eq_some_iff.1 hi).1
    simpa using this
   have hu:x=e.dflt:=List.eq_of_mem_replicate (List.mem_of_getElem? hi)
   have hle2:i * e.size+e.size≤m * e.size:=by
    have:=Nat.mul_le_mul_right e.size (show i+1≤m by omega)
    rw [Nat.add_mul,Nat.one_mul] at this
    exact this
   rw [hu,List.drop_take,List.take_take,Nat.min_eq_left (by omega),←hcur,←k5,qms _ _ _ _ hlt]
   exact k7 _ _
theorem qmx {P:Program} (w:World) (t ty e:TypeId) (z:Value) (ht:P.underlying t=some (.slice e)) (hv:∀w,(zeroValue e).run P w= .ok z w) (g o n c:Nat) (cur:List Value) (t':TypeId)
  (hg:w.heap[g]? =some (.cells cur.toArray t' (0,0))) (hn:0<n) (hfit:o+n * z.cells.size≤cur.length) (h1:∀v∈(Builtin.zeroCells z.cells n).toList,v.oneCell'=true):
  (Builtin.clear_ #[t] ty #[.slice (some ⟨g,o,none⟩) n c]).run P w= .ok (.tuple #[]) (w.setRow g (cur.take o++(Builtin.zeroCells z.cells n).toList++cur.drop (o+n * z.cells.size)).toArray):=by
 have hzl:(Builtin.zeroCells z.cells n).toList.length=n * z.cells.size:=by simp [Builtin.zeroCells]
 have hst:=run_storeCells_at P g o t' (Builtin.zeroCells z.cells n).toList 0 cur.toArray w hg (by rw [hzl]; simpa using hfit) h1
 simp only [Nat.add_zero,hzl] at hst
 obtain ⟨m,rfl⟩:∃m,n=m+1:=⟨n - 1,by omega⟩
 simp [Builtin.clear_,run_underlying ht,hv,hst]
theorem q7.clr {P:Program} {F:Nat→Prop} {t ty te:Nat} {z:Value} {et:Nat} {e:Ty} {xs:List e.den} {ad:Option Addr} {n cap:Nat} {bs:List Nat} {lo hi:Int} (ht:P.underlying t=some (.slice te)) (hv:∀w,(zeroValue te).run P w= .ok z w) (hz:z.cells.size=e.size) (hzr:∀w F,Rep w F e e.dflt z.cells.toList) (hsz:e.size≠0)
  (hrow:q7 w F et e xs (.slice ad n cap) bs) (hF0:∀x,F x→x∉bs) (c1:0≤lo) (c2:lo≤hi) (c3:hi≤(n:Int)):
  ∃W,(Builtin.clear_ #[t] ty #[sliced ad lo.toNat hi.toNat cap e.size]).run P w= .ok (.tuple #[]) W∧qcx (fun k=>k∈bs) w W∧q7 W F et e (qf3 (qau xs 0 lo) (qf3 (qqY (qO .i64 hi lo) e.dflt) (qau xs hi (qn xs)))) (.slice ad n cap) bs:=by
 obtain ⟨cells,r1,r2,r3⟩:=hrow
 have hrow':q7 w F et e xs (.slice ad n cap) bs:=⟨cells,r1,r2,r3⟩
 obtain ⟨r4,r5⟩:=r1
 obtain ⟨ad',cap',f1,f2⟩:=hrow'.form
 injection f1 with f1 f3 f4
 subst f1; subst f3; subst f4
 have hcm:xs.length≤9223372036854775807:=by
  rcases r5 with ⟨h1,h2⟩|⟨g,cap,cur,h1,_,_,h2,h3,_⟩
  ·omega
  ·simp only [maxLen] at h3; omega
 have hsub:qO .i64 hi lo=hi - lo:=by
  rw [qi6,IntKind.wrap_i64]; omega
 have hys:qf3 (qau xs 0 lo) (qf3 (qqY (qO .i64 hi lo) e.dflt) (qau xs hi (qn xs)))=xs.take lo.toNat++(List.replicate (hi.toNat - lo.toNat) e.dflt++xs.drop hi.toNat):=by
  rw [hsub]
  simp only [qbE,qb4,qjG,qi]
  rw [show (hi - lo).toNat=hi.toNat - lo.toNat by omega]
  simp
 rw [hys]
 by_cases heq:lo=hi
 ·subst heq
  refine ⟨w,?_,qcx.refl _ _,?_⟩
  ·have hs0:∃q c,sliced ad lo.toNat lo.toNat cap e.size= .slice q 0 c:=⟨_,_,by simp only [sliced,Nat.sub_self]; rfl⟩
   obtain ⟨q,c,hs0⟩:=hs0
   rw [hs0]
   cases q <;> simp [Builtin.clear_,run_underlying ht]
  ·simpa using hrow'
 rcases r5 with ⟨h1,h2⟩|⟨g,cap,cur,h1,_,hg,hnc,hcap,hcs,htk⟩
 ·omega
 injection h1 with h1 _ h2
 subst h1; subst h2
 have hlo:lo.toNat<xs.length:=by omega
 have hsl:sliced (some ⟨g,0,none⟩) lo.toNat hi.toNat cap e.size= .slice (some ⟨g,lo.toNat * e.size,none⟩) (hi.toNat - lo.toNat) (cap - lo.toNat):=by
  simp only [sliced]
  rw [if_neg (by omega)]
  simp only [Option.map_some,qaK,Nat.zero_add]
 have hZl:(Builtin.zeroCells z.cells (hi.toNat - lo.toNat)).toList.length=(hi.toNat - lo.toNat) * e.size:=by simp [Builtin.zeroCells,hz]
 have hcl:cells.length=xs.length * e.size:=r4
 have hcz:cur.toList.length=cap * e.size:=by rw [Array.length_toList]; exact hcs
 have hnc':xs.length * e.size≤cap * e.size:=Nat.mul_le_mul_right _ hnc
 have hmul:lo.toNat * e.size+(hi.toNat - lo.toNat) * e.size=hi.toNat * e.size:=by rw [←Nat.add_mul]; congr 1; omega
 have hhi:hi.toNat * e.size≤xs.length * e.size:=Nat.mul_le_mul_right _ (by omega)
 have hZone:∀v∈(Builtin.zeroCells z.cells (hi.toNat - lo.toNat)).toList,v.oneCell'=true:=fun v hvm=>by
  obtain ⟨i,hi',rfl⟩:=List.getElem_of_mem hvm
  rw [hZl] at hi'
  have h1:=qfG z.cells ((hi.toNat - lo.toNat) * z.cells.size) i (by rw [hz]; exact hi') (by rw [hz]; omega)
  have h2:(Builtin.zeroCells z.cells (hi.toNat - lo.toNat)).toList[i]? =z.cells.toList[i % z.cells.size]? :=h1
  rw [List.getElem?_eq_getElem (by rw [hZl]; exact hi')] at h2
  exact (hzr w F).oneCell _ (List.mem_of_getElem? h2.symm)
 have hrun:=qmx (P:=P) w t ty te z ht hv g (lo.toNat * e.size) (hi.toNat - lo.toNat) (cap - lo.toNat) cur.toList et hg (by omega) (by rw [hz,hcz]; omega) hZone
 rw [hsl]
 refine ⟨_,hrun,?_⟩
 rw [hz]
 have hsp:(cur.toList.take (lo.toNat * e.size)++(Builtin.zeroCells z.cells (hi.toNat - lo.toNat)).toList++cur.toList.drop (lo.toNat * e.size+(hi.toNat - lo.toNat) * e.size)).toArray=(qaL cur.toList (lo.toNat * e.size) (Builtin.zeroCells z.cells (hi.toNat - lo.toNat)).toList).toArray:=by rw [qaL,hZl]
 rw [hsp]
 generalize hZ:(Builtin.zeroCells z.cells (hi.toNat - lo.toNat)).toList=Z at *
 generalize hW:w.setRow g (qaL cur.toList (lo.toNat * e.size) Z).toArray=W
 have hbs:bs=[g]:=by rw [r2]; rfl
 have hkept:qcx (fun k=>k=g) w W:=by rw [←hW]; exact qgX _ hg
 have hheap:W.heap[g]? =some (.cells (qaL cur.toList (lo.toNat * e.size) Z).toArray et (0,0)):=by rw [←hW]; exact setRow_heap w g _ _ et _ hg
 have hF:∀x,F x→x<w.heap.size→F x∧x<W.heap.size∧W.heap[x]? =w.heap[x]? :=fun x hx hlt=>⟨hx,Nat.lt_of_lt_of_le hlt hkept.size,hkept.block x hlt fun e=>hF0 x hx (by rw [hbs,e]; exact List.mem_singleton.2 rfl)⟩
 have hspl:(qaL cur.toList (lo.toNat * e.size) Z).length=cur.toList.length:=qeS (by rw [hZl,hcz]; omega)
 have hyl:(xs.take lo.toNat++(List.replicate (hi.toNat - lo.toNat) e.dflt++xs.drop hi.toNat)).length=xs.length:=by simp; omega
 refine ⟨hkept.mono fun k hk=>by rw [hbs,hk]; exact List.mem_singleton.2 rfl,?_⟩
 refine ⟨(qaL cur.toList (lo.toNat * e.size) Z).take (xs.length * e.size),⟨?_,.inr ⟨g,cap,_,by rw [hyl],Nat.zero_le _,hheap,by rw [hyl]; exact hnc,hcap,by rw [List.size_toArray,hspl,hcz],by rw [hyl]⟩⟩,r2,?_⟩
 ·rw [List.length_take,hspl,hyl,hcz]; omega
 intro j x hj
 have hjl:j<xs.length:=by
  have:=(List.getElem?_eq_some_iff.1 hj).1
  rw [hyl] at this; exact this
 have hjn:j * e.size+e.size≤xs.length * e.size:=by rw [←Nat.succ_mul]; exact Nat.mul_le_mul_right _ hjl
 rw [qf1 hjl]
 by_cases hz1:lo.toNat≤j∧j<hi.toNat
 ·have hx:x=e.dflt:=by
   rw [List.getElem?_append_right (by rw [List.length_take]; omega),List.getElem?_append_left (by rw [List.length_take,List.length_replicate]; omega)] at hj
   exact List.eq_of_mem_replicate (List.mem_of_getElem? hj)
  have hc:((qaL cur.toList (lo.toNat * e.size) Z).drop (j * e.size)).take e.size=z.cells.toList:=by
   have h0:=qfO z.cells (hi.toNat - lo.toNat) (j - lo.toNat) (by omega)
   have h0':(Z.drop ((j - lo.toNat) * e.size)).take e.size=z.cells.toList:=by
    rw [←hZ,←hz]; exact h0
   rw [←h0']
   have hjlo:lo.toNat * e.size+(j - lo.toNat) * e.size=j * e.size:=by rw [←Nat.add_mul]; congr 1; omega
   have hjhi:j * e.size+e.size≤hi.toNat * e.size:=by rw [←Nat.succ_mul]; exact Nat.mul_le_mul_right _ hz1.2
   apply List.ext_getElem?
   intro k
   rw [List.getElem?_take,List.getElem?_take]
   split
   ·rename_i hk
    rw [List.getElem?_drop,List.getElem?_drop,qgf (by rw [hZl,hcz]; omega),if_neg (by omega),if_pos (by rw [hZl]; omega)]
    congr 1
    omega
   ·rfl
  rw [hx,hc]
  exact hzr W F
 ·have hx0:xs[j]? =some x:=by
   by_cases hjlo:j<lo.toNat
   ·rw [List.getElem?_append_left (by rw [List.length_take]; omega),List.getElem?_take,if_pos hjlo] at hj
    exact hj
   ·rw [List.getElem?_append_right (by rw [List.length_take]; omega),List.getElem?_append_right (by rw [List.length_take,List.length_replicate]; omega),List.getElem?_drop] at hj
    rw [←hj]
    congr 1
    simp only [List.length_take,List.length_replicate]
    omega
  have hc:((qaL cur.toList (lo.toNat * e.size) Z).drop (j * e.size)).take e.size=(cells.drop (j * e.size)).take e.size:=by
   rw [←htk,qf1 hjl]
   apply List.ext_getElem?
   intro k
   rw [List.getElem?_take,List.getElem?_take]
   split
   ·rename_i hk
    rw [List.getElem?_drop,List.getElem?_drop,qgf (by rw [hZl,hcz]; omega)]
    by_cases hjlo:j<lo.toNat
    ·have:j * e.size+e.size≤lo.toNat * e.size:=by rw [←Nat.succ_mul]; exact Nat.mul_le_mul_right _ hjlo
     rw [if_pos (by omega)]
    ·have:hi.toNat * e.size≤j * e.size:=Nat.mul_le_mul_right _ (by omega)
     rw [if_neg (by omega),if_neg (by rw [hZl]; omega)]
   ·rfl
  rw [hc]
  exact (r3 j x hx0).keep hF
theorem qpQ (hE:qbG E C.P) (h:qag C σ a.tmps w own) {b:Builtin} {ts:List Nat} {os:List Op1} {vs:List Value} (ho:qls (sit C σ a.tmps w own) os vs) (hos:∀o1∈os,∀s,o1.s=some s→o1.a≠ .undef→s<σ.length)
  {f:Eff} (he:(qnd E o b ts os).run (qt σ)=some f) (hd:∀u∈f.upd,u.s<σ.length) (hc:qd3 f.chk)
  (hr:∃ty cs,(execOp a.eval o).run C.P w=(builtin b ts.toArray ty cs vs.toArray).run C.P w):qdT C o a w (qr σ f.upd):=by
 obtain ⟨ty,cs,hr⟩:=hr
 unfold qnd at he
 split at he
 ·rename_i x
  match vs,ho with
  |[v],ho=>
   obtain ⟨r,h1,he⟩:=Q.bind_some he
   have rx:=qde h ho.1 h1
   split at he
   ·rename_i e xs _ t _ _
    split at he
    case isFalse=>cases he
    rename_i hty
    have:=qL he
    subst this
    have hu:=(hE.elem t e hty).under
    rcases qaq.slice rx with ⟨e1,e2⟩|⟨ad,cap,e1,e2,e3,_⟩
    ·have e2:xs=[]:=e2
     subst e2
     refine qaY h (v:= .int .i64 0) ?_ hd (by rw [qi]; exact qaq.ofInt _ _ (qjA (n:=0) (by simp)))
     rw [hr,e1]
     simp [builtin,Builtin.len_,run_underlying hu,goInt]
    ·refine qaY h (v:= .int .i64 (qn xs)) ?_ hd (qaq.ofInt _ _ (by rw [qi]; exact qjA (n:=xs.length) (Nat.le_trans e2 e3)))
     rw [hr,e1]
     simp [builtin,Builtin.len_,run_underlying hu,goInt,qi]
   ·rename_i xs _ t _ _
    split at he
    case isFalse=>cases he
    rename_i hty
    have:=qL he
    subst this
    have hu:=hE.str t hty
    obtain ⟨e1,e2⟩:=qaq.str rx
    have e2:xs.length≤maxLen:=e2
    refine qaY h (v:= .int .i64 (qn xs)) ?_ hd (qaq.ofInt _ _ (by rw [qi]; exact qjA (n:=xs.length) e2))
    rw [hr,e1]
    simp [builtin,Builtin.len_,run_underlying hu,goInt,qi,ByteArray.size_mk']
   ·cases he
 ·rename_i x y
  match vs,ho with
  |[v,u],ho=>
   split at he
   ·rename_i t t'
    split at he
    ·rename_i htt
     subst htt
     refine qrt hE h ho.1 (hos x (by simp)) ho.2.1 he hd hc ⟨ty,?_⟩
     rw [hr]
     simp only [builtin,Sem.run_bind]
     rfl
    ·split at he
     ·refine qqV hE h ho.1 ho.2.1 he hd hc ⟨ty,?_⟩
      rw [hr]
      simp only [builtin,Sem.run_bind]
      rfl
     ·refine qq8 hE h ho.1 (hos x (by simp)) ho.2.1 he hd hc ⟨ty,?_⟩
      rw [hr]
      simp only [builtin,Sem.run_bind]
      rfl
   ·cases he
 ·rename_i x
  match vs,ho with
  |[v],ho=>
   split at he
   case h_2=>cases he
   rename_i et e t ts' hxa
   split at he
   case isFalse=>cases he
   rename_i hty
   have:=qL he
   subst this
   have hv:v= .slice none 0 0:=by
    have:=ho.1.unowned (by rw [hxa]; rfl)
    rw [hxa] at this
    exact this.2
   have hu:=(hE.elem t e hty).under
   refine qaY h (v:= .int .i64 0) ?_ hd (qaq.ofInt _ _ (qjA (n:=0) (by simp)))
   rw [hr,hv]
   simp [builtin,Builtin.cap_,goInt,run_underlying hu]
 ·rename_i x
  match vs,ho with
  |[v],ho=>
   split at he
   case h_2=>cases he
   rename_i s v0 fo sz lo hi t ts' hxa
   split at he
   case isTrue=>cases he
   rename_i hdst
   rw [Q.run_get] at he
   split at he
   case isFalse=>cases he
   rename_i hver
   split at he
   case h_2=>cases he
   rename_i et e xs hown
   split at he
   case isFalse=>cases he
   rename_i hcond
   obtain ⟨hsz,hsz0,hty⟩:=hcond
   subst hsz
   split at he
   case h_2=>cases he
   rename_i a' hsw
   have:=qL he
   subst this
   have hop:=ho.1.unowned (by rw [hxa]; rfl)
   rw [hxa] at hop
   obtain ⟨ad,n,cap,k1,c1,c2,c3,k2⟩:=hop.2 hver
   obtain ⟨hsl,b1,b2,b3,q1,q2,q3,q4⟩:=h.rowAt hown k1
   obtain ⟨i,z,m1,m2,m3,m4,m5,m6,m7⟩:=hE.elem' hty
   have hzv:∀w,(zeroValue (E.etid t)).run C.P w= .ok z w:=fun w=>by simp [zeroValue,typeInfo,m2,m4]
   obtain ⟨W,hrun,hkept,hrow'⟩:=q7.clr (ty:=ty) m1 hzv m5 m7 hsz0 q1 (fun x hx hm=>hx.2.2 s (by rw [q2]; exact List.mem_append_right _ (List.mem_append_left _ hm))) c1 c2 c3
   obtain ⟨g1,g2⟩:=q4 W (.own et e (qf3 (qau xs 0 lo) (qf3 (qqY (qO .i64 hi lo) e.dflt) (qau xs hi (qn xs))))) b2 a' hkept ⟨_,rfl,hrow'⟩ hsw
   have hcl:Builtin.clear_ (t::ts').toArray ty #[sliced ad lo.toNat hi.toNat cap e.size]=Builtin.clear_ #[t] ty #[sliced ad lo.toNat hi.toNat cap e.size]:=by simp [Builtin.clear_]
   have hr2:(execOp a.eval o).run C.P w= .ok (.value (.tuple #[])) W:=by
    rw [hr,k2]
    simp only [builtin,Sem.run_bind,hcl,hrun]
    rfl
   refine qK hr2 ⟨own,?_⟩
   have hdn:o.dst=none:=by cases ho:o.dst <;> simp [ho] at hdst⊢
   rw [hdn]
   exact h.mutK hsl q2 q3 hkept (by rw [q2]; exact g1) g2
 ·rename_i x r
  match vs,ho with
  |v::vs,ho=>
   obtain ⟨m,h1,he⟩:=Q.bind_some he
   obtain ⟨n,h2,he⟩:=Q.bind_some he
   have:=qL he
   subst this
   obtain ⟨e1,g1⟩:=qef h ho.1 h1
   obtain ⟨k1,k2⟩:=qjW (P:=C.P) h (m2:=Builtin.max2) (fun k x y=>by simp [Builtin.max2,qno]) (fun k x y=>qu7) r vs m.2 n g1 ho.2 h2
   refine qaY h ?_ hd (qaq.ofInt _ _ k2)
   rw [hr,e1]
   simp [builtin,Builtin.max_,k1]
 ·rename_i x r
  match vs,ho with
  |v::vs,ho=>
   obtain ⟨m,h1,he⟩:=Q.bind_some he
   obtain ⟨n,h2,he⟩:=Q.bind_some he
   have:=qL he
   subst this
   obtain ⟨e1,g1⟩:=qef h ho.1 h1
   obtain ⟨k1,k2⟩:=qjW (P:=C.P) h (m2:=Builtin.min2) (fun k x y=>by simp [Builtin.min2,qkZ]) (fun k x y=>qvv) r vs m.2 n g1 ho.2 h2
   refine qaY h ?_ hd (qaq.ofInt _ _ k2)
   rw [hr,e1]
   simp [builtin,Builtin.min_,k1]
 ·cases he
end
end Go.Vi
