import Derived.Test.YtpdhkfofjpankaaGreatDoorViXB
import Derived.Lib.AppendZeros
import Derived.Lib.AppendStr
import Derived.Laws.CopyRow
import Derived.Laws.BitsLemmas
import Derived.Great.FillDense
import Derived.Great.BuildSlice
import Derived.MapKept
import Derived.Deep.LoopGhost
set_option linter.unusedVariables false
set_option linter.unusedSimpArgs false
set_option linter.unnecessarySimpa false
set_option linter.unusedSectionVars false
namespace Go.Vi
open Go.RowKit
section
variable {C:Ctx} {E:Env} {σ:St} {tm:Array Value} {a:Act} {w w':World} {own:Nat→List Nat} {o:Oper} {p:qgw} [Tabbed E C]
def qsS (C:Ctx) (σ:St) (tm:Array Value) (w:World) (own:Nat→List Nat) (ro:Option (Nat×AV)) (b2:List Nat):Prop:=
 match ro with
 |none=>b2=[]
 |some p=>p.1<σ.length∧p.2.mentions=[]∧∃b1 b3,own p.1=b1++(b2++b3)∧∀W,qcA (fun k=>k∈b2) w W→qak { sit C σ tm w own with w:=W } p.2 (tm.getD p.1 undef) (b1++b3)
theorem qhI (h:qR C σ a.tmps w own) {o1:Op1} {v:Value} (ho:qbN (sit C σ a.tmps w own) o1 v) (hs:∀s,o1.s=some s→o1.a≠ .undef→s<σ.length) {r:Option (Nat×AV)×Nat×((e:Ty)×List e.den)} (he:(qiA o1).run (qi σ)=some r):
  ∃b2,qS w (C.free w own) r.2.1 r.2.2.1 r.2.2.2 v b2∧qsS C σ a.tmps w own r.1 b2:=by
 obtain ⟨os,ov,oa⟩:=o1
 unfold qiA at he
 cases oa with
 |own et e xs=>
  have:=Q.ret_some he
  subst this
  cases os with
  |none=>exact ⟨[],ho,rfl⟩
  |some s=>exact ⟨own s,ho.2.2,hs s rfl (by simp),rfl,[],[],by simp,fun W _=>trivial⟩
 |nilr et e=>
  have:=Q.ret_some he
  subst this
  rw [(ho.unowned rfl).2]
  exact ⟨[],qS.nil_ w _ et e,rfl⟩
 |ref s v0=>
  simp only [Q.run_get] at he
  split at he
  ·rename_i hv
   have hu:a.tmps.getD s undef=v:=(ho.unowned rfl).2 hv
   have hat:=h.at_ s
   rw [hu] at hat
   split at he
   ·rename_i et e xs h3
    rw [h3] at hat
    have:=Q.ret_some he
    subst this
    refine ⟨own s,hat,?_,rfl,[],[],by simp,fun W _=>trivial⟩
    by_cases hlt:s<σ.length
    ·exact hlt
    ·have:qi σ s=(0,.undef):=by simp [qi,List.getD,List.getElem?_eq_none (Nat.le_of_not_lt hlt)]
     rw [this] at h3
     cases h3
   ·cases he
  ·cases he
 |bref s v0 off u=>
  simp only at he
  split at he
  ·rename_i hag
   rw [Q.run_get] at he
   split at he
   ·rename_i hv
    split at he
    ·rename_i r0 a0 h3 h4
     obtain ⟨et,e,xs⟩:=r0
     have:=Q.ret_some he
     subst this
     obtain ⟨hlt,b1,b2,b3,q1,q2,q3,q4⟩:=h.rowAt h3 (qhS (ho.unowned rfl) hag hv)
     obtain ⟨_,hm⟩:=q4 w (.hole 1) [] a0 (qcA.refl _ _) ⟨rfl,rfl⟩ h4
     exact ⟨b2,q1,hlt,hm,b1,b3,q2,fun W hk=>(q4 W (.hole 1) [] a0 hk ⟨rfl,rfl⟩ h4).1⟩
    ·cases he
   ·cases he
  ·cases he
 |_=>cases he
theorem qlA {P:Program} {t ty e:Nat} {i:TypeInfo} {z:Value} {size bytes:Nat} (ht:P.underlying t=some (.slice e)) (hi:P.info? e=some i) (hz:i.zero=some z)
  (hsize:i.size=size) (hby:i.bytes=bytes) (hzs:z.cells.size=size) (hsz:0<size) {v:Value} {n:Nat} {xs:List Value} (hown:w.ownsRow 0 e size v n xs)
  {ad:Addr} {m c:Nat} {news:List Value} (hl:news.length=m * size) (hnews:∀j u,news[j]? =some u→w.cell? (ad.add j)=some u) (h1:∀u∈news,u.oneCell'=true)
  (h63:n+m≤maxLen) (hbytes:(n+m) * bytes≤140737488355328):
  ∃v' w',(Builtin.append_ #[t,t] ty #[v,.slice (some ad) m c]).run P w= .ok v' w'∧w'.ownsRow 0 e size v' (n+m) (xs++news)∧w.grownBy w' v.ownBlock∧
   ∀b∈v'.ownBlock.toList,(w.heap.size≤b∧b<w'.heap.size)∨b∈v.ownBlock.toList:=by
 obtain ⟨v',w',k1,k2,k3,k4⟩:=run_append_own (P:=P) w 0 t ty e i z size bytes ht hi hz hsize hby hzs hsz v n xs hown ad m c news hl hnews h1 h63 hbytes (Nat.zero_le _)
 refine ⟨v',w',k1,k2,k3,?_⟩
 subst hsize
 subst hby
 have hsmall:n+m≤9223372036854775807:=by simp only [maxLen] at h63; omega
 have fresh:∀ {cap:Nat} {o:Obj} {w1:World},w1.heap.size=w.heap.size→(Builtin.append_ #[t,t] ty #[v,.slice (some ad) m c]).run P w= .ok (.slice (some ⟨w.heap.size,0,none⟩) (n+m) cap) (w1.alloc o)→∀b∈v'.ownBlock.toList,(w.heap.size≤b∧b<w'.heap.size)∨b∈v.ownBlock.toList:=by
  intro cap o w1 hs hr b hb
  rw [hr] at k1
  injection k1 with e1 e2
  subst e1
  subst e2
  simp [Value.ownBlock] at hb
  subst hb
  exact .inl ⟨Nat.le_refl _,by simp [hs]⟩
 rcases hown.2 with ⟨rfl,rfl⟩|⟨g,cap,cur,rfl,hbg,hg,hnc,hcm,hcs,htake⟩
 ·have hx:xs=[]:=List.eq_nil_of_length_eq_zero (by simpa using hown.1)
  by_cases hm:m=0
  ·have:=(k4.2 ⟨rfl,hm⟩)
   subst this
   intro b hb
   cases hb
  ·have hr:=run_append_nil (P:=P) w t ty e i z ht hi hz ad m c news hl hnews (by omega) (by omega) (by have hb:=hbytes; simp only [Nat.zero_add] at hb; omega)
   exact fresh (w1:=w.drew) (cap:=grownCap w m 0 e) (by rfl) (by rw [hr,Nat.zero_add])
 ·by_cases hroom:n+m≤cap
  ·have hfit:n * i.size+news.length≤cur.size:=by rw [hl,hcs,←Nat.add_mul]; exact Nat.mul_le_mul_right _ hroom
   have hr:=run_append_room (P:=P) w t ty e i ht hi g n cap cur hg ad m c news hl hnews h1 hroom hfit
   rw [hr] at k1
   injection k1 with e1 e2
   subst e1
   intro b hb
   exact .inr hb
  ·have holds:∀j u,xs[j]? =some u→w.cell? ((⟨g,0,none⟩:Addr).add j)=some u:=hown.cells (g:=g) rfl
   have hr:=run_append_grow (P:=P) w t ty e i z ht hi hz ⟨g,0,none⟩ n cap xs hown.1 holds ad m c news hl hnews (by omega) (by omega) (growslice_fits (by omega) hbytes)
   exact fresh (w1:=w.drew) (by rfl) hr
theorem qlI (h:qR C σ a.tmps w own) {d et:Nat} {e:Ty} {xs zs:List e.den} {ro:Option (Nat×AV)} {x:Value} {cells:List Value} (hmk:etM et=[]) (hdst:o.dst=some d) (c6:ro.map (·.1)≠some d) (hdl:d<σ.length)
  (hleft:qsS C σ a.tmps w own ro x.ownBlock.toList) (g1:w.ownsRow 0 et e.size x xs.length cells) (g3:∀(i:Nat) (u:e.den),xs[i]? =some u→Rep w (C.free w own) e u ((cells.drop (i * e.size)).take e.size))
  (key:∃v' w' news,(execOp a.eval o).run C.P w= .ok (.value v') w'∧w'.ownsRow 0 et e.size v' (xs.length+zs.length) (cells++news)∧w.grownBy w' x.ownBlock∧
   (∀b∈v'.ownBlock.toList,(w.heap.size≤b∧b<w'.heap.size)∨b∈x.ownBlock.toList)∧(∀(i:Nat) (u:e.den),zs[i]? =some u→Rep w (C.free w own) e u ((news.drop (i * e.size)).take e.size))):
  qcW C o a w (qf σ (qjE ro++[⟨d,true,.own et e (qdI xs zs)⟩])):=by
 obtain ⟨v',w',news,a1,a2,a3,a4,a5⟩:=key
 refine qy (v:=v') (w':=w') a1 ?_
 rw [qes a hdst]
 have hkept:qcA (fun k=>k∈x.ownBlock.toList) w w':=(qcA.grown a3).mono fun k hk=>by rw [←hk]; simp
 have hnot:∀b,C.free w own b→some b≠x.ownBlock:=fun b hb e=>by
  cases ro with
  |none=>
   have:x.ownBlock.toList=[]:=hleft
   rw [←e] at this
   cases this
  |some p=>
   obtain ⟨_,_,b1,b3,q2,_⟩:=hleft
   refine hb.2.2 p.1 ?_
   rw [q2,←e]
   exact List.mem_append_right _ (List.mem_append_left _ (by simp))
 have hfree:∀b,C.free w own b→b<w.heap.size→(C.free w own b)∧b<w'.heap.size∧w'.heap[b]? =w.heap[b]? :=fun b hb hlt=>⟨hb,Nat.lt_of_lt_of_le hlt a3.size,a3.block b hlt (hnot b hb)⟩
 have hnd:v'.ownBlock.toList.Nodup:=by cases v'.ownBlock <;> simp
 have hrow:qS w' (C.free w own) et e (qdI xs zs) v' v'.ownBlock.toList:=by
  refine qan.to hmk ⟨cells++news,by simpa [qbI] using a2,rfl,fun i u hi=> ?_⟩
  have hcl:cells.length=xs.length * e.size:=g1.1
  by_cases hlt:i<xs.length
  ·have hi':xs[i]? =some u:=by
    rw [qbI] at hi
    rwa [List.getElem?_append_left hlt] at hi
   have hle:(i+1) * e.size≤xs.length * e.size:=Nat.mul_le_mul_right _ hlt
   rw [Nat.add_mul,Nat.one_mul] at hle
   rw [qcc (by omega)]
   exact (g3 i u hi').keep hfree
  ·have hi':zs[i - xs.length]? =some u:=by
    rw [qbI] at hi
    rwa [List.getElem?_append_right (by omega)] at hi
   have hle:xs.length * e.size≤i * e.size:=Nat.mul_le_mul_right _ (by omega)
   rw [qb2 (by omega),hcl,←Nat.sub_mul]
   exact (a5 _ u hi').keep hfree
 cases ro with
 |none=>
  have h0:x.ownBlock.toList=[]:=hleft
  exact h.mut hdl [] (fun _ hx=>by cases hx) (hkept.mono fun k hk=>by rw [h0] at hk; cases hk) (av:= .own et e (qdI xs zs)) (v:=v') (bs:=v'.ownBlock.toList) (fun b hb=>by
   rcases a4 b hb with h|h
   ·exact .inl h
   ·rw [h0] at h; cases h) hnd hrow rfl
 |some p=>
  obtain ⟨q0,qm,b1,b3,q2,q4⟩:=hleft
  have hne:p.1≠d:=fun e=>c6 (by rw [←e]; rfl)
  exact h.mut2 hdl q0 hne q2 (hkept.mono fun k hk=> .inr hk) (fun b hb=>by
   rcases a4 b hb with h|h
   ·exact .inl h
   ·exact .inr (.inr h)) hnd hrow rfl (q4 w' hkept) qm
theorem qpX (hE:qbA E C.P) (h:qR C σ a.tmps w own) {t:Nat} {x1 y1:Op1} {x y:Value} (hx:qbN (sit C σ a.tmps w own) x1 x) (hxs:∀s,x1.s=some s→x1.a≠ .undef→s<σ.length) (hy:qbN (sit C σ a.tmps w own) y1 y)
  {f:Eff} (he:(qnS E o t x1 y1).run (qi σ)=some f) (hd:∀u∈f.upd,u.s<σ.length) (hc:qc0 f.chk)
  (hr:∃ty,(execOp a.eval o).run C.P w=((Builtin.append_ #[t,t] ty #[x,y]).run C.P w).andThen fun v w=> .ok (.value v) w):qcW C o a w (qf σ f.upd):=by
 unfold qnS at he
 obtain ⟨r,h1,he⟩:=Q.bind_some he
 obtain ⟨q,h2,he⟩:=Q.bind_some he
 split at he
 case h_2=>cases he
 rename_i d hdst
 split at he
 case isFalse=>cases he
 rename_i hcond
 obtain ⟨c1,c2,hmk,c3,c4,c5,c6⟩:=hcond
 split at he
 case h_2=>cases he
 rename_i ys hys
 have:=Q.ret_some he
 subst this
 obtain ⟨bs,r1,r2⟩:=qhI h hx hxs h1
 have hrow:=qrZ h hy h2
 obtain ⟨i,z,k1,k2,k3,k4,k5,k6,k7⟩:=hE.elem' c1
 obtain ⟨ro,et,⟨e,xs⟩⟩:=r
 obtain ⟨⟨e',zs⟩,qo⟩:=q
 simp only at c1 c2 hmk c3 c4 c5 c6 r1 r2 hrow hd hc hys k3 k5 k7⊢
 have hee:e'=e:=by
  obtain ⟨e1,_⟩:=Ty.as_some hys
  injection e1
 subst hee
 have hzs:zs=ys:=by
  obtain ⟨e1,e2⟩:=Ty.as_some hys
  exact e2
 subst hzs
 obtain ⟨cells,g1,g2,g3⟩:=r1.to0 hmk
 obtain ⟨ty,hr⟩:=hr
 have hroom:((xs.length:Int)+(zs.length:Int)) * (E.bytes et:Int)≤140737488355328:=by
  have:=hc _ (List.mem_singleton.2 rfl)
  rw [qgN,qe,qe] at this
  exact of_decide_eq_true this
 have hbytes:(xs.length+zs.length) * E.bytes et≤140737488355328:=by
  have:(((xs.length+zs.length) * E.bytes et:Nat):Int)≤140737488355328:=by
   rw [Int.natCast_mul,Int.natCast_add]; exact hroom
  omega
 have h63:xs.length+zs.length≤maxLen:=by
  have:(xs.length+zs.length) * 1≤(xs.length+zs.length) * E.bytes et:=Nat.mul_le_mul_left _ (by omega)
  simp only [maxLen]; omega
 have hdl:d<σ.length:=hd ⟨d,true,.own et e' (qdI xs zs)⟩ (by simp)
 rw [g2] at r2
 have key:∃v' w' news,(execOp a.eval o).run C.P w= .ok (.value v') w'∧w'.ownsRow 0 et e'.size v' (xs.length+zs.length) (cells++news)∧w.grownBy w' x.ownBlock∧
   (∀b∈v'.ownBlock.toList,(w.heap.size≤b∧b<w'.heap.size)∨b∈x.ownBlock.toList)∧(∀(i:Nat) (u:e'.den),zs[i]? =some u→Rep w (C.free w own) e' u ((news.drop (i * e'.size)).take e'.size)):=by
  rcases hrow with ⟨rfl,hz0⟩|⟨ad,cap,news,rfl,n1,n2,n3⟩
  ·have hz0:zs=[]:=hz0
   subst hz0
   refine ⟨x,w,[],?_,by simpa using g1,⟨rfl,rfl,rfl,Nat.le_refl _,fun _ _ _=>rfl⟩,fun b hb=> .inr hb,fun i u hi=>by cases hi⟩
   rw [hr]
   rw [run_append_owned_none (w:=w) 0 t ty et i e'.size (by rw [k1,c2]) (by rw [c2]; exact k2) x xs.length cells g1]
   rfl
  ·obtain ⟨v',w',a1,a2,a3,a4⟩:=qlA (P:=C.P) (t:=t) (ty:=ty) (e:=et) (i:=i) (z:=z) (size:=e'.size) (bytes:=E.bytes et) (by rw [k1,c2]) (by rw [c2]; exact k2) k4 k3 (by rw [k6,c2]) k5 (by omega) g1 (c:=cap) n1 n2 (by
    intro u hu
    obtain ⟨j,hj,rfl⟩:=List.getElem_of_mem hu
    have hpos:0<e'.size:=by omega
    have hjlt:j / e'.size<zs.length:=(Nat.div_lt_iff_lt_mul hpos).2 (by rw [←n1]; exact hj)
    have hrep:=n3 _ _ (List.getElem?_eq_getElem hjlt)
    have hm:=Nat.mod_lt j hpos
    have hdm:j / e'.size * e'.size+j % e'.size=j:=by rw [Nat.mul_comm]; exact Nat.div_add_mod j _
    refine hrep.oneCell _ (List.mem_of_getElem? (i:=j % e'.size) ?_)
    rw [List.getElem?_take,if_pos hm,List.getElem?_drop,hdm]
    exact List.getElem?_eq_getElem hj) h63 hbytes
   exact ⟨v',w',news,by rw [hr,a1]; rfl,a2,a3,a4,n3⟩
 exact qlI h hmk hdst c6 hdl r2 g1 g3 key
theorem qak.toX {C:Ctx} {σ:St} {tm:Array Value} {w w':World} {own:Nat→List Nat} {a:AV} {v:Value} {bs:List Nat} (h:qak { sit C σ tm w own with w:=w' } a v bs) (hm:a.mentions=[]) {X':Sit} (hP:X'.P=C.P) (hpn:X'.pn=C.pn) (hw:X'.w=w') (hF:∀b,C.free w own b→X'.F b):qak X' a v bs:=
 qak.keep (X:= { sit C σ tm w own with w:=w' }) (X':=X') ⟨hP,hpn⟩ (fun b hb hlt=>⟨hF b hb,by rw [hw]; exact hlt,by rw [hw]⟩) (fun b _ _=>by rw [hw]) (fun m hmm=>by rw [hm] at hmm; cases hmm) h
theorem qpi {e:Ty} {R:e.den→List Value→List Nat→Prop} {xs ys:List e.den} {cx cy:List Value} {bx by_:List (List Nat)} (hcx:cx.length=xs.length * e.size) (hbx:bx.length=xs.length)
  (h1:∀(i:Nat) (x:e.den) (b:List Nat),xs[i]? =some x→bx[i]? =some b→R x ((cx.drop (i * e.size)).take e.size) b)
  (h2:∀(i:Nat) (x:e.den) (b:List Nat),ys[i]? =some x→by_[i]? =some b→R x ((cy.drop (i * e.size)).take e.size) b):
  ∀(i:Nat) (x:e.den) (b:List Nat),(xs++ys)[i]? =some x→(bx++by_)[i]? =some b→R x (((cx++cy).drop (i * e.size)).take e.size) b:=by
 intro i x b hi hb
 by_cases hlt:i<xs.length
 ·rw [List.getElem?_append_left hlt] at hi
  rw [List.getElem?_append_left (by omega)] at hb
  have hle:(i+1) * e.size≤xs.length * e.size:=Nat.mul_le_mul_right _ hlt
  rw [Nat.add_mul,Nat.one_mul] at hle
  rw [qcc (by omega)]
  exact h1 i x b hi hb
 ·rw [List.getElem?_append_right (by omega)] at hi hb
  rw [hbx] at hb
  have hle:xs.length * e.size≤i * e.size:=Nat.mul_le_mul_right _ (by omega)
  rw [qb2 (by omega),hcx,←Nat.sub_mul]
  exact h2 _ x b hi hb
theorem qcC.oneCell {w:World} {F:Nat→Prop} : {c:BC} → {cs:List Value} → {bs:List Nat} →c.sound=true→qcC w F c cs bs→∀v∈cs,v.oneCell'=true
 | .val _ _,_,_,_,h=>h.2.oneCell
 | .own _ _ _,_,_,_,⟨v,h1,h2⟩=>fun u hu=>by
  rw [h1] at hu
  rw [List.mem_singleton.1 hu]
  obtain ⟨cells,ho,_⟩:=h2
  rcases ho.2 with ⟨rfl,_⟩|⟨g,cap,cur,rfl,_⟩ <;> rfl
 | .pair _ _,_,_,hs,⟨c1,c2,_,_,rfl,_,h1,h2⟩=>fun v hv=>by
  simp only [BC.sound,Bool.and_eq_true] at hs
  rcases List.mem_append.1 hv with hv|hv
  ·exact h1.oneCell hs.1 v hv
  ·exact h2.oneCell hs.2 v hv
 | .hole _,_,_,hs,_=>by simp [BC.sound] at hs
theorem qks {m:Msk} :(t:Ty)→(x:t.den)→(off:Nat)→(bcM m (0,0) t x off).sound=true
 | .pair a b,x,off=>by
  unfold bcM
  split
  ·simp [BC.sound,qks a,qks b]
  ·rfl
 | .slice e,xs,off=>by
  unfold bcM
  rw [qen]
  split <;> rfl
 | .int _,_,_=>rfl
 | .bool,_,_=>rfl
 | .str,_,_=>rfl
 | .unit,_,_=>rfl
 | .arr _ _,_,_=>rfl
 | .err,_,_=>rfl
 | .opt _,_,_=>rfl
 | .map _ _,_,_=>rfl
theorem qS.cells_one {w:World} {F:Nat→Prop} {et:Nat} {e:Ty} {xs:List e.den} {cells:List Value} {bss:List (List Nat)} (hl:cells.length=xs.length * e.size) (hb:bss.length=xs.length)
  (h:∀(i:Nat) (x:e.den) (b:List Nat),xs[i]? =some x→bss[i]? =some b→qcC w F (bcM (etM et) (qmY (-1,0,0) i) e x 0) ((cells.drop (i * e.size)).take e.size) b):∀u∈cells,u.oneCell'=true:=by
 intro u hu
 obtain ⟨j,hj,rfl⟩:=List.getElem_of_mem hu
 have hpos:0<e.size:=by
  rcases Nat.eq_zero_or_pos e.size with h0|h0
  ·rw [h0,Nat.mul_zero] at hl; omega
  ·exact h0
 have hjlt:j / e.size<xs.length:=(Nat.div_lt_iff_lt_mul hpos).2 (by rw [←hl]; exact hj)
 have hrep:=h _ _ _ (List.getElem?_eq_getElem hjlt) (List.getElem?_eq_getElem (show j / e.size<bss.length by omega))
 rw [qcl] at hrep
 have hm:=Nat.mod_lt j hpos
 have hdm:j / e.size * e.size+j % e.size=j:=by rw [Nat.mul_comm]; exact Nat.div_add_mod j _
 refine hrep.oneCell (qks _ _ _) _ (List.mem_of_getElem? (i:=j % e.size) ?_)
 rw [List.getElem?_take,if_pos hm,List.getElem?_drop,hdm]
 exact List.getElem?_eq_getElem hj
theorem qpD (hE:qbA E C.P) (h:qR C σ a.tmps w own) {t:Nat} {x1 y1:Op1} {x y:Value} (hx:qbN (sit C σ a.tmps w own) x1 x) (hxs:∀s,x1.s=some s→x1.a≠ .undef→s<σ.length) (hy:qbN (sit C σ a.tmps w own) y1 y)
  {f:Eff} (he:(qnT E o t x1 y1).run (qi σ)=some f) (hd:∀u∈f.upd,u.s<σ.length) (hc:qc0 f.chk)
  (hr:∃ty,(execOp a.eval o).run C.P w=((Builtin.append_ #[t,t] ty #[x,y]).run C.P w).andThen fun v w=> .ok (.value v) w):qcW C o a w (qf σ f.upd):=by
 obtain ⟨ys1,yv,ya⟩:=y1
 unfold qnT at he
 obtain ⟨r,h1,he2⟩:=Q.bind_some he
 clear he
 have he:=he2
 clear he2
 split at he
 case h_2=>cases he
 rename_i d sy et' e' ys hdst hys1 hya
 simp only at hys1 hya
 subst hys1; subst hya
 split at he
 case isFalse=>cases he
 rename_i hcond
 obtain ⟨c1,c2,c3,c4,c5,c6,c7,c8⟩:=hcond
 split at he
 case h_2=>cases he
 rename_i zs hzs
 have:=Q.ret_some he
 subst this
 obtain ⟨b2,r1,r2⟩:=qhI h hx hxs h1
 obtain ⟨i,z,k1,k2,k3,k4,k5,k6,k7⟩:=hE.elem' c1
 obtain ⟨ro,et,⟨e,xs⟩⟩:=r
 simp only at c1 c2 c3 c4 c5 c6 c7 c8 r1 r2 hd hc hzs k3 k5 k7⊢
 subst c3
 have hee:e'=e:=by
  obtain ⟨e1,_⟩:=Ty.as_some hzs
  injection e1
 subst hee
 have hzy:ys=zs:=by
  obtain ⟨e1,e2⟩:=Ty.as_some hzs
  exact e2
 subst hzy
 obtain ⟨hy0,hyv,hyr⟩:=hy
 obtain ⟨cx,bx,g1,g2,g3,g4⟩:=r1
 obtain ⟨cy,by_,m1,m2,m3,m4⟩:=hyr
 have m3:own sy=y.ownBlock.toList++by_.flatten:=m3
 obtain ⟨ty,hr⟩:=hr
 have hroom:((xs.length:Int)+(ys.length:Int)) * (E.bytes (etB et):Int)≤140737488355328:=by
  have:=hc _ (List.mem_singleton.2 rfl)
  rw [qgN,qe,qe] at this
  exact of_decide_eq_true this
 have hbytes:(xs.length+ys.length) * E.bytes (etB et)≤140737488355328:=by
  have:(((xs.length+ys.length) * E.bytes (etB et):Nat):Int)≤140737488355328:=by
   rw [Int.natCast_mul,Int.natCast_add]; exact hroom
  omega
 have h63:xs.length+ys.length≤maxLen:=by
  have:(xs.length+ys.length) * 1≤(xs.length+ys.length) * E.bytes (etB et):=Nat.mul_le_mul_left _ (by omega)
  simp only [maxLen]; omega
 have hdl:d<σ.length:=hd ⟨d,true,.own et e' (qdI xs ys)⟩ (by simp)
 have hsyl:sy<σ.length:=hd ⟨sy,true,.undef⟩ (by simp)
 have key:∃v' w',(execOp a.eval o).run C.P w= .ok (.value v') w'∧w'.ownsRow 0 (etB et) e'.size v' (xs.length+ys.length) (cx++cy)∧w.grownBy w' x.ownBlock∧
   (∀b∈v'.ownBlock.toList,(w.heap.size≤b∧b<w'.heap.size)∨b∈x.ownBlock.toList):=by
  rcases m1.2 with ⟨q1,q2⟩|⟨g,cap,cur,q1,q2,q3,q4,q5,q6,q7⟩
  ·have hcy:cy=[]:=List.eq_nil_of_length_eq_zero (by rw [m1.1,q2,Nat.zero_mul])
   refine ⟨x,w,?_,by rw [q2,hcy,Nat.add_zero,List.append_nil]; exact g1,⟨rfl,rfl,rfl,Nat.le_refl _,fun _ _ _=>rfl⟩,fun b hb=> .inr hb⟩
   rw [hr,q1]
   rw [run_append_owned_none (w:=w) 0 t ty (etB et) i e'.size (by rw [k1,c2]) (by rw [c2]; exact k2) x xs.length cx g1]
   rfl
  ·obtain ⟨v',w',a1,a2,a3,a4⟩:=qlA (P:=C.P) (t:=t) (ty:=ty) (e:=etB et) (i:=i) (z:=z) (size:=e'.size) (bytes:=E.bytes (etB et)) (by rw [k1,c2]) (by rw [c2]; exact k2) k4 k3 (by rw [k6,c2]) k5 (by omega) g1 (ad:=⟨g,0,none⟩) (m:=ys.length) (c:=cap) (news:=cy) m1.1 (m1.cells (by rw [q1]; rfl)) (qS.cells_one m1.1 m2 m4) h63 hbytes
   exact ⟨v',w',by rw [hr,q1,a1]; rfl,a2,a3,a4⟩
 obtain ⟨v',w',a1,a2,a3,a4⟩:=key
 refine qy (v:=v') (w':=w') a1 ?_
 rw [qes a hdst]
 have hkept:qcA (fun k=>k∈x.ownBlock.toList) w w':=(qcA.grown a3).mono fun k hk=>by rw [←hk]; simp
 obtain ⟨A,B,hro,hA⟩:∃A B:List Nat,(∀q,ro=some q→q.1<σ.length∧q.2.mentions=[]∧own q.1=A++(b2++B)∧∀W,qcA (fun k=>k∈b2) w W→qak { sit C σ a.tmps w own with w:=W } q.2 (a.tmps.getD q.1 undef) (A++B))∧(ro=none→b2=[]):=by
  cases ro with
  |none=>exact ⟨[],[],⟨(fun q hq=>by cases hq),fun _=>r2⟩⟩
  |some q0=>
   obtain ⟨q1,q2,b1,b3,q3,q4⟩:=r2
   exact ⟨b1,b3,(fun q hq=>by injection hq with hq; subst hq; exact ⟨q1,q2,q3,q4⟩),(fun hn=>by cases hn)⟩
 have hxb:∀b∈x.ownBlock.toList,b∈b2:=fun b hb=>by rw [g3]; exact List.mem_append_left _ hb
 have hbx:∀b∈bx.flatten,b∈b2:=fun b hb=>by rw [g3]; exact List.mem_append_right _ hb
 have hby:∀b∈by_.flatten,b∈own sy:=fun b hb=>by rw [m3]; exact List.mem_append_right _ hb
 have hb2o:∀b∈b2,∃q,ro=some q∧b∈own q.1:=fun b hb=>by
  cases hq:ro with
  |none=>rw [hA hq] at hb; cases hb
  |some q=>exact ⟨q,rfl,by rw [(hro q hq).2.2.1]; exact List.mem_append_right _ (List.mem_append_left _ hb)⟩
 have hb2n:b2.Nodup:=by
  cases hq:ro with
  |none=>rw [hA hq]; exact List.nodup_nil
  |some q=>
   have:=h.nodup q.1
   rw [(hro q hq).2.2.1] at this
   exact (List.nodup_append.1 (List.nodup_append.1 this).2.1).1
 have hro1:∀q,ro=some q→q.1≠d∧q.1≠sy:=fun q hq=>⟨fun e=>c6 (by rw [hq,←e]; rfl),fun e=>c7 (by rw [hq,←e]; rfl)⟩
 have hdis:∀b∈b2,b∈own sy→False:=fun b hb hs=>by
  obtain ⟨q,hq,hbq⟩:=hb2o b hb
  exact (hro1 q hq).2 (h.apart q.1 sy b hbq hs)
 have hynd:=h.nodup sy
 rw [m3] at hynd
 have hb2n':=hb2n
 rw [g3] at hb2n'
 have hvn:v'.ownBlock.toList.Nodup:=by cases v'.ownBlock <;> simp
 have hold:∀b∈b2,b<w.heap.size:=fun b hb=>by obtain ⟨q,hq,hbq⟩:=hb2o b hb; exact (h.mine _ _ hbq).2
 have hoy:∀b∈own sy,b<w.heap.size:=fun b hb=>(h.mine _ _ hb).2
 have hvx:∀b∈v'.ownBlock.toList,b∉bx.flatten∧b∉by_.flatten:=fun b hb=>by
  rcases a4 b hb with ⟨h1,_⟩|h1
  ·exact ⟨fun hm=>by have:=hold b (hbx b hm); omega,fun hm=>by have:=hoy b (hby b hm); omega⟩
  ·exact ⟨fun hm=>(List.nodup_append.1 hb2n').2.2 b h1 b hm rfl,fun hm=>hdis b (hxb b h1) (hby b hm)⟩
 let nbd:=v'.ownBlock.toList++(bx++by_).flatten
 have hnbd:nbd.Nodup:=by
  refine List.nodup_append.2 ⟨hvn,?_,fun b hb b' hb' e=> ?_⟩
  ·rw [List.flatten_append]
   exact List.nodup_append.2 ⟨(List.nodup_append.1 hb2n').2.1,(List.nodup_append.1 hynd).2.1,fun b hb b' hb' e=>by subst e; exact hdis b (hbx b hb) (hby b hb')⟩
  ·subst e
   rw [List.flatten_append] at hb'
   rcases List.mem_append.1 hb' with hb'|hb'
   ·exact (hvx b hb).1 hb'
   ·exact (hvx b hb).2 hb'
 have hnin:∀b∈nbd,(w.heap.size≤b∧b<w'.heap.size)∨b∈b2∨b∈own sy:=fun b hb=>by
  rcases List.mem_append.1 hb with hb|hb
  ·rcases a4 b hb with h1|h1
   ·exact .inl h1
   ·exact .inr (.inl (hxb b h1))
  ·rw [List.flatten_append] at hb
   rcases List.mem_append.1 hb with hb|hb
   ·exact .inr (.inl (hbx b hb))
   ·exact .inr (.inr (hby b hb))
 have hnot:∀b,C.free w own b→b∉x.ownBlock.toList:=fun b hb hm=>by
  obtain ⟨q,hq,hbq⟩:=hb2o b (hxb b hm)
  exact hb.2.2 _ hbq
 let nb:Nat→List Nat:=fun s=>if s=d then nbd else if s=sy then [] else A++B
 have nD:nb d=nbd:=by simp [nb]
 have nS:nb sy=[]:=by simp [nb,c8]
 have nR:∀q,ro=some q→nb q.1=A++B:=fun q hq=>by simp [nb,(hro1 q hq).1,(hro1 q hq).2]
 have mem:∀u,u∈qjE ro++[⟨sy,true,.undef⟩,⟨d,true,.own et e' (qdI xs ys)⟩]→(∃q,ro=some q∧u=⟨q.1,true,q.2⟩)∨u=⟨sy,true,.undef⟩∨u=⟨d,true,.own et e' (qdI xs ys)⟩:=fun u hu=>by
  rcases List.mem_append.1 hu with hu|hu
  ·left
   cases hq:ro with
   |none=>rw [hq] at hu; cases hu
   |some q=>rw [hq] at hu; exact ⟨q,rfl,by simpa [qjE] using hu⟩
  ·right
   simpa using hu
 have inR:∀q,ro=some q→(⟨q.1,true,q.2⟩:U)∈qjE ro++[⟨sy,true,.undef⟩,⟨d,true,.own et e' (qdI xs ys)⟩]:=fun q hq=>by rw [hq]; simp [qjE]
 have inS:(⟨sy,true,.undef⟩:U)∈qjE ro++[⟨sy,true,.undef⟩,⟨d,true,.own et e' (qdI xs ys)⟩]:=by simp
 have ABn:∀q,ro=some q→(A++B).Nodup∧(∀b∈A++B,b∈own q.1∧b∉b2):=fun q hq=>by
  have h0:=h.nodup q.1
  rw [(hro q hq).2.2.1] at h0
  have n1:=List.nodup_append.1 h0
  have n2:=List.nodup_append.1 n1.2.1
  refine ⟨List.nodup_append.2 ⟨n1.1,n2.2.1,fun b hb b' hb'=>n1.2.2 b hb b' (List.mem_append_right _ hb')⟩,fun b hb=>⟨?_,fun hb2=> ?_⟩⟩
  ·rw [(hro q hq).2.2.1]
   rcases List.mem_append.1 hb with hb|hb
   ·exact List.mem_append_left _ hb
   ·exact List.mem_append_right _ (List.mem_append_right _ hb)
  ·rcases List.mem_append.1 hb with hb|hb
   ·exact n1.2.2 b hb b (List.mem_append_left _ hb2) rfl
   ·exact n2.2.2 b hb2 b hb rfl
 have dR:∀q,ro=some q→∀b,b∈A++B→b∈nbd→False:=fun q hq b h1 h2=>by
  obtain ⟨g5,g6⟩:=(ABn q hq).2 b h1
  rcases hnin b h2 with h3|h3|h3
  ·have:=(h.mine q.1 b g5).2; omega
  ·exact g6 h3
  ·exact (hro1 q hq).2 (h.apart q.1 sy b g5 h3)
 refine Exists.elim (h.multi (tm':=a.tmps.setIfInBounds d v') (w':=w') (qjE ro++[⟨sy,true,.undef⟩,⟨d,true,.own et e' (qdI xs ys)⟩]) nb ?_ (fun u hu=>hd u hu) (by simp) (fun s hs=>qaA _ _ fun e=>hs (by rw [e]; simp)) (fun u hu=> ?_) (hkept.mono fun k hk=> ?_) (fun u hu=> ?_) (fun u hu u' hu' b hb hb'=> ?_) ?_ (fun u hu m hm=> ?_)) fun own' hfin=>⟨own',hfin.1⟩
 ·cases hq:ro with
  |none=>simp [qjE,c8]
  |some q=>simp [qjE,(hro1 q hq).1,(hro1 q hq).2,c8]
 ·rcases mem u hu with ⟨q,_,rfl⟩|rfl|rfl <;> exact .inl rfl
 ·obtain ⟨q,hq,hbq⟩:=hb2o k (hxb k hk)
  exact ⟨_,inR q hq,hbq⟩
 ·rcases mem u hu with ⟨q,hq,rfl⟩|rfl|rfl
  ·simp only [nR q hq]
   exact ⟨fun b hb=> .inr ⟨_,inR q hq,((ABn q hq).2 b hb).1⟩,(ABn q hq).1⟩
  ·simp only [nS]
   exact ⟨(fun b hb=>by cases hb),List.nodup_nil⟩
  ·simp only [nD]
   refine ⟨fun b hb=> ?_,hnbd⟩
   rcases hnin b hb with h1|h1|h1
   ·exact .inl h1
   ·obtain ⟨q,hq,hbq⟩:=hb2o b h1
    exact .inr ⟨_,inR q hq,hbq⟩
   ·exact .inr ⟨_,inS,h1⟩
 ·rcases mem u hu with ⟨q,hq,rfl⟩|rfl|rfl <;> rcases mem u' hu' with ⟨q',hq',rfl⟩|rfl|rfl
  ·rw [hq] at hq'; injection hq' with hq'; rw [hq']
  ·simp only [nS] at hb'; cases hb'
  ·simp only [nR q hq] at hb
   simp only [nD] at hb'
   exact (dR q hq b hb hb').elim
  ·simp only [nS] at hb; cases hb
  ·rfl
  ·simp only [nS] at hb; cases hb
  ·simp only [nR q' hq'] at hb'
   simp only [nD] at hb
   exact (dR q' hq' b hb' hb).elim
  ·simp only [nS] at hb'; cases hb'
  ·rfl
 ·intro X' hP hpn hw hF hF2 hver htm u hu
  rcases mem u hu with ⟨q,hq,rfl⟩|rfl|rfl
  ·simp only [nR q hq]
   rw [qaA _ _ (hro1 q hq).1]
   exact ((hro q hq).2.2.2 w' (hkept.mono fun k hk=>hxb k hk)).toX (hro q hq).2.1 hP hpn hw hF
  ·trivial
  ·simp only [nD]
   rw [qbU _ _ (by rw [h.size]; exact hdl)]
   refine ⟨cx++cy,bx++by_,by rw [hw]; simpa [qbI] using a2,by simp [qbI,g2,m2],rfl,?_⟩
   rw [qbI,hw]
   simp only [qcl]
   refine qpi (R:=fun x cs b=>qcC w' X'.F (bcM (etM et) (0,0) e' x 0) cs b) g1.1 g2 (fun i x b hi hb=> ?_) (fun i x b hi hb=> ?_)
   ·have:=g4 i x b hi hb
    rw [qcl] at this
    refine this.keep (fun b hb hlt=>⟨hF b hb,Nat.lt_of_lt_of_le hlt a3.size,hkept.block b hlt (hnot b hb)⟩) fun k hk hlt=>hkept.block k hlt fun hm=> ?_
    exact (List.nodup_append.1 hb2n').2.2 k hm k (List.mem_flatten.2 ⟨b,List.mem_of_getElem? hb,hk⟩) rfl
   ·have:=m4 i x b hi hb
    rw [qcl] at this
    refine this.keep (fun b hb hlt=>⟨hF b hb,Nat.lt_of_lt_of_le hlt a3.size,hkept.block b hlt (hnot b hb)⟩) fun k hk hlt=>hkept.block k hlt fun hm=> ?_
    exact hdis k (hxb k hm) (hby k (List.mem_flatten.2 ⟨b,List.mem_of_getElem? hb,hk⟩))
 ·rcases mem u hu with ⟨q,hq,rfl⟩|rfl|rfl
  ·rw [(hro q hq).2.1] at hm; cases hm
  ·cases hm
  ·cases hm
theorem qoc {P:Program} {t u ty e:Nat} {i:TypeInfo} (ht:P.underlying t=some (.slice e)) (hu:P.underlying u=some .string) (hi:P.info? e=some i) (hz:i.zero=some (.int .u8 0))
  (hsize:i.size=1) (hby:i.bytes=1) {v:Value} {n:Nat} {xs:List Value} (hown:w.ownsRow 0 e 1 v n xs) (s:ByteArray) (h63:n+s.size≤maxLen) (hbytes:n+s.size≤140737488355328):
  ∃v' w',(Builtin.append_ #[t,u] ty #[v,.string s]).run P w= .ok v' w'∧w'.ownsRow 0 e 1 v' (n+s.size) (xs++Lib.strCells s)∧w.grownBy w' v.ownBlock∧
   ∀b∈v'.ownBlock.toList,(w.heap.size≤b∧b<w'.heap.size)∨b∈v.ownBlock.toList:=by
 obtain ⟨v',w',k1,k2,k3,k4⟩:=Lib.run_append_own_string (P:=P) w 0 t u ty e i ht hu hi hz hsize hby v n xs hown s h63 hbytes (Nat.zero_le _)
 refine ⟨v',w',k1,k2,k3,?_⟩
 have hsmall:n+s.size≤9223372036854775807:=by simp only [maxLen] at h63; omega
 have fresh:∀ {cap:Nat} {o:Obj} {w1:World} {m:Nat},w1.heap.size=w.heap.size→(Builtin.append_ #[t,u] ty #[v,.string s]).run P w= .ok (.slice (some ⟨w.heap.size,0,none⟩) m cap) (w1.alloc o)→∀b∈v'.ownBlock.toList,(w.heap.size≤b∧b<w'.heap.size)∨b∈v.ownBlock.toList:=by
  intro cap o w1 m hs hr b hb
  rw [hr] at k1
  injection k1 with e1 e2
  subst e1
  subst e2
  simp [Value.ownBlock] at hb
  subst hb
  exact .inl ⟨Nat.le_refl _,by simp [hs]⟩
 rcases hown.2 with ⟨rfl,rfl⟩|⟨g,cap,cur,rfl,hbg,hg,hnc,hcm,hcs,htake⟩
 ·by_cases hm:s.size=0
  ·have:=(k4.2 ⟨rfl,hm⟩)
   subst this
   intro b hb
   cases hb
  ·have hr:=run_append_nil_string (P:=P) w t u ty e i (.int .u8 0) ht hu hi hz s (by omega) (by omega) (by rw [hby]; omega)
   exact fresh (w1:=w.drew) (by rfl) hr
 ·by_cases hroom:n+s.size≤cap
  ·have hcs':cur.size=cap:=by simpa using hcs
   have hr:=Lib.run_append_room_string (P:=P) w t u ty e i ht hu hi hsize g n cap cur hg s hroom (by omega)
   rw [hr] at k1
   injection k1 with e1 e2
   subst e1
   intro b hb
   exact .inr hb
  ·have holds:∀j x,xs[j]? =some x→w.cell? ((⟨g,0,none⟩:Addr).add j)=some x:=hown.cells (g:=g) rfl
   have hr:=Lib.run_append_grow_string (P:=P) w t u ty e i (.int .u8 0) ht hu hi hz ⟨g,0,none⟩ n cap xs (by rw [hsize]; exact hown.1) holds s (by omega) (by omega) (by rw [hby]; exact growslice_fits (by omega) (by omega))
   exact fresh (w1:=w.drew) (by rfl) hr
theorem qgq {l:List Value} {i:Nat} {u:Value} (h:l[i]? =some u):(l.drop (i * 1)).take 1=[u]:=by
 rw [Nat.mul_one]
 obtain ⟨hi,rfl⟩:=List.getElem?_eq_some_iff.1 h
 rw [List.drop_eq_getElem_cons hi]
 rfl
theorem qpP (hE:qbA E C.P) (h:qR C σ a.tmps w own) {t t':Nat} {x1 y1:Op1} {x y:Value} (hx:qbN (sit C σ a.tmps w own) x1 x) (hxs:∀s,x1.s=some s→x1.a≠ .undef→s<σ.length) (hy:qbN (sit C σ a.tmps w own) y1 y)
  {f:Eff} (he:(qof E o t t' x1 y1).run (qi σ)=some f) (hd:∀u∈f.upd,u.s<σ.length) (hc:qc0 f.chk)
  (hr:∃ty,(execOp a.eval o).run C.P w=((Builtin.append_ #[t,t'] ty #[x,y]).run C.P w).andThen fun v w=> .ok (.value v) w):qcW C o a w (qf σ f.upd):=by
 unfold qof at he
 obtain ⟨r,h1,he⟩:=Q.bind_some he
 obtain ⟨q,h2,he⟩:=Q.bind_some he
 split at he
 case h_2=>cases he
 rename_i d hdst
 split at he
 case isFalse=>cases he
 rename_i hcond
 obtain ⟨c1,c2,hmk,c3,c5,c6⟩:=hcond
 split at he
 case h_2=>cases he
 rename_i xs0 hxs0
 have:=Q.ret_some he
 subst this
 obtain ⟨bs,r1,r2⟩:=qhI h hx hxs h1
 obtain ⟨i,z,k1,k2,k3,k4,k5,k6,k7⟩:=hE.elem' c1
 obtain ⟨ro,et,⟨e,xs⟩⟩:=r
 simp only at c1 c2 hmk c3 c5 c6 r1 r2 hd hc hxs0⊢
 have hee:e= .int .u8:=by
  obtain ⟨e1,_⟩:=Ty.as_some hxs0
  injection e1
 subst hee
 have hzs:xs=xs0:=by
  obtain ⟨e1,e2⟩:=Ty.as_some hxs0
  exact e2
 subst hzs
 obtain ⟨s,qo⟩:=q
 simp only at hd hc⊢
 obtain ⟨e2,hsl⟩:=qau.str (qcH h hy h2)
 obtain ⟨cells,g1,g2,g3⟩:=r1.to0 hmk
 obtain ⟨ty,hr⟩:=hr
 rw [g2] at r2
 have hroom:(xs.length:Int)+(s.length:Int)≤140737488355328:=by
  have:=hc _ (List.mem_singleton.2 rfl)
  rw [qgN,qe,qe] at this
  have:=of_decide_eq_true this
  simpa using this
 have hz:z= .int .u8 0:=by
  have hrep:z.cells.toList=[.int .u8 0]:=(k7 w (fun _=>True)).1
  obtain ⟨i',z',q1,q2,q3,_⟩:=hE.dflt t _ c1
  rw [k2] at q1
  injection q1 with q1
  subst q1
  rw [k4] at q2
  injection q2 with q2
  subst q2
  have q3:=q3 rfl
  cases z with
  |agg cs=>exact absurd rfl (q3 cs)
  |_=>simpa [Value.cells] using hrep
 refine qlI h hmk hdst c6 (hd ⟨d,true,.own et (.int .u8) (qdI xs (qeb s))⟩ (by simp)) r2 g1 g3 ?_
 have hss:(⟨s.toArray⟩:ByteArray).size=s.length:=by simp [ByteArray.size]
 have g1':w.ownsRow 0 et 1 x xs.length cells:=g1
 obtain ⟨v',w',a1,a2,a3,hfresh⟩:=qoc (P:=C.P) (w:=w) (t:=t) (u:=t') (ty:=ty) (e:=et) (i:=i) (by rw [k1,c2]) (hE.str t' c5) (by rw [c2]; exact k2) (by rw [k4,hz]) k3 (by rw [k6,←c2,c3]) g1' ⟨s.toArray⟩ (by rw [hss]; simp only [maxLen]; omega) (by rw [hss]; omega)
 refine ⟨v',w',Lib.strCells ⟨s.toArray⟩,by rw [hr,e2,a1]; rfl,?_,a3,hfresh,fun i u hi=> ?_⟩
 ·rw [show (qeb s).length=s.length by rw [qc5]; simp]
  rw [hss] at a2
  exact a2
 ·rw [qc5] at hi
  rw [List.getElem?_map] at hi
  obtain ⟨b,hb,rfl⟩:=Option.map_eq_some_iff.1 hi
  have:(Lib.strCells ⟨s.toArray⟩)[i]? =some (.int .u8 b.toNat):=by
   simp only [Lib.strCells,List.getElem?_map,hb,Option.map_some]
  show Rep w (C.free w own) (.int .u8) (qcn b) ((List.drop (i * 1) _).take 1)
  rw [qgq this,qfC]
  refine ⟨rfl,?_⟩
  have:=b.toNat_lt
  simp [IntKind.has,IntKind.min,IntKind.max,IntKind.signed,IntKind.bits]
  omega
theorem qtv {k:IntKind} {x y:Int} (hx:k.has x) (hy:k.has y):k.has (qtr x y):=by rw [ql2]; split <;> assumption
theorem qtt {k:IntKind} {x y:Int} (hx:k.has x) (hy:k.has y):k.has (minI x y):=by rw [qjY]; split <;> assumption
theorem qiG {n:Nat} (h:n≤maxLen):IntKind.i64.has (n:Int):=by
 simp only [maxLen] at h
 simp [IntKind.has,IntKind.min,IntKind.max,IntKind.signed,IntKind.bits]
 omega
theorem qR.drewn {tm:Array Value} (h:qR C σ tm w own):qR C σ tm w.drew own:=
 h.world ⟨rfl,rfl,rfl,Nat.le_refl _,fun _ _ _=>rfl⟩
theorem qpH (hE:qbA E C.P) (h:qR C σ a.tmps w own) {t t':Nat} {x y:Op1} {v u:Value} (hx:qbN (sit C σ a.tmps w own) x v) (hy:qbN (sit C σ a.tmps w own) y u) {f:Eff}
  (he:(qor E o t t' x y).run (qi σ)=some f) (hd:∀u∈f.upd,u.s<σ.length) (hc:qc0 f.chk)
  (hr:∃ty,(execOp a.eval o).run C.P w=((Builtin.append_ #[t,t'] ty #[v,u]).run C.P w).andThen fun v w=> .ok (.value v) w):qcW C o a w (qf σ f.upd):=by
 obtain ⟨ty,hr⟩:=hr
 unfold qor at he
 split at he
 case h_2=>cases he
 rename_i et e hxa
 obtain ⟨n,h1,he⟩:=Q.bind_some he
 split at he
 case isFalse=>cases he
 rename_i hcond
 obtain ⟨hty,het,hmk,hsz,hby,hint⟩:=hcond
 have:=Q.ret_some he
 subst this
 obtain ⟨e1,g1⟩:=qdK h hy h1
 have hv:v= .slice none 0 0:=by
  have:=hx.unowned (by rw [hxa]; rfl)
  rw [hxa] at this
  exact this.2
 obtain ⟨kn,htn⟩:∃k,C.P.underlying t'=some (.int k):=by
  unfold qok at hint
  split at hint
  ·rename_i k hk; exact ⟨k,hE.int t' k hk⟩
  ·cases hint
 obtain ⟨i,z,k1,k2,k3,k4,k5,k6,k7⟩:=hE.elem' hty
 have c1:0<n.2:=by have:=hc (ltI 0 n.2) (by simp); simpa [qaZ] using this
 have c2:n.2 * (E.bytes et:Int)≤140737488355328:=by
  have:=hc (qsO n.2 (E.bytes et)) (by simp)
  simp [qlY] at this
  exact this.2
 have c3:n.2≤140737488355328:=by
  have h1:(1:Int)≤(E.bytes et:Int):=by omega
  have h2:n.2 * 1≤n.2 * (E.bytes et:Int):=Int.mul_le_mul_of_nonneg_left h1 (by omega)
  omega
 obtain ⟨m,hm⟩:∃m:Nat,n.2=(m:Int):=⟨n.2.toNat,by omega⟩
 rw [hm] at c1 c2 c3 e1
 have c2':m * i.bytes≤281474976710656:=by
  rw [k6,←het]
  have:((m * E.bytes et:Nat):Int)≤140737488355328:=by rw [Int.natCast_mul]; exact c2
  omega
 have hrun:=Lib.run_append_nil_zeros (P:=C.P) w t t' ty (E.etid t) i z n.1 kn k1 htn k2 k4 m (by omega) (by omega) (by omega) c2'
 have hx2:(execOp a.eval o).run C.P w= .ok (.value (.slice (some ⟨w.heap.size,0,none⟩) m (grownCap w m 0 (E.etid t)))) (w.drew.alloc (.cells (Builtin.zeroCells z.cells m++Builtin.zeroCells z.cells (grownCap w m 0 (E.etid t) - m)) (E.etid t))):=by
  rw [hr,hv,e1,hrun]; rfl
 generalize hcap:grownCap w m 0 (E.etid t)=cap at hx2
 have hge:m≤cap:=by rw [←hcap]; exact grownCap_ge w m 0 (E.etid t)
 have hle:cap≤maxLen:=by rw [←hcap]; exact grownCap_le_maxLen w m 0 (E.etid t) (by simp only [maxLen]; omega)
 generalize hcur:(Builtin.zeroCells z.cells m++Builtin.zeroCells z.cells (cap - m))=cur at hx2
 have hcs:cur.size=cap * e.size:=by
  rw [←hcur,Array.size_append,size_zeroCells,size_zeroCells,k5,←Nat.add_mul]
  congr 1; omega
 have hlr:qo1 n.2 e.dflt=List.replicate m e.dflt:=by rw [qeS,hm]; simp
 rw [hlr,het]
 simp only [hlr,het] at hd
 have hD:=h.drewn
 refine qy hx2 (hD.dst (bs:=[w.heap.size]) (w':=w.drew.alloc (.cells cur (E.etid t))) (qcA.alloc _ _ _) hd (fun b hb=> ?_) (by simp) ?_ (fun m hm=>by cases hm))
 ·simp at hb
  subst hb
  exact ⟨Nat.le_refl _,by show w.heap.size<(w.heap.push _).size; simp⟩
 ·refine qan.to (by rw [←het]; exact hmk) ⟨cur.toList.take (m * e.size),⟨?_,.inr ⟨w.heap.size,cap,cur,by simp,Nat.zero_le _,heap_alloc_new w.drew _,by simpa using hge,hle,hcs,by simp⟩⟩,rfl,fun i x hi=> ?_⟩
  ·rw [List.length_take,Array.length_toList,hcs,List.length_replicate]
   exact Nat.min_eq_left (Nat.mul_le_mul_right _ hge)
  ·have hlt:i<m:=by
    have:=(List.getElem?_eq_some_iff.1 hi).1
    simpa using this
   have hu:x=e.dflt:=List.eq_of_mem_replicate (List.mem_of_getElem? hi)
   have hle2:i * e.size+e.size≤m * e.size:=by
    have:=Nat.mul_le_mul_right e.size (show i+1≤m by omega)
    rw [Nat.add_mul,Nat.one_mul] at this
    exact this
   rw [hu,List.drop_take,List.take_take,Nat.min_eq_left (by omega),←hcur,←k5,qk3 _ _ _ _ hlt]
   exact k7 _ _
theorem qlb {P:Program} (w:World) (t ty e:TypeId) (z:Value) (ht:P.underlying t=some (.slice e)) (hv:∀w,(zeroValue e).run P w= .ok z w) (g o n c:Nat) (cur:List Value) (t':TypeId)
  (hg:w.heap[g]? =some (.cells cur.toArray t' (0,0))) (hn:0<n) (hfit:o+n * z.cells.size≤cur.length) (h1:∀v∈(Builtin.zeroCells z.cells n).toList,v.oneCell'=true):
  (Builtin.clear_ #[t] ty #[.slice (some ⟨g,o,none⟩) n c]).run P w= .ok (.tuple #[]) (w.setRow g (cur.take o++(Builtin.zeroCells z.cells n).toList++cur.drop (o+n * z.cells.size)).toArray):=by
 have hzl:(Builtin.zeroCells z.cells n).toList.length=n * z.cells.size:=by simp [Builtin.zeroCells]
 have hst:=run_storeCells_at P g o t' (Builtin.zeroCells z.cells n).toList 0 cur.toArray w hg (by rw [hzl]; simpa using hfit) h1
 simp only [Nat.add_zero,hzl] at hst
 obtain ⟨m,rfl⟩:∃m,n=m+1:=⟨n - 1,by omega⟩
 simp [Builtin.clear_,run_underlying ht,hv,hst]
theorem qan.clr {P:Program} {F:Nat→Prop} {t ty te:Nat} {z:Value} {et:Nat} {e:Ty} {xs:List e.den} {ad:Option Addr} {n cap:Nat} {bs:List Nat} {lo hi:Int} (ht:P.underlying t=some (.slice te)) (hv:∀w,(zeroValue te).run P w= .ok z w) (hz:z.cells.size=e.size) (hzr:∀w F,Rep w F e e.dflt z.cells.toList) (hsz:e.size≠0)
  (hrow:qan w F et e xs (.slice ad n cap) bs) (hF0:∀x,F x→x∉bs) (c1:0≤lo) (c2:lo≤hi) (c3:hi≤(n:Int)):
  ∃W,(Builtin.clear_ #[t] ty #[sliced ad lo.toNat hi.toNat cap e.size]).run P w= .ok (.tuple #[]) W∧qcA (fun k=>k∈bs) w W∧qan W F et e (qdI (qam xs 0 lo) (qdI (qo1 (qda .i64 hi lo) e.dflt) (qam xs hi (qk xs)))) (.slice ad n cap) bs:=by
 obtain ⟨cells,r1,r2,r3⟩:=hrow
 have hrow':qan w F et e xs (.slice ad n cap) bs:=⟨cells,r1,r2,r3⟩
 obtain ⟨r4,r5⟩:=r1
 obtain ⟨ad',cap',f1,f2⟩:=hrow'.form
 injection f1 with f1 f3 f4
 subst f1; subst f3; subst f4
 have hcm:xs.length≤9223372036854775807:=by
  rcases r5 with ⟨h1,h2⟩|⟨g,cap,cur,h1,_,_,h2,h3,_⟩
  ·omega
  ·simp only [maxLen] at h3; omega
 have hsub:qda .i64 hi lo=hi - lo:=by
  rw [qjS,IntKind.wrap_i64]; omega
 have hys:qdI (qam xs 0 lo) (qdI (qo1 (qda .i64 hi lo) e.dflt) (qam xs hi (qk xs)))=xs.take lo.toNat++(List.replicate (hi.toNat - lo.toNat) e.dflt++xs.drop hi.toNat):=by
  rw [hsub]
  simp only [qbI,qcg,qeS,qe]
  rw [show (hi - lo).toNat=hi.toNat - lo.toNat by omega]
  simp
 rw [hys]
 by_cases heq:lo=hi
 ·subst heq
  refine ⟨w,?_,qcA.refl _ _,?_⟩
  ·have hs0:∃q c,sliced ad lo.toNat lo.toNat cap e.size= .slice q 0 c:=⟨_,_,by simp only [sliced,Nat.sub_self]; rfl⟩
   obtain ⟨q,c,hs0⟩:=hs0
   rw [hs0]
   cases q <;> simp [Builtin.clear_,run_underlying ht]
  ·simpa using hrow'
 rcases r5 with ⟨h1,h2⟩|⟨g,cap,cur,h1,_,hg,hnc,hcap,hcs,htk⟩
 ·omega
 injection h1 with h1 _ h2
 subst h1; subst h2
 have hlo:lo.toNat<xs.length:=by omega
 have hsl:sliced (some ⟨g,0,none⟩) lo.toNat hi.toNat cap e.size= .slice (some ⟨g,lo.toNat * e.size,none⟩) (hi.toNat - lo.toNat) (cap - lo.toNat):=by
  simp only [sliced]
  rw [if_neg (by omega)]
  simp only [Option.map_some,qai,Nat.zero_add]
 have hZl:(Builtin.zeroCells z.cells (hi.toNat - lo.toNat)).toList.length=(hi.toNat - lo.toNat) * e.size:=by simp [Builtin.zeroCells,hz]
 have hcl:cells.length=xs.length * e.size:=r4
 have hcz:cur.toList.length=cap * e.size:=by rw [Array.length_toList]; exact hcs
 have hnc':xs.length * e.size≤cap * e.size:=Nat.mul_le_mul_right _ hnc
 have hmul:lo.toNat * e.size+(hi.toNat - lo.toNat) * e.size=hi.toNat * e.size:=by rw [←Nat.add_mul]; congr 1; omega
 have hhi:hi.toNat * e.size≤xs.length * e.size:=Nat.mul_le_mul_right _ (by omega)
 have hZone:∀v∈(Builtin.zeroCells z.cells (hi.toNat - lo.toNat)).toList,v.oneCell'=true:=fun v hvm=>by
  obtain ⟨i,hi',rfl⟩:=List.getElem_of_mem hvm
  rw [hZl] at hi'
  have h1:=qeT z.cells ((hi.toNat - lo.toNat) * z.cells.size) i (by rw [hz]; exact hi') (by rw [hz]; omega)
  have h2:(Builtin.zeroCells z.cells (hi.toNat - lo.toNat)).toList[i]? =z.cells.toList[i % z.cells.size]? :=h1
  rw [List.getElem?_eq_getElem (by rw [hZl]; exact hi')] at h2
  exact (hzr w F).oneCell _ (List.mem_of_getElem? h2.symm)
 have hrun:=qlb (P:=P) w t ty te z ht hv g (lo.toNat * e.size) (hi.toNat - lo.toNat) (cap - lo.toNat) cur.toList et hg (by omega) (by rw [hz,hcz]; omega) hZone
 rw [hsl]
 refine ⟨_,hrun,?_⟩
 rw [hz]
 have hsp:(cur.toList.take (lo.toNat * e.size)++(Builtin.zeroCells z.cells (hi.toNat - lo.toNat)).toList++cur.toList.drop (lo.toNat * e.size+(hi.toNat - lo.toNat) * e.size)).toArray=(qaR cur.toList (lo.toNat * e.size) (Builtin.zeroCells z.cells (hi.toNat - lo.toNat)).toList).toArray:=by rw [qaR,hZl]
 rw [hsp]
 generalize hZ:(Builtin.zeroCells z.cells (hi.toNat - lo.toNat)).toList=Z at *
 generalize hW:w.setRow g (qaR cur.toList (lo.toNat * e.size) Z).toArray=W
 have hbs:bs=[g]:=by rw [r2]; rfl
 have hkept:qcA (fun k=>k=g) w W:=by rw [←hW]; exact qga _ hg
 have hheap:W.heap[g]? =some (.cells (qaR cur.toList (lo.toNat * e.size) Z).toArray et (0,0)):=by rw [←hW]; exact setRow_heap w g _ _ et _ hg
 have hF:∀x,F x→x<w.heap.size→F x∧x<W.heap.size∧W.heap[x]? =w.heap[x]? :=fun x hx hlt=>⟨hx,Nat.lt_of_lt_of_le hlt hkept.size,hkept.block x hlt fun e=>hF0 x hx (by rw [hbs,e]; exact List.mem_singleton.2 rfl)⟩
 have hspl:(qaR cur.toList (lo.toNat * e.size) Z).length=cur.toList.length:=qem (by rw [hZl,hcz]; omega)
 have hyl:(xs.take lo.toNat++(List.replicate (hi.toNat - lo.toNat) e.dflt++xs.drop hi.toNat)).length=xs.length:=by simp; omega
 refine ⟨hkept.mono fun k hk=>by rw [hbs,hk]; exact List.mem_singleton.2 rfl,?_⟩
 refine ⟨(qaR cur.toList (lo.toNat * e.size) Z).take (xs.length * e.size),⟨?_,.inr ⟨g,cap,_,by rw [hyl],Nat.zero_le _,hheap,by rw [hyl]; exact hnc,hcap,by rw [List.size_toArray,hspl,hcz],by rw [hyl]⟩⟩,r2,?_⟩
 ·rw [List.length_take,hspl,hyl,hcz]; omega
 intro j x hj
 have hjl:j<xs.length:=by
  have:=(List.getElem?_eq_some_iff.1 hj).1
  rw [hyl] at this; exact this
 have hjn:j * e.size+e.size≤xs.length * e.size:=by rw [←Nat.succ_mul]; exact Nat.mul_le_mul_right _ hjl
 rw [qeZ hjl]
 by_cases hz1:lo.toNat≤j∧j<hi.toNat
 ·have hx:x=e.dflt:=by
   rw [List.getElem?_append_right (by rw [List.length_take]; omega),List.getElem?_append_left (by rw [List.length_take,List.length_replicate]; omega)] at hj
   exact List.eq_of_mem_replicate (List.mem_of_getElem? hj)
  have hc:((qaR cur.toList (lo.toNat * e.size) Z).drop (j * e.size)).take e.size=z.cells.toList:=by
   have h0:=qe1 z.cells (hi.toNat - lo.toNat) (j - lo.toNat) (by omega)
   have h0':(Z.drop ((j - lo.toNat) * e.size)).take e.size=z.cells.toList:=by
    rw [←hZ,←hz]; exact h0
   rw [←h0']
   have hjlo:lo.toNat * e.size+(j - lo.toNat) * e.size=j * e.size:=by rw [←Nat.add_mul]; congr 1; omega
   have hjhi:j * e.size+e.size≤hi.toNat * e.size:=by rw [←Nat.succ_mul]; exact Nat.mul_le_mul_right _ hz1.2
   apply List.ext_getElem?
   intro k
   rw [List.getElem?_take,List.getElem?_take]
   split
   ·rename_i hk
    rw [List.getElem?_drop,List.getElem?_drop,qcu (by rw [hZl,hcz]; omega),if_neg (by omega),if_pos (by rw [hZl]; omega)]
    congr 1
    omega
   ·rfl
  rw [hx,hc]
  exact hzr W F
 ·have hx0:xs[j]? =some x:=by
   by_cases hjlo:j<lo.toNat
   ·rw [List.getElem?_append_left (by rw [List.length_take]; omega),List.getElem?_take,if_pos hjlo] at hj
    exact hj
   ·rw [List.getElem?_append_right (by rw [List.length_take]; omega),List.getElem?_append_right (by rw [List.length_take,List.length_replicate]; omega),List.getElem?_drop] at hj
    rw [←hj]
    congr 1
    simp only [List.length_take,List.length_replicate]
    omega
  have hc:((qaR cur.toList (lo.toNat * e.size) Z).drop (j * e.size)).take e.size=(cells.drop (j * e.size)).take e.size:=by
   rw [←htk,qeZ hjl]
   apply List.ext_getElem?
   intro k
   rw [List.getElem?_take,List.getElem?_take]
   split
   ·rename_i hk
    rw [List.getElem?_drop,List.getElem?_drop,qcu (by rw [hZl,hcz]; omega)]
    by_cases hjlo:j<lo.toNat
    ·have:j * e.size+e.size≤lo.toNat * e.size:=by rw [←Nat.succ_mul]; exact Nat.mul_le_mul_right _ hjlo
     rw [if_pos (by omega)]
    ·have:hi.toNat * e.size≤j * e.size:=Nat.mul_le_mul_right _ (by omega)
     rw [if_neg (by omega),if_neg (by rw [hZl]; omega)]
   ·rfl
  rw [hc]
  exact (r3 j x hx0).keep hF
theorem qou (hE:qbA E C.P) (h:qR C σ a.tmps w own) {b:Builtin} {ts:List Nat} {os:List Op1} {vs:List Value} (ho:qki (sit C σ a.tmps w own) os vs) (hos:∀o1∈os,∀s,o1.s=some s→o1.a≠ .undef→s<σ.length)
  {f:Eff} (he:(qmb E o b ts os).run (qi σ)=some f) (hd:∀u∈f.upd,u.s<σ.length) (hc:qc0 f.chk)
  (hr:∃ty cs,(execOp a.eval o).run C.P w=(builtin b ts.toArray ty cs vs.toArray).run C.P w):qcW C o a w (qf σ f.upd):=by
 obtain ⟨ty,cs,hr⟩:=hr
 unfold qmb at he
 split at he
 ·rename_i x
  match vs,ho with
  |[v],ho=>
   obtain ⟨r,h1,he⟩:=Q.bind_some he
   have rx:=qcY h ho.1 h1
   split at he
   ·rename_i e xs _ t _ _
    split at he
    case isFalse=>cases he
    rename_i hty
    have:=qD he
    subst this
    have hu:=(hE.elem t e hty).under
    rcases qau.slice rx with ⟨e1,e2⟩|⟨ad,cap,e1,e2,e3,_⟩
    ·have e2:xs=[]:=e2
     subst e2
     refine qaL h (v:= .int .i64 0) ?_ hd (by rw [qe]; exact qau.ofInt _ _ (qiG (n:=0) (by simp)))
     rw [hr,e1]
     simp [builtin,Builtin.len_,run_underlying hu,goInt]
    ·refine qaL h (v:= .int .i64 (qk xs)) ?_ hd (qau.ofInt _ _ (by rw [qe]; exact qiG (n:=xs.length) (Nat.le_trans e2 e3)))
     rw [hr,e1]
     simp [builtin,Builtin.len_,run_underlying hu,goInt,qe]
   ·rename_i xs _ t _ _
    split at he
    case isFalse=>cases he
    rename_i hty
    have:=qD he
    subst this
    have hu:=hE.str t hty
    obtain ⟨e1,e2⟩:=qau.str rx
    have e2:xs.length≤maxLen:=e2
    refine qaL h (v:= .int .i64 (qk xs)) ?_ hd (qau.ofInt _ _ (by rw [qe]; exact qiG (n:=xs.length) e2))
    rw [hr,e1]
    simp [builtin,Builtin.len_,run_underlying hu,goInt,qe,ByteArray.size_mk']
   ·cases he
 ·rename_i x y
  match vs,ho with
  |[v,u],ho=>
   split at he
   ·rename_i t t'
    split at he
    ·rename_i htt
     subst htt
     split at he
     ·refine qpD hE h ho.1 (hos x (by simp)) ho.2.1 he hd hc ⟨ty,?_⟩
      rw [hr]
      simp only [builtin,Sem.run_bind]
      rfl
     ·refine qpX hE h ho.1 (hos x (by simp)) ho.2.1 he hd hc ⟨ty,?_⟩
      rw [hr]
      simp only [builtin,Sem.run_bind]
      rfl
    ·split at he
     ·refine qpH hE h ho.1 ho.2.1 he hd hc ⟨ty,?_⟩
      rw [hr]
      simp only [builtin,Sem.run_bind]
      rfl
     ·refine qpP hE h ho.1 (hos x (by simp)) ho.2.1 he hd hc ⟨ty,?_⟩
      rw [hr]
      simp only [builtin,Sem.run_bind]
      rfl
   ·cases he
 ·rename_i x
  match vs,ho with
  |[v],ho=>
   split at he
   case h_2=>cases he
   rename_i et e t ts' hxa
   split at he
   case isFalse=>cases he
   rename_i hty
   have:=qD he
   subst this
   have hv:v= .slice none 0 0:=by
    have:=ho.1.unowned (by rw [hxa]; rfl)
    rw [hxa] at this
    exact this.2
   have hu:=(hE.elem t e hty).under
   refine qaL h (v:= .int .i64 0) ?_ hd (qau.ofInt _ _ (qiG (n:=0) (by simp)))
   rw [hr,hv]
   simp [builtin,Builtin.cap_,goInt,run_underlying hu]
 ·rename_i x
  match vs,ho with
  |[v],ho=>
   split at he
   case h_2=>cases he
   rename_i s v0 fo sz lo hi t ts' hxa
   split at he
   case isTrue=>cases he
   rename_i hdst
   rw [Q.run_get] at he
   split at he
   case isFalse=>cases he
   rename_i hver
   split at he
   case h_2=>cases he
   rename_i et e xs hown
   split at he
   case isFalse=>cases he
   rename_i hcond
   obtain ⟨hsz,hsz0,hty,hmk⟩:=hcond
   subst hsz
   split at he
   case h_2=>cases he
   rename_i a' hsw
   have:=qD he
   subst this
   have hop:=ho.1.unowned (by rw [hxa]; rfl)
   rw [hxa] at hop
   obtain ⟨ad,n,cap,k1,c1,c2,c3,k2⟩:=hop.2 hver
   obtain ⟨hsl,b1,b2,b3,q1,q2,q3,q4⟩:=h.rowAt hown k1
   obtain ⟨i,z,m1,m2,m3,m4,m5,m6,m7⟩:=hE.elem' hty
   have hzv:∀w,(zeroValue (E.etid t)).run C.P w= .ok z w:=fun w=>by simp [zeroValue,typeInfo,m2,m4]
   obtain ⟨W,hrun,hkept,hrow'⟩:=qan.clr (ty:=ty) m1 hzv m5 m7 hsz0 (q1.to0 hmk) (fun x hx hm=>hx.2.2 s (by rw [q2]; exact List.mem_append_right _ (List.mem_append_left _ hm))) c1 c2 c3
   obtain ⟨g1,g2⟩:=q4 W (.own et e (qdI (qam xs 0 lo) (qdI (qo1 (qda .i64 hi lo) e.dflt) (qam xs hi (qk xs))))) b2 a' hkept ⟨_,rfl,hrow'.to hmk⟩ hsw
   have hcl:Builtin.clear_ (t::ts').toArray ty #[sliced ad lo.toNat hi.toNat cap e.size]=Builtin.clear_ #[t] ty #[sliced ad lo.toNat hi.toNat cap e.size]:=by simp [Builtin.clear_]
   have hr2:(execOp a.eval o).run C.P w= .ok (.value (.tuple #[])) W:=by
    rw [hr,k2]
    simp only [builtin,Sem.run_bind,hcl,hrun]
    rfl
   refine qy hr2 ⟨own,?_⟩
   have hdn:o.dst=none:=by cases ho:o.dst <;> simp [ho] at hdst⊢
   rw [hdn]
   exact h.mutK hsl q2 q3 hkept (by rw [q2]; exact g1) g2
 ·rename_i x r
  match vs,ho with
  |v::vs,ho=>
   obtain ⟨m,h1,he⟩:=Q.bind_some he
   obtain ⟨n,h2,he⟩:=Q.bind_some he
   have:=qD he
   subst this
   obtain ⟨e1,g1⟩:=qdK h ho.1 h1
   obtain ⟨k1,k2⟩:=qi4 (P:=C.P) h (m2:=Builtin.max2) (fun k x y=>by simp [Builtin.max2,ql2]) (fun k x y=>qtv) r vs m.2 n g1 ho.2 h2
   refine qaL h ?_ hd (qau.ofInt _ _ k2)
   rw [hr,e1]
   simp [builtin,Builtin.max_,k1]
 ·rename_i x r
  match vs,ho with
  |v::vs,ho=>
   obtain ⟨m,h1,he⟩:=Q.bind_some he
   obtain ⟨n,h2,he⟩:=Q.bind_some he
   have:=qD he
   subst this
   obtain ⟨e1,g1⟩:=qdK h ho.1 h1
   obtain ⟨k1,k2⟩:=qi4 (P:=C.P) h (m2:=Builtin.min2) (fun k x y=>by simp [Builtin.min2,qjY]) (fun k x y=>qtt) r vs m.2 n g1 ho.2 h2
   refine qaL h ?_ hd (qau.ofInt _ _ k2)
   rw [hr,e1]
   simp [builtin,Builtin.min_,k1]
 ·cases he
end
end Go.Vi
namespace Go.Vi
open Go.RowKit
theorem qfJ {css:List (List Value)} {i:Nat} {c:List Value} (hi:css[i]? =some c):css.flatten=(css.take i).flatten++c++(css.drop (i+1)).flatten:=by
 obtain ⟨hlt,rfl⟩:=List.getElem?_eq_some_iff.1 hi
 conv=>lhs; rw [←List.take_append_drop i css,List.drop_eq_getElem_cons hlt]
 rw [List.flatten_append,List.flatten_cons,List.append_assoc]
theorem qnb {css:List (List Value)} {i:Nat} {d:List Value} (hi:i<css.length):(css.set i d).flatten=(css.take i).flatten++d++(css.drop (i+1)).flatten:=by
 have h:=qfJ (css:=css.set i d) (i:=i) (c:=d) (by simp [hi])
 rw [h]
 congr 2
 ·rw [List.take_set]
  rw [List.set_eq_of_length_le (by rw [List.length_take]; exact Nat.min_le_left _ _)]
 ·rw [List.drop_set]
  simp
def qiV (css:List (List Value)) (i:Nat):Nat:=(css.take i).flatten.length
theorem qnn (cells:Array Value) (pre c post:List Value) (v:List Value) (hc:cells.toList=pre++c++post) (hl:v.length=c.length):
  ((v.zipIdx 0).foldl (fun cs (x:Value×Nat)=>cs.setIfInBounds (pre.length+x.2) x.1) cells).toList=pre++v++post:=by
 obtain ⟨h1,h2⟩:=Great.foldl_set pre.length v 0 cells
 have hs:cells.size=pre.length+v.length+post.length:=by rw [←Array.length_toList,hc]; simp; omega
 apply List.ext_getElem?
 intro k
 rw [Array.getElem?_toList,h2 k]
 split
 ·rename_i hk
  rw [List.append_assoc,List.getElem?_append_right (by omega),List.getElem?_append_left (by omega)]
  simp
 ·rename_i hk
  rw [←Array.getElem?_toList,hc]
  by_cases h3:k<pre.length
  ·rw [List.append_assoc,List.append_assoc,List.getElem?_append_left h3,List.getElem?_append_left h3]
  ·rw [List.getElem?_append_right (by simp; omega),List.getElem?_append_right (by simp; omega)]
   simp [hl]
theorem qo4 {place:Nat→Option (Nat×Nat)} :∀(parts:List (Nat×Value)) (css:List (List Value)) (cells:Array Value),cells.toList=css.flatten→(∀i c,css[i]? =some c→place i=some (qiV css i,c.length))→
  (∀q∈parts,∃c,css[q.1]? =some c∧q.2.cells.toList.length=c.length)→∃r,Instr.fill place cells parts=some r∧r.toList=(parts.foldl (fun css q=>css.set q.1 q.2.cells.toList) css).flatten
 |[],css,cells,h1,_,_=>⟨cells,rfl,h1⟩
 |(i,v)::rest,css,cells,h1,h2,h3=>by
  obtain ⟨c,k1,k2⟩:=h3 (i,v) (by simp)
  simp only at k1 k2
  have hi:i<css.length:=(List.getElem?_eq_some_iff.1 k1).1
  have hp:=h2 i c k1
  have hsplit:=qfJ k1
  have hsz:cells.size=qiV css i+c.length+(css.drop (i+1)).flatten.length:=by
   rw [←Array.length_toList,h1,hsplit]; simp only [List.length_append,qiV]
  rw [Array.length_toList] at k2
  have hset:=qnb (d:=v.cells.toList) hi
  have hoff:∀j,qiV (css.set i v.cells.toList) j=qiV css j:=fun j=>by
   unfold qiV
   rw [List.take_set]
   by_cases hj:i<j
   ·have hj2:i<(css.take j).length:=by simp; omega
    rw [qnb hj2,qfJ (css:=css.take j) (i:=i) (c:=c) (by rw [List.getElem?_take,if_pos hj]; exact k1)]
    simp only [List.length_append,Array.length_toList,k2]
   ·rw [List.set_eq_of_length_le (by simp; omega)]
  have step:=qnn cells (css.take i).flatten c (css.drop (i+1)).flatten v.cells.toList (by rw [h1]; exact hsplit) (by rw [Array.length_toList]; exact k2)
  have hzip:v.cells.zipIdx.foldl (fun cs (x:Value×Nat)=>cs.setIfInBounds (qiV css i+x.2) x.1) cells=(v.cells.toList.zipIdx 0).foldl (fun cs (x:Value×Nat)=>cs.setIfInBounds ((css.take i).flatten.length+x.2) x.1) cells:=by
   rw [←Array.foldl_toList]
   simp [qiV]
  obtain ⟨r,g1,g2⟩:=qo4 (place:=place) rest (css.set i v.cells.toList) ((v.cells.toList.zipIdx 0).foldl (fun cs (x:Value×Nat)=>cs.setIfInBounds ((css.take i).flatten.length+x.2) x.1) cells) (by rw [step,hset]) (fun j d hj=>by
   rw [hoff j]
   by_cases hij:i=j
   ·subst hij
    rw [List.getElem?_set_self hi] at hj
    injection hj with hj
    subst hj
    rw [hp,show v.cells.toList.length=v.cells.size from Array.length_toList,k2]
   ·rw [List.getElem?_set_ne hij] at hj
    exact h2 j d hj) (fun q hq=>by
   obtain ⟨d,m1,m2⟩:=h3 q (List.mem_cons_of_mem _ hq)
   by_cases hij:i=q.1
   ·rw [←hij] at m1⊢
    rw [k1] at m1
    injection m1 with m1
    subst m1
    exact ⟨_,List.getElem?_set_self hi,by rw [m2,show v.cells.toList.length=v.cells.size from Array.length_toList,k2]⟩
   ·exact ⟨d,by rw [List.getElem?_set_ne hij]; exact m1,m2⟩)
  refine ⟨r,?_,g2⟩
  simp only [Instr.fill,hp]
  have e1:(v.cells.size != c.length)=false:=by simp [k2]
  have e2:¬(qiV css i+v.cells.size > cells.size):=by omega
  have e3:¬(v.cells.size≠c.length||qiV css i+v.cells.size > cells.size)=true:=by simp [k2]; omega
  rw [if_neg e3]
  rw [hzip]
  exact g1
theorem qjn {css:List (List Value)} :∀(parts:List (Nat×Value)) {css:List (List Value)},qiF (parts.map (·.1))=true→∀k,(parts.foldl (fun css q=>css.set q.1 q.2.cells.toList) css)[k]? =
  match parts.find? (fun q=>q.1 == k) with
  |some q=>if k<css.length then some q.2.cells.toList else none
  |none=>css[k]?
 |[],css,_,k=>rfl
 |(i,v)::rest,css,hn,k=>by
  simp only [List.map_cons,qiF,Bool.and_eq_true,Bool.not_eq_true'] at hn
  rw [List.foldl_cons,qjn (css:=css) rest hn.2 k,List.find?_cons]
  by_cases hik:i=k
  ·subst hik
   have:rest.find? (fun q=>q.1 == i)=none:=by
    rw [List.find?_eq_none]
    intro q hq he
    have he:q.1=i:=by simpa using he
    have:(rest.map (·.1)).contains i=true:=by simp; exact ⟨q.2,by rw [←he]; exact hq⟩
    rw [this] at hn
    cases hn.1
   rw [this]
   simp [List.getElem?_set]
  ·have e:(i == k)=false:=by simp [hik]
   rw [e]
   simp only [List.length_set]
   cases rest.find? (fun q=>q.1 == k) with
   |some q=>rfl
   |none=>simp [hik]
section
variable {C:Ctx} {E:Env} {σ:St} {tm:Array Value} {a:Act} {w w':World} {own:Nat→List Nat} {o:Oper} {p:qgw} [Tabbed E C]
def qeA (X:Sit):List (Nat×Op1)→List (Nat×Value)→Prop
 |[],[]=>True
 |o::os,v::vs=>o.1=v.1∧qbN X o.2 v.2∧qeA X os vs
 |_,_=>False
theorem qgL (h:qR C σ a.tmps w own) (hp:qbK (sit C σ a.tmps w own) p) {tid:Nat→Nat} :∀(xs:List (Nat×Operand)) {os:List (Nat×Op1)},(qiN E p tid xs).run (qi σ)=some os→qeA (sit C σ a.tmps w own) os (xs.map fun x=>(x.1,a.eval x.2))
 |[],os,he=>by
  have:=Q.ret_some he
  subst this
  trivial
 |(i,x)::xs,os,he=>by
  obtain ⟨o1,h1,he⟩:=Q.bind_some he
  obtain ⟨r,h2,he⟩:=Q.bind_some he
  have:=Q.ret_some he
  subst this
  exact ⟨rfl,qax h hp h1,qgL h hp xs h2⟩
theorem qeA.find {X:Sit} (k:Nat): {os:List (Nat×Op1)} → {vs:List (Nat×Value)} →qeA X os vs→
  (match os.find? (fun q=>q.1 == k) with
   |some q=>∃v,vs.find? (fun q=>q.1 == k)=some v∧qbN X q.2 v.2
   |none=>vs.find? (fun q=>q.1 == k)=none)
 |[],[],_=>rfl
 |(i,o)::os,(j,v)::vs,⟨h1,h2,h3⟩=>by
  simp only at h1
  subst h1
  rw [List.find?_cons,List.find?_cons]
  by_cases hik:i=k
  ·subst hik
   simp
   exact h2
  ·have e:(i == k)=false:=by simp [hik]
   simp only [e]
   exact h3.find k
theorem qeA.map {X:Sit} : {os:List (Nat×Op1)} → {vs:List (Nat×Value)} →qeA X os vs→os.map (·.1)=vs.map (·.1)
 |[],[],_=>rfl
 |(i,o)::os,(j,v)::vs,⟨h1,_,h3⟩=>by simp [h3.map,show i=j from h1]
theorem qlt {F:Nat→Prop} {c d:BC} {c1 c2:List Value} {b1 b2:List Nat} (h1:qar w F c c1 b1) (h2:qar w F d c2 b2):qar w F (qgA.pairBC c d) (c1++c2) (b1++b2):=by
 unfold qgA.pairBC
 split
 ·exact ⟨by rw [h1.1,h2.1]; rfl,c1,c2,rfl,h1.2,h2.2⟩
 ·exact ⟨c1,c2,b1,b2,rfl,rfl,h1,h2⟩
theorem qdG: {l:List Nat} →qiF l=true→l.Nodup
 |[],_=>List.nodup_nil
 |a::l,h=>by
  simp only [qiF,Bool.and_eq_true,Bool.not_eq_true'] at h
  refine List.nodup_cons.2 ⟨fun hm=> ?_,qdG h.2⟩
  have:l.contains a=true:=by simpa using hm
  rw [this] at h
  cases h.1
theorem qro {F:Nat→Prop} {A B:Ty} {z za zb:BC} {zs:List Value} (hz:qar w F z zs []) (hs:z.size=A.size+B.size) (he:qoH A B z=some (za,zb)):
  ∃z1 z2,zs=z1++z2∧qar w F za z1 []∧qar w F zb z2 []∧za.size=A.size∧zb.size=B.size:=by
 cases z with
 |pair c d=>
  simp only [qoH] at he
  split at he
  ·rename_i h1
   injection he with he
   injection he with e1 e2
   subst e1 e2
   obtain ⟨c1,c2,b1,b2,h2,h3,h4,h5⟩:=hz
   obtain ⟨rfl,rfl⟩:=List.append_eq_nil_iff.1 h3.symm
   have hs:c.size+d.size=A.size+B.size:=hs
   exact ⟨c1,c2,h2,h4,h5,h1,by omega⟩
  ·cases he
 |val t x=>
  cases t with
  |pair a' b'=>
   simp only [qoH] at he
   split at he
   ·rename_i h1
    injection he with he
    injection he with e1 e2
    subst e1 e2
    obtain ⟨_,c1,c2,h2,h3,h4⟩:=hz
    have hs:a'.size+b'.size=A.size+B.size:=hs
    exact ⟨c1,c2,h2,⟨rfl,h3⟩,⟨rfl,h4⟩,h1,by show b'.size=_; omega⟩
   ·cases he
  |_=>cases he
 |_=>cases he
theorem qj4 (h:qR C σ a.tmps w own) {ps:List (Nat×Op1)} {vs:List (Nat×Value)} (hps:qeA (sit C σ a.tmps w own) ps vs):(T:Ty)→(i:Nat)→ {z:BC} → {zs:List Value} → {r:BC×List Nat} →qar w (C.free w own) z zs []→z.size=T.size→(qgA z T i ps).run (qi σ)=some r→r.2.Nodup→
  ∃(css zss:List (List Value)) (bs:List Nat),zs=zss.flatten∧zss.map List.length=qaS T∧css.map List.length=qaS T∧qar w (C.free w own) r.1 css.flatten bs∧(∀b∈bs,∃s∈r.2,b∈own s)∧bs.Nodup∧
   (∀k,k<css.length→css[k]? =match vs.find? (fun q=>q.1 == i+k) with
    |some q=>some q.2.cells.toList
    |none=>zss[k]?)∧∀k q,k<css.length→vs.find? (fun q=>q.1 == i+k)=some q→some q.2.cells.toList.length=(qaS T)[k]?
 | .pair A B,i,z,zs,r,hz,hzs,he,hn=>by
  unfold qgA at he
  have hf:=hps.find i
  simp only at he
  split at he
  case h_2=>cases he
  rename_i za zb hsp
  obtain ⟨z1,z2,rfl,hz1,hz2,hs1,hs2⟩:=qro hz hzs hsp
  have hl1:z1.length=A.size:=by rw [hz1.length,hs1]
  split at he
  ·rename_i q hq
   rw [hq] at hf
   obtain ⟨v,hv,ho⟩:=hf
   obtain ⟨c,h1,he⟩:=Q.bind_some he
   split at he
   case isFalse=>cases he
   rename_i hemp
   obtain ⟨r',h2,he⟩:=Q.bind_some he
   have:=Q.ret_some he
   subst this
   obtain ⟨bs0,k1,k2,k3,k4⟩:=qg3 h ho h1 (by simpa using hemp)
   have hn':=List.nodup_append.1 hn
   obtain ⟨css,zss,bs,g1,g2,g2',g3,g4,g5,g6,g7⟩:=qj4 h hps B (i+1) hz2 hs2 h2 hn'.2.1
   have hb0:∀b∈bs0,∃s∈c.2.2.map (·.s),b∈own s:=by
    intro b hb
    rcases k4 with ⟨_,e⟩|⟨s,e1,e2⟩
    ·rw [e] at hb; cases hb
    ·exact ⟨s,by rw [e1]; simp,by rw [←e2]; exact hb⟩
   refine ⟨v.2.cells.toList::css,z1::zss,bs0++bs,by rw [List.flatten_cons,g1],by simp [qaS,g2,hl1],by rw [List.map_cons,g2',k2]; rfl,?_,?_,?_,?_,?_⟩
   ·rw [List.flatten_cons]
    exact qlt k1 g3
   ·intro b hb
    rcases List.mem_append.1 hb with hb|hb
    ·obtain ⟨s,hs,hb⟩:=hb0 b hb
     exact ⟨s,List.mem_append_left _ hs,hb⟩
    ·obtain ⟨s,hs,hb⟩:=g4 b hb
     exact ⟨s,List.mem_append_right _ hs,hb⟩
   ·refine List.nodup_append.2 ⟨?_,g5,fun b hb b' hb' e=> ?_⟩
    ·rcases k4 with ⟨_,e⟩|⟨s,_,e⟩
     ·rw [e]; exact List.nodup_nil
     ·rw [e]; exact h.nodup s
    ·subst e
     obtain ⟨s,hs,hb⟩:=hb0 b hb
     obtain ⟨s',hs',hb'⟩:=g4 b hb'
     have:=h.apart s s' b hb hb'
     subst this
     exact hn'.2.2 s hs s hs' rfl
   ·intro k hk
    cases k with
    |zero=>rw [Nat.add_zero,hv]; rfl
    |succ k=>
     have:=g6 k (by simpa using hk)
     rw [show i+1+k=i+(k+1) from by omega] at this
     exact this
   ·intro k q' hk hq'
    cases k with
    |zero=>
     rw [Nat.add_zero,hv] at hq'
     injection hq' with hq'
     subst hq'
     rw [k2]; rfl
    |succ k=>exact g7 k q' (by simpa using hk) (by rw [show i+1+k=i+(k+1) from by omega]; exact hq')
  ·rename_i hq
   rw [hq] at hf
   obtain ⟨r',h2,he⟩:=Q.bind_some he
   have:=Q.ret_some he
   subst this
   obtain ⟨css,zss,bs,g1,g2,g2',g3,g4,g5,g6,g7⟩:=qj4 h hps B (i+1) hz2 hs2 h2 hn
   refine ⟨z1::css,z1::zss,bs,by rw [List.flatten_cons,g1],by simp [qaS,g2,hl1],by rw [List.map_cons,g2',hl1]; rfl,?_,g4,g5,?_,?_⟩
   ·rw [List.flatten_cons]
    exact qlt (b1:=[]) hz1 g3
   ·intro k hk
    cases k with
    |zero=>rw [Nat.add_zero,hf]; rfl
    |succ k=>
     have:=g6 k (by simpa using hk)
     rw [show i+1+k=i+(k+1) from by omega] at this
     exact this
   ·intro k q' hk hq'
    cases k with
    |zero=>rw [Nat.add_zero,hf] at hq'; cases hq'
    |succ k=>exact g7 k q' (by simpa using hk) (by rw [show i+1+k=i+(k+1) from by omega]; exact hq')
 | .unit,i,z,zs,r,hz,hzs,he,hn=>by
  have:=Q.ret_some he
  subst this
  have hz:zs=[]:=List.eq_nil_of_length_eq_zero (by rw [hz.length,hzs]; rfl)
  subst hz
  exact ⟨[],[],[],rfl,rfl,rfl,⟨rfl,rfl⟩,fun b hb=>(by cases hb),List.nodup_nil,fun k hk=>(by cases hk),fun k q hk=>(by cases hk)⟩
 | .int _,_,_,_,_,_,_,he,_=>by cases he
 | .bool,_,_,_,_,_,_,he,_=>by cases he
 | .str,_,_,_,_,_,_,he,_=>by cases he
 | .err,_,_,_,_,_,_,he,_=>by cases he
 | .opt _,_,_,_,_,_,_,he,_=>by cases he
 | .map _ _,_,_,_,_,_,_,he,_=>by cases he
 | .slice _,_,_,_,_,_,_,he,_=>by cases he
 | .arr _ _,_,_,_,_,_,_,he,_=>by cases he
end
end Go.Vi
namespace Go.Vi
open Go.RowKit
def qeO:Ty→Nat→List (Nat×Nat)
 | .pair a b,off=>(off,a.size)::qeO b (off+a.size)
 |_,_=>[]
theorem qnh:(T:Ty)→ {zss:List (List Value)} →(off:Nat)→zss.map List.length=qaS T→ {i:Nat} → {c:List Value} →zss[i]? =some c→(qeO T off)[i]? =some (off+qiV zss i,c.length)
 | .pair a b,[],_,hz,_,_,hc=>by cases hc
 | .pair a b,z::zss,off,hz,i,c,hc=>by
  simp only [qaS,List.map_cons,List.cons.injEq] at hz
  cases i with
  |zero=>
   injection hc with hc
   subst hc
   simp [qeO,qiV,hz.1]
  |succ i=>
   have:=qnh b (off+a.size) hz.2 (i:=i) (c:=c) hc
   simp only [qeO,List.getElem?_cons_succ,this,qiV,List.take_succ_cons,List.flatten_cons,List.length_append,hz.1,Nat.add_assoc]
 | .unit,zss,_,hz,_,_,hc=>by simp [qaS] at hz; subst hz; cases hc
 | .int _,zss,_,hz,_,_,hc=>by simp [qaS] at hz; subst hz; cases hc
 | .bool,zss,_,hz,_,_,hc=>by simp [qaS] at hz; subst hz; cases hc
 | .str,zss,_,hz,_,_,hc=>by simp [qaS] at hz; subst hz; cases hc
 | .err,zss,_,hz,_,_,hc=>by simp [qaS] at hz; subst hz; cases hc
 | .opt _,zss,_,hz,_,_,hc=>by simp [qaS] at hz; subst hz; cases hc
 | .map _ _,zss,_,hz,_,_,hc=>by simp [qaS] at hz; subst hz; cases hc
 | .slice _,zss,_,hz,_,_,hc=>by simp [qaS] at hz; subst hz; cases hc
 | .arr _ _,zss,_,hz,_,_,hc=>by simp [qaS] at hz; subst hz; cases hc
theorem qlq {P:Program} (w:World):(fs:List Field)→(T:Ty)→(off:Nat)→Lay P fs T off→(fs.mapM fun (f:Field)=>Prod.mk f.offset<$> sizeOf f.type).run P w= .ok (qeO T off) w
 |[],.unit,_,_=>rfl
 |f::fs,.pair a b,off,⟨h1,h2,h3⟩=>by
  have:=qlq w fs b (off+a.size) h3
  simp [List.mapM_cons,h2,this,qeO,h1]
 |[],.pair _ _,_,h=>by cases h
 |[],.int _,_,h=>by cases h
 |[],.bool,_,h=>by cases h
 |[],.str,_,h=>by cases h
 |[],.err,_,h=>by cases h
 |[],.opt _,_,h=>by cases h
 |[],.map _ _,_,h=>by cases h
 |[],.slice _,_,h=>by cases h
 |[],.arr _ _,_,h=>by cases h
 |_::_,.unit,_,h=>by cases h
 |_::_,.int _,_,h=>by cases h
 |_::_,.bool,_,h=>by cases h
 |_::_,.str,_,h=>by cases h
 |_::_,.err,_,h=>by cases h
 |_::_,.opt _,_,h=>by cases h
 |_::_,.map _ _,_,h=>by cases h
 |_::_,.slice _,_,h=>by cases h
 |_::_,.arr _ _,_,h=>by cases h
theorem qp4 {vs:List (Nat×Value)} (hn:qiF (vs.map (·.1))=true) {q:Nat×Value} (hq:q∈vs):vs.find? (fun r=>r.1 == q.1)=some q:=by
 induction vs with
 |nil=>cases hq
 |cons v vs ih=>
  simp only [List.map_cons,qiF,Bool.and_eq_true,Bool.not_eq_true'] at hn
  rw [List.find?_cons]
  rcases List.mem_cons.1 hq with rfl|hq
  ·simp
  ·have:v.1≠q.1:=fun e=>by
    have:(vs.map (·.1)).contains v.1=true:=by simp; exact ⟨q.2,by rw [e]; exact hq⟩
    rw [this] at hn
    cases hn.1
   have e:(v.1 == q.1)=false:=by simp [this]
   rw [e]
   exact ih hn.2 hq
section
variable {C:Ctx} {E:Env} {σ:St} {tm:Array Value} {a:Act} {w w':World} {own:Nat→List Nat} {o:Oper} {p:qgw} [Tabbed E C]
theorem qqK {X:Sit} {c:BC} {cs:List Value} {bs:List Nat} (ha:∀t x,c= .val t x→t.agg=true) (h:qar X.w X.F c cs bs):qak X (qpS c) (.agg cs.toArray) bs:=by
 unfold qpS
 split
 ·rename_i t x
  refine ⟨h.1,by simpa [Value.cells] using h.2,fun _=>⟨_,rfl⟩,fun hf=> ?_⟩
  rw [ha t x rfl] at hf
  cases hf
 ·exact ⟨cs,rfl,h⟩
theorem qlc (c:BC):(qpS c).mentions=[]:=by
 unfold qpS
 split <;> rfl
theorem qpF {ps:List (Nat×Op1)} {T:Ty} {i:Nat} {r:BC×List Nat} {lk:Nat→Ent} {z:BC} (he:(qgA z T i ps).run lk=some r):T.struct=true∧∀t x,r.1= .val t x→t.agg=true:=by
 cases T with
 |pair A B=>
  refine ⟨rfl,fun t x hx=> ?_⟩
  unfold qgA at he
  simp only at he
  split at he
  case h_2=>cases he
  split at he
  ·obtain ⟨c,_,he⟩:=Q.bind_some he
   split at he
   ·obtain ⟨r',_,he⟩:=Q.bind_some he
    have:=Q.ret_some he
    subst this
    simp only [qgA.pairBC] at hx
    split at hx
    ·injection hx with h1 h2
     subst h1
     rfl
    ·cases hx
   ·cases he
  ·obtain ⟨r',_,he⟩:=Q.bind_some he
   have:=Q.ret_some he
   subst this
   simp only [qgA.pairBC] at hx
   split at hx
   ·injection hx with h1 h2
    subst h1
    rfl
   ·cases hx
 |unit=>
  have:=Q.ret_some he
  subst this
  refine ⟨rfl,fun t x hx=> ?_⟩
  injection hx with h1 h2
  subst h1
  rfl
 |_=>cases he
theorem qjb {X:Sit} :∀(k:Nat) {ps:List (Nat×Op1)} {vs:List (Nat×Value)},qeA X ps vs→qi6 k ps=true→vs=((vs.map (·.2)).zipIdx k).map fun x=>(x.2,x.1)
 |k,[],[],_,_=>rfl
 |k,p::ps,v::vs,⟨h1,_,h3⟩,h=>by
  simp only [qi6,Bool.and_eq_true] at h
  have e:p.1=k:=by simpa using h.1
  rw [List.map_cons,List.zipIdx_cons,List.map_cons,←qjb (k+1) h3 h.2,←e,h1]
 |_,[],_::_,h,_=>by cases h
 |_,_::_,[],h,_=>by cases h
theorem FW.mono {X:Sit} {a b:List Nat} (h:∀s∈a,s∈b) {x:Nat} (hx:FW X a x):FW X b x:=by
 rcases hx with hx|⟨s,hs,hx⟩
 ·exact .inl hx
 ·exact .inr ⟨s,h s hs,hx⟩
theorem qhQ (h:qR C σ a.tmps w own) {e:Ty} :∀(n:Nat) (ps:List (Nat×Op1)) (vs:List (Nat×Value)) {r:List e.den×List Nat},qeA (sit C σ a.tmps w own) ps vs→(qii e n (ps.map (·.2))).run (qi σ)=some r→
  vs.length=n∧r.1.length=n∧∀(i:Nat) x v,r.1[i]? =some x→vs[i]? =some v→qau w (FW (sit C σ a.tmps w own) r.2) e x v.2
 |0,[],[],r,_,he=>by
  have:=Q.ret_some he
  subst this
  exact ⟨rfl,rfl,fun i x v hx=>by cases hx⟩
 |n+1,p::ps,v::vs,r,⟨h1,h2,h3⟩,he=>by
  obtain ⟨x,k1,he⟩:=Q.bind_some he
  obtain ⟨r',k2,he⟩:=Q.bind_some he
  have:=Q.ret_some he
  subst this
  obtain ⟨g1,g2,g3⟩:=qhQ h n ps vs h3 k2
  refine ⟨by simp [g1],by simp [g2],fun i y u hy hu=> ?_⟩
  cases i with
  |zero=>
   injection hy with hy
   injection hu with hu
   subst hy; subst hu
   exact (qcH h h2 k1).mono fun b hb _=>FW.mono (fun s hs=>List.mem_append_left _ hs) hb
  |succ i=>exact (g3 i y u hy hu).mono fun b hb _=>FW.mono (fun s hs=>List.mem_append_right _ hs) hb
 |0,_::_,_,_,_,he=>by cases he
 |n+1,[],_,_,_,he=>by cases he
 |0,[],_::_,_,h,_=>by cases h
 |n+1,_::_,[],_,h,_=>by cases h
theorem qqj (hE:qbA E C.P) (h:qR C σ a.tmps w own) {t n:Nat} {e:Ty} {parts:Array (Nat×Operand)} (hop:o.op= .build t parts) {ps:List (Nat×Op1)} {vs:List (Nat×Value)} (hvs:(parts.toList.map fun x=>(x.1,a.eval x.2))=vs) (hps:qeA (sit C σ a.tmps w own) ps vs) (hty:E.ty t=some (.arr n e)) {f:Eff}
  (he:((if qi6 0 ps&&(decide (0<n * e.size)&&decide ((E.zero t).map BC.size=some (n * e.size))) then (qii e n (ps.map (·.2))).bind fun r=>(if e.flat then Q.ret [] else qbR r.2).bind fun fz=>okE (fz++qbG o (.val (.arr n e) r.1)) else .fail:Q Eff)).run (qi σ)=some f) (hd:∀u∈f.upd,u.s<σ.length):qcW C o a w (qf σ f.upd):=by
 split at he
 case isFalse=>cases he
 rename_i hcond
 simp only [Bool.and_eq_true,decide_eq_true_eq] at hcond
 obtain ⟨c1,c2,c3⟩:=hcond
 obtain ⟨r,h2,he⟩:=Q.bind_some he
 obtain ⟨fz,h3,he⟩:=Q.bind_some he
 have:=qD he
 subst this
 obtain ⟨g1,g2,g3⟩:=qhQ h n ps vs hps h2
 have hpos:0<e.size:=Nat.pos_of_mul_pos_left c2
 have hlenv:∀v∈vs.map (·.2),v.cells.size=e.size:=by
  intro v hv
  obtain ⟨q,hq,rfl⟩:=List.mem_map.1 hv
  obtain ⟨j,hj,rfl⟩:=List.getElem_of_mem hq
  have:=(g3 j _ _ (List.getElem?_eq_getElem (by omega)) (List.getElem?_eq_getElem hj)).1.length
  simpa using this
 obtain ⟨c,hzc,hcs⟩:=Option.map_eq_some_iff.1 c3
 obtain ⟨i,z,k1,k2,k3⟩:=hE.zero t c hzc
 have hzl:z.cells.size=n * e.size:=by
  have:=(k3 w (C.free w own)).length
  rw [hcs] at this
  simpa using this
 have hfill:=Great.fill_whole hpos (vs.map (·.2)) z.cells hlenv (by simp [g1,hzl])
 rw [←qjb 0 hps c1] at hfill
 have hm:(parts.map fun (i,x)=>(i,a.eval x)).toList=vs:=by rw [←hvs]; simp
 have hsz:=congrFun (hE.size t e (.inr ⟨n,hty⟩)) w
 have hrun:(execOp a.eval o).run C.P w= .ok (.value (.agg ((vs.map (·.2)).flatMap fun v=>v.cells.toList).toArray)) w:=by
  unfold execOp
  rw [hop]
  simp only [Sem.run_bind,Instr.build,zeroValue,typeInfo,Sem.run_pure,Result.andThen_ok,run_underlying (hE.arr t n e hty),hm]
  simp [hfill,k1,k2,hsz]
 refine qgS h hrun h3 hd ?_
 refine ⟨⟨g2,(vs.map (·.2)).map (fun v=>v.cells.toList),by simp [g1],?_,fun j x c hj hc=> ?_⟩,fun _=>⟨_,rfl⟩,fun hf=>by cases hf⟩
 ·show ((vs.map (·.2)).flatMap fun v=>v.cells.toList).toArray.toList=_
  rw [List.toList_toArray,List.flatMap_def]
 ·rw [List.getElem?_map] at hc
  obtain ⟨v,hv,rfl⟩:=Option.map_eq_some_iff.1 hc
  rw [List.getElem?_map] at hv
  obtain ⟨q,hq,rfl⟩:=Option.map_eq_some_iff.1 hv
  exact (g3 j x q hj hq).1
theorem qpN (hE:qbA E C.P) (h:qR C σ a.tmps w own) (hp:qbK (sit C σ a.tmps w own) p) {t:Nat} {parts:Array (Nat×Operand)} (hop:o.op= .build t parts) {f:Eff}
  (he:(qdv E p o).run (qi σ)=some f) (hd:∀u∈f.upd,u.s<σ.length) (hc:qc0 f.chk):qcW C o a w (qf σ f.upd):=by
 unfold qdv at he
 rw [hop] at he
 obtain ⟨ps,h1,he⟩:=Q.bind_some he
 have hps:=qgL h hp parts.toList h1
 generalize hvs:(parts.toList.map fun x=>(x.1,a.eval x.2))=vs at hps
 split at he
 ·rename_i n e hty
  exact qqj hE h hop hvs hps hty he hd
 case h_3=>cases he
 rename_i T _ hty
 obtain ⟨r,h2,he⟩:=Q.bind_some he
 split at he
 case h_2=>cases he
 rename_i d hdst
 split at he
 case isFalse=>cases he
 rename_i hcond
 simp only [Bool.and_eq_true] at hcond
 obtain ⟨⟨c1,c2⟩,c3⟩:=hcond
 have:=qD he
 subst this
 have hnd:=List.nodup_cons.1 (qdG c1)
 obtain ⟨hst,hag⟩:=qpF h2
 obtain ⟨fs,z,i,s1,s2,s3,s4,s5⟩:=hE.struct t T hty hst
 obtain ⟨hz0,hz1⟩:qar w (C.free w own) (if E.ownz=true then (E.zero t).getD (.val T T.dflt) else .val T T.dflt) z.cells.toList []∧(if E.ownz=true then (E.zero t).getD (.val T T.dflt) else BC.val T T.dflt).size=T.size:=by
  have key:qar w (C.free w own) (if E.ownz=true then (E.zero t).getD (.val T T.dflt) else .val T T.dflt) z.cells.toList []:=by
   split
   ·cases hzz:E.zero t with
    |none=>exact ⟨rfl,s4 w (C.free w own)⟩
    |some c=>
     obtain ⟨i',z',k1,k2,k3⟩:=hE.zero t c hzz
     rw [s2] at k1
     injection k1 with k1
     subst k1
     rw [s3] at k2
     injection k2 with k2
     subst k2
     exact k3 w _
   ·exact ⟨rfl,s4 w (C.free w own)⟩
  exact ⟨key,by rw [←key.length]; exact (s4 w (C.free w own)).length⟩
 obtain ⟨css,zss,bs,g1,g2,g2',g3,g4,g5,g6,g7⟩:=qj4 h hps T 0 (zs:=z.cells.toList) hz0 hz1 h2 hnd.2
 have hvd:qiF (vs.map (·.1))=true:=by rw [←hps.map]; exact c2
 have hlen:zss.length=css.length:=by
  have e1:=congrArg List.length g2
  have e2:=congrArg List.length g2'
  simp at e1 e2
  omega
 have hbound:∀q∈vs,q.1<css.length:=by
  intro q hq
  have:q.1∈ps.map (·.1):=by rw [hps.map]; exact List.mem_map_of_mem hq
  obtain ⟨q',hq',e⟩:=List.mem_map.1 this
  have:=List.all_eq_true.1 c3 q' hq'
  have h3:q'.1<(qaS T).length:=of_decide_eq_true this
  rw [e,←g2',List.length_map] at h3
  exact h3
 obtain ⟨rr,f1,f2⟩:=qo4 (place:=fun i=>(qeO T 0).toArray[i]?) vs zss z.cells g1 (fun i c hi=>by
  have:=qnh T 0 g2 hi
  simpa using this) (fun q hq=>by
  have hb:=hbound q hq
  have:=g7 q.1 q hb (by rw [Nat.zero_add]; exact qp4 hvd hq)
  rw [←g2,List.getElem?_map] at this
  have hz:zss[q.1]? =some (zss[q.1]'(by omega)):=List.getElem?_eq_getElem (by omega)
  rw [hz] at this
  exact ⟨_,hz,by injection this⟩)
 have hfin:vs.foldl (fun css q=>css.set q.1 q.2.cells.toList) zss=css:=by
  apply List.ext_getElem?
  intro k
  rw [qjn (css:=zss) vs hvd k]
  by_cases hk:k<css.length
  ·rw [g6 k hk]
   simp only [Nat.zero_add]
   cases vs.find? (fun q=>q.1 == k) with
   |none=>rfl
   |some q=>simp [show k<zss.length by omega]
  ·rw [List.getElem?_eq_none (show css.length≤k by omega)]
   cases vs.find? (fun q=>q.1 == k) with
   |none=>simp only; rw [List.getElem?_eq_none (by omega)]
   |some q=>simp [show ¬k<zss.length by omega]
 rw [hfin] at f2
 have hrr:rr=css.flatten.toArray:=by rw [←f2]
 subst hrr
 have hrun:(execOp a.eval o).run C.P w= .ok (.value (.agg css.flatten.toArray)) w:=by
  unfold execOp
  rw [hop]
  have hm:(parts.map fun (i,x)=>(i,a.eval x)).toList=vs:=by rw [←hvs]; simp
  have hpl:=qlq w fs.toList T 0 s5
  simp only [Sem.run_bind,Instr.build,zeroValue,typeInfo,s2,s3,Sem.run_pure,Result.andThen_ok,run_underlying s1,hm]
  rw [Array.mapM_eq_mapM_toList]
  have f1':Instr.fill (fun x=>(qeO T 0)[x]?) z.cells vs=some css.flatten.toArray:=by simpa using f1
  simp [hpl,f1',s2,s3]
 refine qy hrun ?_
 rw [qes a hdst]
 refine h.mut (hd ⟨d,true,qpS r.1⟩ (by simp)) r.2 (fun s hs=>⟨hd ⟨s,true,.undef⟩ (by simp; exact .inl hs),fun e=>hnd.1 (by have e:s=d:=e; exact e ▸ hs)⟩) (qcA.refl _ _) (fun b hb=> .inr (.inr (g4 b hb))) g5 (qqK hag g3) (qlc _)
theorem qjJ {P:Program} {t:Nat} {i:TypeInfo} (h:P.info? t=some i):(sizeOf t).run P w= .ok i.size w:=by
 simp [sizeOf,typeInfo,h]
theorem qqx (hE:qbA E C.P) (h:qR C σ a.tmps w own) {t n:Nat} {e:Ty} {parts:Array (Nat×Operand)} (hop:o.op= .buildSlice t n parts) (hty:E.ty t=some (.slice e)) {ps:List (Nat×Op1)} {vs:List (Nat×Value)}
  (hps:qeA (sit C σ a.tmps w own) ps vs) (hvs:(parts.toList.map fun x=>(x.1,a.eval x.2))=vs) {f:Eff} (he:qqW E o t n e ps=some f) (hd:∀u∈f.upd,u.s<σ.length):qcW C o a w (qf σ f.upd):=by
 unfold qqW at he
 split at he
 case h_2=>cases he
 rename_i j x1
 obtain ⟨xs,xv,xa⟩:=x1
 split at he
 case h_2=>cases he
 rename_i d s c hdst h1 h2
 simp only at h1 h2
 subst h1; subst h2
 split at he
 case isFalse=>cases he
 rename_i hcond
 obtain ⟨rfl,rfl,hne,hsz,hag,hpos,hsmall,hsnd,hbb,hmm⟩:=hcond
 split at he
 case h_2=>cases he
 rename_i y hy
 injection he with he
 subst he
 match vs,hps with
 |[(j',v)],hps=>
 obtain ⟨hj,ho,_⟩:=hps
 have hj:0=j':=hj
 subst hj
 obtain ⟨hv0,_,cs,hv,hb⟩:=ho
 have hb:qar w (C.free w own) c cs (own s):=hb
 subst hv
 have hcl:cs.length=e.size:=by rw [hb.length,hsz]
 have hdl:d<σ.length:=hd ⟨d,true,.own (qny E.msk (E.etid t)) e [y]⟩ (by simp)
 obtain ⟨b1,q1,q2⟩:=qp7 e hb hsz hy
 obtain ⟨i,z,k1,k2,k3,k4,k5,k6,k7⟩:=hE.elem' hty
 have hfill:=Great.fill_whole hpos ([(0,Value.agg cs.toArray)].map (·.2)) ((Array.range (1 * i.size)).map (z.cells[· % z.cells.size]!)) (by simp [Value.cells,hcl]) (by simp [k3])
 have hrun:=run_buildSlice (P:=C.P) w t (E.etid t) 1 #[(0,Value.agg cs.toArray)] cs.toArray i z k1 k2 k4 (by rw [k3]; omega) (by rw [k3]; omega) (by
  rw [k3] at hfill⊢
  simpa [Value.cells] using hfill)
 have hx:(execOp a.eval o).run C.P w= .ok (.value (.slice (some ⟨w.heap.size,0,none⟩) 1 1)) (w.alloc (.cells cs.toArray (E.etid t))):=by
  unfold execOp
  rw [hop]
  have hm:(parts.map fun (i,x)=>(i,a.eval x))= #[(0,Value.agg cs.toArray)]:=by
   have:(parts.map fun (i,x)=>(i,a.eval x)).toList=[(0,Value.agg cs.toArray)]:=by rw [←hvs]; simp
   apply Array.ext'
   rw [this]
  simp only [Sem.run_bind,hm,hrun]
  rfl
 refine qy hx ?_
 rw [qes a hdst]
 have hnds:=h.nodup s
 have hold:∀b∈own s,b<w.heap.size:=fun b hb=>(h.mine _ _ hb).2
 have hsl:s<σ.length:=hd ⟨s,true,.undef⟩ (by simp)
 refine h.mut hdl [s] (fun s' hs'=>by simp at hs'; subst hs'; exact ⟨hsl,hne⟩) ((qcA.alloc (fun _=>False) w (.cells cs.toArray (E.etid t))).mono fun _ h=>h.elim) (bs:=w.heap.size::b1) (fun b hb=> ?_) (List.nodup_cons.2 ⟨fun hm=>by have:=hold _ (q1.subset hm); omega,hnds.sublist q1⟩) ?_ rfl
 ·rcases List.mem_cons.1 hb with rfl|hb
  ·exact .inl ⟨Nat.le_refl _,by simp⟩
  ·exact .inr (.inr ⟨s,by simp,q1.subset hb⟩)
 ·refine ⟨cs,[b1],⟨by simp [hcl],.inr ⟨w.heap.size,1,cs.toArray,rfl,Nat.zero_le _,?_,by simp,by simp [maxLen],by simp [hcl],by simpa using List.take_of_length_le (by omega)⟩⟩,rfl,by simp [Value.ownBlock],fun i x b hi hb=> ?_⟩
  ·rw [hbb]
   exact heap_alloc_new w _
  ·cases i with
   |succ i=>cases hi
   |zero=>
    injection hi with hi
    injection hb with hb
    subst hi
    subst hb
    rw [qcl,Nat.zero_mul,List.drop_zero,List.take_of_length_le (by omega)]
    exact q2.keep (fun k hk hlt=>⟨hk,by simp; omega,qgG w _ k hlt⟩) fun k hk hlt=>qgG w _ k hlt
theorem qj7 (hE:qbA E C.P) (h:qR C σ a.tmps w own) (hp:qbK (sit C σ a.tmps w own) p) {t n:Nat} {parts:Array (Nat×Operand)} (hop:o.op= .buildSlice t n parts) {f:Eff}
  (he:(qdv E p o).run (qi σ)=some f) (hd:∀u∈f.upd,u.s<σ.length) (hc:qc0 f.chk):qcW C o a w (qf σ f.upd):=by
 unfold qdv at he
 rw [hop] at he
 obtain ⟨ps,h1,he⟩:=Q.bind_some he
 have hps:=qgL h hp parts.toList h1
 generalize hvs:(parts.toList.map fun x=>(x.1,a.eval x.2))=vs at hps
 split at he
 case h_2=>cases he
 rename_i e hty
 split at he
 ·rename_i fm hfm
  have:=Q.ret_some he
  subst this
  exact qqx hE h hop hty hps hvs hfm hd
 split at he
 ·rename_i h0
  have hfe:=qD he
  clear he
  subst hfe
  obtain ⟨hn0,hp0,hmk⟩:=h0
  have hp1:parts= #[]:=Array.eq_empty_of_size_eq_zero hp0
  rw [hn0,hp1] at hop
  have hu:=(hE.elem t e hty).under
  obtain ⟨i,z,k1,k2,k3,k4,k5,k6,k7⟩:=hE.elem' hty
  refine h.newOwn hmk (n:=0) (cap:=0) (cur:= #[]) rfl (Nat.le_refl _) (by simp) (by simp) (fun i x hi=>by cases hi) ?_ hd
  unfold execOp
  rw [hop]
  simp [Sem.run_bind,Instr.buildSlice,run_underlying k1,qjJ k2,Instr.fill,newRow]
  have e0:(Array.map (fun _=>(default:Value)) (Array.range 0))= #[]:=by apply Array.ext'; simp
  rw [e0]
 split at he
 case isFalse=>cases he
 rename_i hcond
 simp only [Bool.and_eq_true] at hcond
 obtain ⟨⟨c1,c2⟩,c3,hmk⟩:=hcond
 have hmk:=List.isEmpty_iff.1 hmk
 have c2:n * e.size≤16777216:=of_decide_eq_true c2
 have c3:0<n * e.size:=of_decide_eq_true c3
 obtain ⟨r,h2,he⟩:=Q.bind_some he
 obtain ⟨fz,h3,he⟩:=Q.bind_some he
 have:=qD he
 subst this
 obtain ⟨g1,g2,g3⟩:=qhQ h n ps vs hps h2
 obtain ⟨i,z,k1,k2,k3,k4,k5,k6,k7⟩:=hE.elem' hty
 have hpos:0<e.size:=Nat.pos_of_mul_pos_left c3
 have hlenv:∀v∈vs.map (·.2),v.cells.size=e.size:=by
  intro v hv
  obtain ⟨q,hq,rfl⟩:=List.mem_map.1 hv
  obtain ⟨j,hj,rfl⟩:=List.getElem_of_mem hq
  have:=(g3 j _ _ (List.getElem?_eq_getElem (by omega)) (List.getElem?_eq_getElem hj)).1.length
  simpa using this
 have hfill:=Great.fill_whole hpos (vs.map (·.2)) ((Array.range (n * i.size)).map (z.cells[· % z.cells.size]!)) hlenv (by simp [g1,k3])
 rw [←qjb 0 hps c1] at hfill
 have hrun:=run_buildSlice (P:=C.P) w t (E.etid t) n vs.toArray _ i z k1 k2 k4 (by rw [k3]; omega) (by rw [k3]; omega) (by rw [k3] at hfill⊢; exact hfill)
 have hx:(execOp a.eval o).run C.P w= .ok (.value (.slice (some ⟨w.heap.size,0,none⟩) n n)) (w.alloc (.cells ((vs.map (·.2)).flatMap fun v=>v.cells.toList).toArray (E.etid t))):=by
  unfold execOp
  rw [hop]
  have hm:(parts.map fun (i,x)=>(i,a.eval x))=vs.toArray:=by rw [←hvs]; apply Array.ext'; simp
  simp only [Sem.run_bind,hm,hrun]
  rfl
 have hcells:∀F,(∀(i:Nat) (x:e.den) (v:Nat×Value),r.1[i]? =some x→vs[i]? =some v→qau w F e x v.2)→∀(i:Nat) (x:e.den),r.1[i]? =some x→Rep w F e x (((((vs.map (·.2)).flatMap fun v=>v.cells.toList).toArray).toList.drop (i * e.size)).take e.size):=by
  intro F hF j x hj
  have hjl:j<vs.length:=by rw [g1,←g2]; exact (List.getElem?_eq_some_iff.1 hj).1
  have:=hF j x vs[j] hj (List.getElem?_eq_getElem hjl)
  have e1:((vs.map (·.2)).flatMap fun v=>v.cells.toList)=((vs.map (·.2)).map fun v=>v.cells.toList).flatten:=by rw [List.flatMap_def]
  have hl:∀c∈((vs.map (·.2)).map fun v=>v.cells.toList),c.length=e.size:=by
   intro c hc
   obtain ⟨v,hv,rfl⟩:=List.mem_map.1 hc
   simpa using hlenv v hv
  rw [List.toList_toArray,e1,(qby hl (i:=j) (c:=vs[j].2.cells.toList) (by simp [hjl])).1]
  exact this.1
 have hnm:n≤maxLen:=by
  have:n * 1≤n * e.size:=Nat.mul_le_mul_left _ hpos
  simp only [maxLen]; omega
 have hsz:(((vs.map (·.2)).flatMap fun v=>v.cells.toList).toArray).size=n * e.size:=by
  have e1:((vs.map (·.2)).flatMap fun v=>v.cells.toList)=((vs.map (·.2)).map fun v=>v.cells.toList).flatten:=by rw [List.flatMap_def]
  have hl:∀c∈((vs.map (·.2)).map fun v=>v.cells.toList),c.length=e.size:=by
   intro c hc
   obtain ⟨v,hv,rfl⟩:=List.mem_map.1 hc
   simpa using hlenv v hv
  rw [List.size_toArray,e1,qdJ hl]
  simp [g1]
 by_cases hf:e.flat=true
 ·rw [if_pos hf] at h3
  have:=Q.ret_some h3
  subst this
  exact h.newOwn hmk g2 (Nat.le_refl _) hnm hsz (hcells _ fun i x v hx hv=>(g3 i x v hx hv).flat hf) hx hd
 ·rw [if_neg hf] at h3
  obtain ⟨own',q1,q2,q3,q4⟩:=qcG r.2 h h3
  rw [qbB]
  exact q1.newOwn hmk g2 (Nat.le_refl _) hnm hsz (hcells _ fun i x v hx hv=>(g3 i x v hx hv).mono fun b hb _=>q4 b hb) hx (fun u hu=>by rw [qE]; exact hd u (List.mem_append_right _ hu))
end
end Go.Vi
namespace Go.Vi
open Go.RowKit
def qaj (P:Program) (w:World) (F:Nat→Prop):(ps:List PM)→PMs.den ps→List Value→List Nat→List Nat→Prop
 |[],_,vs,g,i=>vs=[]∧g=[]∧i=[]
 | .val t::ps,x,vs,g,i=>∃v r,vs=v::r∧qau w F t x.1 v∧qaj P w F ps x.2 r g i
 | .own et e::ps,x,vs,g,i=>∃v r g1 g2,vs=v::r∧g=g1++g2∧qS w F et e x.1 v g1∧qaj P w F ps x.2 r g2 i
 | .io t::ps,x,vs,g,i=>∃(b:Nat) (r:List Value) (i2:List Nat) (cs:List Value) (te:Nat),vs=ptr b 0::r∧i=b::i2∧w.heap[b]? =some (.cells cs.toArray te (0,0))∧Rep w F t x.1 cs∧qaj P w F ps x.2 r g i2
 | .ior et e::ps,x,vs,g,i=>∃v r i1 i2,vs=v::r∧i=i1++i2∧qfl w F et e x.1 v i1∧qaj P w F ps x.2 r g i2
 | .iob b::ps,x,vs,g,i=>∃(bk:Nat) (r:List Value) (g1 g2 i2:List Nat) (cs:List Value) (te:Nat),vs=ptr bk 0::r∧g=g1++g2∧i=bk::i2∧w.heap[bk]? =some (.cells cs.toArray te (0,0))∧qar w F (b.un x.1) cs g1∧qaj P w F ps x.2 r g2 i2
 | .fn a b::ps,x,vs,g,i=>∃v r,vs=v::r∧qms P w F a b x.1 v∧qaj P w F ps x.2 r g i
 | .nil _ _::ps,x,vs,g,i=>∃r,vs= .slice none 0 0::r∧qaj P w F ps x.2 r g i
 | .rd t::ps,x,vs,g,i=>∃(ad:Addr) (cs:List Value) (r:List Value),vs= .pointer (some ad)::r∧F ad.block∧ad.block<w.heap.size∧qfc w ad cs∧Rep w F t x.1 cs∧qaj P w F ps x.2 r g i
def qcD (w:World) (F:Nat→Prop):(ps:List PM)→PMs.ioDen ps→List Value→List Nat→List Nat→Prop
 |[],_,_,i,js=>i=[]∧js=[]
 | .io t::ps,y,as,i,js=>∃(b:Nat) (i2:List Nat) (cs:List Value) (te:Nat),i=b::i2∧w.heap[b]? =some (.cells cs.toArray te (0,0))∧Rep w F t y.1 cs∧qcD w F ps y.2 as.tail i2 js
 | .iob b::ps,y,as,i,js=>∃(bk:Nat) (i2 j1 j2:List Nat) (cs:List Value) (te:Nat),i=bk::i2∧js=j1++j2∧w.heap[bk]? =some (.cells cs.toArray te (0,0))∧qar w F (b.un y.1) cs j1∧qcD w F ps y.2 as.tail i2 j2
 | .ior et e::ps,y,as,i,js=>∃i1 i2,i=i1++i2∧qfl w F et e y.1 (as.headD undef) i1∧qcD w F ps y.2 as.tail i2 js
 | .val _::ps,y,as,i,js=>qcD w F ps y as.tail i js
 | .own _ _::ps,y,as,i,js=>qcD w F ps y as.tail i js
 | .fn _ _::ps,y,as,i,js=>qcD w F ps y as.tail i js
 | .nil _ _::ps,y,as,i,js=>qcD w F ps y as.tail i js
 | .rd _::ps,y,as,i,js=>qcD w F ps y as.tail i js
def qja (w:World) (F:Nat→Prop) (g i bs:List Nat) (b:Nat):Prop:=(F b∨b∈g∨w.heap.size≤b)∧b∉bs∧b∉i
def qg.Post (C:qg) (w:World) (F:Nat→Prop) (as:List Value) (g i:List Nat) (y:RMs.den C.rs×PMs.ioDen C.ps) (v:Value) (w':World):Prop:=
 ∃vs bs js,v=qd8 vs∧(bs++js).Nodup∧(∀b∈bs++js,(b∈g∨w.heap.size≤b)∧b<w'.heap.size)∧qaJ w' (qja w F g i (bs++js)) (qcN C.rs y.1) vs bs∧qcD w' (qja w F g i (bs++js)) C.ps y.2 as i js∧qcA (fun b=>b∈g++i) w w'
theorem qg.Post.mk0 {C:qg} {w:World} {F:Nat→Prop} {as:List Value} {g i:List Nat} {y:RMs.den C.rs×PMs.ioDen C.ps} {v:Value} {w':World} (vs:List Value) (bs:List Nat) (h1:v=qd8 vs) (h2:bs.Nodup) (h3:∀b∈bs,(b∈g∨w.heap.size≤b)∧b<w'.heap.size)
  (h4:qaJ w' (qja w F g i bs) (qcN C.rs y.1) vs bs) (h5:qcD w' (qja w F g i bs) C.ps y.2 as i []) (h6:qcA (fun b=>b∈g++i) w w'):C.Post w F as g i y v w':=
 ⟨vs,bs,[],h1,by rwa [List.append_nil],by rwa [List.append_nil],by rwa [List.append_nil],by rwa [List.append_nil],h6⟩
def qg.okT (P:Program) (T:qk1) (f:Nat) (C:qg):Prop:=
 (∀as w,(callFunc f as).run P w= .ok (.enter f as) w)∧
 ∀(w:World) (F:Nat→Prop) (x:PMs.den C.ps) (y:RMs.den C.rs×PMs.ioDen C.ps) (as:List Value) (g i:List Nat),qdn T w F→qaj P w F C.ps x as g i→(∀b∈g++i,¬F b∧b<w.heap.size)→(g++i).Nodup→C.sem x=some y→
  Calls P f as.toArray w fun e w'=>∃v,e= .returned v∧C.Post w F as g i y v w'
abbrev qg.ok (P:Program) (f:Nat) (C:qg):Prop:=C.okT P (fun _=>none) f
def qfk (E:Env) (P:Program):Prop:=∀f C,E.fn f=some C→C.okT P E.tabs f
theorem qdq.mono {w:World} {F F':Nat→Prop} :(ts:List Ty)→ {x:denL ts} → {vs:List Value} →(∀b,F b→F' b)→qdq w F ts x vs→qdq w F' ts x vs
 |[],_,_,_,h=>h
 |t::ts,_,_,hF,⟨v,r,h1,h2,h3⟩=>⟨v,r,h1,h2.mono fun b hb _=>hF b hb,h3.mono ts hF⟩
theorem qhM {P:Program} {w:World} {F:Nat→Prop} :(ts:List Ty)→ {x:PMs.den (valPs ts)} → {vs:List Value} → {g i:List Nat} →qaj P w F (valPs ts) x vs g i→qdq w F ts (qrU ts x) vs∧g=[]∧i=[]
 |[],_,_,_,_,h=>h
 |t::ts,_,_,_,_,⟨v,r,h1,h2,h3⟩=>by
  obtain ⟨k1,k2,k3⟩:=qhM ts h3
  exact ⟨⟨v,r,h1,h2,k1⟩,k2,k3⟩
theorem qkv {P:Program} {w:World} {F:Nat→Prop} :(ts:List Ty)→ {x:denL ts} → {vs:List Value} →qdq w F ts x vs→qaj P w F (valPs ts) (toPs ts x) vs [] []
 |[],_,_,h=>⟨h,rfl,rfl⟩
 |t::ts,_,_,⟨v,r,h1,h2,h3⟩=>⟨v,r,h1,h2,qkv ts h3⟩
theorem qiX {w:World} {F:Nat→Prop} :(us:List Ty)→ {y:RMs.den (valRs us)} → {vs:List Value} → {bs:List Nat} →qaJ w F (qcN (valRs us) y) vs bs→qdq w F us (qty us y) vs∧bs=[]
 |[],_,_,_,h=>h
 |t::ts,_,_,_,⟨v,r,b1,b2,h1,h2,h3,h4⟩=>by
  obtain ⟨k1,k2⟩:=qiX ts h4
  have h3:b1=[]∧_:=h3
  exact ⟨⟨v,r,h1,h3.2,k1⟩,by rw [h2,h3.1,k2]; rfl⟩
theorem qi0 {w:World} {F:Nat→Prop} :(us:List Ty)→ {y:denL us} → {vs:List Value} →qdq w F us y vs→qaJ w F (qcN (valRs us) (qrH us y)) vs []
 |[],_,_,h=>⟨h,rfl⟩
 |t::ts,_,_,⟨v,r,h1,h2,h3⟩=>⟨v,r,[],[],h1,rfl,⟨rfl,h2⟩,qi0 ts h3⟩
theorem qjq:(ts:List Ty)→PMs.ioFlat (valPs ts)=true
 |[]=>rfl
 |_::r=>qjq r
theorem qke:(ts:List Ty)→(y:PMs.ioDen (valPs ts))→qdU (valPs ts) y []=[]
 |[],_=>rfl
 |_::r,y=>qke r y
theorem qg2 {w:World} {F:Nat→Prop} :(ts:List Ty)→ {y:PMs.ioDen (valPs ts)} → {as:List Value} →qcD w F (valPs ts) y as [] []
 |[],_,_=>⟨rfl,rfl⟩
 |_::r,y,as=>qg2 r (y:=y) (as:=as.tail)
theorem qkc {E:Env} {lk:Nat→Ent} :(ts:List Ty)→ {os:List Op1} → {A:qp2 (valPs ts)} →(qat E (valPs ts) os).run lk=some A→True∧A.ios=[]∧A.gone=[]
 |[],[],A,h=>by
  have:=Q.ret_some h
  subst this
  exact ⟨trivial,rfl,rfl⟩
 |[],_::_,_,h=>by cases h
 |_::_,[],_,h=>by cases h
 |t::r,o::os,A,h=>by
  obtain ⟨x,h1,h⟩:=Q.bind_some h
  obtain ⟨q,h2,h⟩:=Q.bind_some h
  have:=Q.ret_some h
  subst this
  exact qkc r h2
theorem qsG {E:Env} {P:Program} (hF:qfk E P) {w:World} {F:Nat→Prop} {ts us:List Ty} {X:Sit} (hX:X.P=P∧X.w=w∧X.F=F) (hT:qdn E.tabs w F) {a:AV} {v:Value} {φ:denL ts→Option (denL us)} (h:fnOf E ts us a=some φ) (hr:qak X a v []):qms P w F ts us φ v:=by
 obtain ⟨rfl,rfl,rfl⟩:=hX
 unfold fnOf at h
 split at h
 ·split at h
  ·rename_i hc
   obtain ⟨rfl,rfl⟩:=hc
   injection h with h
   subst h
   exact hr.2
  ·cases h
 ·rename_i f
  split at h
  case h_2=>cases h
  rename_i C hC
  have hok:=hF f C hC
  obtain ⟨ps,rs,sem⟩:=C
  split at h
  case isFalse=>cases h
  rename_i hc
  obtain ⟨h1,h2⟩:=hc
  simp only at h1 h2
  subst h1; subst h2
  injection h with h
  subst h
  obtain ⟨_,vs,hv,hcs⟩:=hr
  have hvs:vs=[]:=hcs.1
  subst hvs
  refine ⟨f,#[],hv,hok.1,fun w' F' x y as hkp hvals hy=> ?_⟩
  simp only [qeg,Option.map_eq_some_iff] at hy
  obtain ⟨z,hz,rfl⟩:=hy
  refine Calls.mono (by simpa using hok.2 w' F' (toPs ts x) z as [] [] (hT.keep hkp) (qkv ts hvals) (fun b hb=>by cases hb) List.nodup_nil hz) ?_
  rintro e w'' ⟨v',rfl,rs,bs,js,rfl,_,_,hres,_,hk⟩
  obtain ⟨k1,rfl⟩:=qiX us hres
  refine ⟨rs,rfl,k1.mono us fun b hb=> ?_,hk.mono fun b hb=>by cases hb⟩
  rcases hb.1 with h|h|h
  ·exact .inl h
  ·cases h
  ·exact .inr h
 ·cases h
theorem qaj.mono {P:Program} {w:World} {F F':Nat→Prop} (hF:∀b,F b→F' b):(ps:List PM)→ {x:PMs.den ps} → {vs:List Value} → {g i:List Nat} →qaj P w F ps x vs g i→qaj P w F' ps x vs g i
 |[],_,_,_,_,h=>h
 | .val t::ps,_,_,_,_,⟨v,r,h1,h2,h3⟩=>⟨v,r,h1,h2.mono fun b hb _=>hF b hb,h3.mono hF ps⟩
 | .own et e::ps,_,_,_,_,⟨v,r,g1,g2,h1,h2,h3,h4⟩=>⟨v,r,g1,g2,h1,h2,h3.keep (fun b hb hlt=>⟨hF b hb,hlt,rfl⟩) (fun _ _ _=>rfl),h4.mono hF ps⟩
 | .io t::ps,_,_,_,_,⟨b,r,i2,cs,te,h1,h2,h3,h4,h5⟩=>⟨b,r,i2,cs,te,h1,h2,h3,h4.keep fun b hb hlt=>⟨hF b hb,hlt,rfl⟩,h5.mono hF ps⟩
 | .iob b::ps,_,_,_,_,⟨bk,r,g1,g2,i2,cs,te,h1,h2,h3,h4,h5,h6⟩=>⟨bk,r,g1,g2,i2,cs,te,h1,h2,h3,h4,h5.keep (fun b hb hlt=>⟨hF b hb,hlt,rfl⟩) (fun _ _ _=>rfl),h6.mono hF ps⟩
 | .ior et e::ps,_,_,_,_,⟨v,r,i1,i2,h1,h2,h3,h4⟩=>⟨v,r,i1,i2,h1,h2,h3.keep (fun b hb hlt=>⟨hF b hb,hlt,rfl⟩) (fun _ _ _=>rfl),h4.mono hF ps⟩
 | .fn a b::ps,_,_,_,_,⟨v,r,h1,h2,h3⟩=>⟨v,r,h1,h2.keep fun b hb hlt=>⟨hF b hb,hlt,rfl⟩,h3.mono hF ps⟩
 | .nil _ _::ps,_,_,_,_,⟨r,h1,h2⟩=>⟨r,h1,h2.mono hF ps⟩
 | .rd _::ps,_,_,_,_,⟨ad,cs,r,h1,h2,h3,h4,h5,h6⟩=>⟨ad,cs,r,h1,hF _ h2,h3,h4,h5.keep fun b hb hlt=>⟨hF b hb,hlt,rfl⟩,h6.mono hF ps⟩
theorem qaJ.turn {w:World} {F F':Nat→Prop} :(rs:List RM)→ {y:RMs.den rs} → {vs:List Value} → {bs:List Nat} →(RMs.flat rs=true∨∀b,F b→b<w.heap.size→F' b)→qaJ w F (qcN rs y) vs bs→qaJ w F' (qcN rs y) vs bs
 |[],_,_,_,_,h=>h
 | .val t::rs,_,_,_,hF,⟨v,r,b1,b2,h1,h2,h3,h4⟩=>⟨v,r,b1,b2,h1,h2,⟨h3.1,by
   rcases hF with hF|hF
   ·simp only [RMs.flat,Bool.and_eq_true] at hF
    exact h3.2.flat hF.1
   ·exact h3.2.mono hF⟩,h4.turn rs (by
   rcases hF with hF|hF
   ·simp only [RMs.flat,Bool.and_eq_true] at hF
    exact .inl hF.2
   ·exact .inr hF)⟩
 | .nz e::rs,_,_,_,hF,⟨v,r,b1,b2,h1,h2,h3,h4⟩=>by
  rcases hF with hF|hF
  ·cases hF
  ·exact ⟨v,r,b1,b2,h1,h2,⟨h3.1,h3.2.1.mono hF,h3.2.2⟩,h4.turn rs (.inr hF)⟩
 | .own et e::rs,_,_,_,hF,⟨v,r,b1,b2,h1,h2,h3,h4⟩=>⟨v,r,b1,b2,h1,h2,by
   rcases hF with hF|hF
   ·simp only [RMs.flat,Bool.and_eq_true] at hF
    exact h3.flat hF.1
   ·exact qS.keep (fun b hb hlt=>⟨hF b hb hlt,hlt,rfl⟩) (fun _ _ _=>rfl) h3,h4.turn rs (by
   rcases hF with hF|hF
   ·simp only [RMs.flat,Bool.and_eq_true] at hF
    exact .inl hF.2
   ·exact .inr hF)⟩
theorem qar.flat {w:World} {F F':Nat→Prop} :(b:qcb)→ {y:b.den} → {cs:List Value} → {bs:List Nat} →b.flat=true→qar w F (b.un y) cs bs→qar w F' (b.un y) cs bs
 | .val t,_,_,_,hf,h=>⟨h.1,h.2.flat hf⟩
 | .own et e,_,_,_,hf,⟨v,h1,h2⟩=>⟨v,h1,h2.flat hf⟩
 | .pair a b,_,_,_,hf,⟨c1,c2,b1,b2,h1,h2,h3,h4⟩=>by
  simp only [qcb.flat,Bool.and_eq_true] at hf
  exact ⟨c1,c2,b1,b2,h1,h2,h3.flat a hf.1,h4.flat b hf.2⟩
 | .hole _,_,_,_,_,h=>h
theorem qcD.turn {w:World} {F F':Nat→Prop} :(ps:List PM)→ {y:PMs.ioDen ps} → {as:List Value} → {i js:List Nat} →(PMs.ioFlat ps=true∨∀b,F b→b<w.heap.size→F' b)→qcD w F ps y as i js→qcD w F' ps y as i js
 |[],_,_,_,_,_,h=>h
 | .iob b::ps,_,_,_,_,hF,⟨bk,i2,j1,j2,cs,te,h1,h2,h3,h4,h5⟩=>⟨bk,i2,j1,j2,cs,te,h1,h2,h3,by
   rcases hF with hF|hF
   ·simp only [PMs.ioFlat,Bool.and_eq_true] at hF
    exact h4.flat b hF.1
   ·exact h4.keep (fun b hb hlt=>⟨hF b hb hlt,hlt,rfl⟩) (fun _ _ _=>rfl),h5.turn ps (by
   rcases hF with hF|hF
   ·simp only [PMs.ioFlat,Bool.and_eq_true] at hF
    exact .inl hF.2
   ·exact .inr hF)⟩
 | .ior et e::ps,_,_,_,_,hF,⟨i1,i2,h1,h2,h3⟩=>⟨i1,i2,h1,by
   rcases hF with hF|hF
   ·simp only [PMs.ioFlat,Bool.and_eq_true] at hF
    exact h2.flat hF.1
   ·exact qfl.keep (fun b hb hlt=>⟨hF b hb hlt,hlt,rfl⟩) (fun _ _ _=>rfl) h2,h3.turn ps (by
   rcases hF with hF|hF
   ·simp only [PMs.ioFlat,Bool.and_eq_true] at hF
    exact .inl hF.2
   ·exact .inr hF)⟩
 | .io t::ps,_,_,_,_,hF,⟨b,i2,cs,te,h1,h2,h3,h4⟩=>⟨b,i2,cs,te,h1,h2,by
   rcases hF with hF|hF
   ·simp only [PMs.ioFlat,Bool.and_eq_true] at hF
    exact h3.flat hF.1
   ·exact h3.keep fun b hb hlt=>⟨hF b hb hlt,hlt,rfl⟩,h4.turn ps (by
   rcases hF with hF|hF
   ·simp only [PMs.ioFlat,Bool.and_eq_true] at hF
    exact .inl hF.2
   ·exact .inr hF)⟩
 | .val _::ps,_,_,_,_,hF,h=>qcD.turn ps hF h
 | .own _ _::ps,_,_,_,_,hF,h=>qcD.turn ps hF h
 | .fn _ _::ps,_,_,_,_,hF,h=>qcD.turn ps hF h
 | .nil _ _::ps,_,_,_,_,hF,h=>qcD.turn ps hF h
 | .rd _::ps,_,_,_,_,hF,h=>qcD.turn ps hF h
section
variable {C:Ctx} {E:Env} {σ:St} {tm:Array Value} {a:Act} {w w':World} {own:Nat→List Nat} {o:Oper} {p:qgw} [Tabbed E C]
def qck (σ:St) (tm:Array Value) (own:Nat→List Nat):List PM→List Value→List Nat→List Nat→List Nat→Prop
 |[],_,ss,i,inn=>ss=[]∧i=[]∧inn=[]
 | .io _::ps,as,ss,i,inn=>∃s r b i2 n1 n2,ss=s::r∧i=b::i2∧inn=n1++n2∧own s=b::n1∧tm.getD s undef=ptr b 0∧s<σ.length∧qck σ tm own ps as.tail r i2 n2
 | .iob _::ps,as,ss,i,inn=>∃s r b i2 n1 n2 m,ss=s::r∧i=b::i2∧inn=n1++n2∧own s=b::m∧tm.getD s undef=ptr b 0∧s<σ.length∧qck σ tm own ps as.tail r i2 n2
 | .ior _ _::ps,as,ss,i,inn=>∃s r i1 i2,ss=s::r∧i=i1++i2∧own s=i1∧tm.getD s undef=as.headD undef∧i1=(as.headD undef).ownBlock.toList∧s<σ.length∧qck σ tm own ps as.tail r i2 inn
 | .val _::ps,as,ss,i,inn=>qck σ tm own ps as.tail ss i inn
 | .own _ _::ps,as,ss,i,inn=>qck σ tm own ps as.tail ss i inn
 | .fn _ _::ps,as,ss,i,inn=>qck σ tm own ps as.tail ss i inn
 | .nil _ _::ps,as,ss,i,inn=>qck σ tm own ps as.tail ss i inn
 | .rd _::ps,as,ss,i,inn=>qck σ tm own ps as.tail ss i inn
theorem qjt {σ:St} {tm:Array Value} {own:Nat→List Nat} :(ts:List Ty)→ {as:List Value} → {ss i inn:List Nat} →qck σ tm own (valPs ts) as ss i inn→ss=[]∧i=[]∧inn=[]
 |[],_,_,_,_,h=>h
 |_::r,_,_,_,_,h=>qjt r h
theorem qjO (h:qR C σ tm w own) {s:Nat} {S T A B L:List Nat} (hT:T.Perm (s::S)) (hL:L.Perm (A++B)) (hA:A.Nodup) (hAs:∀b∈A,b∈own s) (hB:∀b∈B,∃s'∈S,b∈own s') (hBn:S.Nodup→B.Nodup):(∀b∈L,∃s'∈T,b∈own s')∧(T.Nodup→L.Nodup):=by
 refine ⟨fun b hb=> ?_,fun hn=> ?_⟩
 ·rcases List.mem_append.1 (hL.mem_iff.1 hb) with hb|hb
  ·exact ⟨s,hT.mem_iff.2 List.mem_cons_self,hAs b hb⟩
  ·obtain ⟨s',h1,h2⟩:=hB b hb
   exact ⟨s',hT.mem_iff.2 (List.mem_cons_of_mem _ h1),h2⟩
 ·have hn:=List.nodup_cons.1 (hT.nodup_iff.1 hn)
  rw [hL.nodup_iff]
  refine List.nodup_append.2 ⟨hA,hBn hn.2,fun b hb b' hb' e=> ?_⟩
  subst e
  obtain ⟨s',h1,h2⟩:=hB b hb'
  have:=h.apart s s' b (hAs b hb) h2
  subst this
  exact hn.1 h1
theorem qfU {s:Nat} (hne:(qi σ s).2≠ .undef):s<σ.length:=by
 by_cases h:s<σ.length
 ·exact h
 ·have:qi σ s=(0,.undef):=by simp [qi,List.getD,List.getElem?_eq_none (Nat.le_of_not_lt h)]
  rw [this] at hne
  exact absurd rfl hne
theorem qnj {w:World} {ad:Addr} {cs:List Value} {off n:Nat} (h:qfc w ad cs):qfc w (ad.add off) ((cs.drop off).take n):=by
 intro j z hj
 rw [qaX]
 refine h _ _ ?_
 rw [List.getElem?_take] at hj
 split at hj
 ·rwa [List.getElem?_drop] at hj
 ·cases hj
theorem qcT (hFn:qfk E C.P) (h:qR C σ a.tmps w own) (hpt:qrG (sit C σ a.tmps w own)):(ps:List PM)→ {os:List Op1} → {vs:List Value} → {A:qp2 ps} →qki (sit C σ a.tmps w own) os vs→(∀o1∈os,∀s,o1.s=some s→o1.a≠ .undef→s<σ.length)→(qat E ps os).run (qi σ)=some A→
  ∃g i inn,qaj C.P w (fun b=>FW (sit C σ a.tmps w own) A.ow b∨b∈inn) ps A.x vs g i∧((∀b∈g++(i++inn),∃s∈A.gone++A.ios,b∈own s)∧((A.gone++A.ios).Nodup→(g++(i++inn)).Nodup))∧(∀s∈A.gone,s<σ.length)∧qck σ a.tmps own ps vs A.ios i inn
 |[],[],[],A,_,_,he=>by
  have:=Q.ret_some he
  subst this
  exact ⟨[],[],[],⟨rfl,rfl,rfl⟩,⟨fun b hb=>(by cases hb),fun _=>List.nodup_nil⟩,fun s hs=>(by cases hs),rfl,rfl,rfl⟩
 | .val t::ps,o1::os,v::vs,A,⟨ho,hos⟩,hlt,he=>by
  obtain ⟨x,h1,he⟩:=Q.bind_some he
  obtain ⟨r,h2,he⟩:=Q.bind_some he
  have:=Q.ret_some he
  subst this
  obtain ⟨g,i,inn,k1,k2,k4,k5⟩:=qcT hFn h hpt ps hos (fun o2 ho2=>hlt o2 (List.mem_cons_of_mem _ ho2)) h2
  refine ⟨g,i,inn,⟨v,vs,rfl,(qcH h ho h1).mono fun b hb _=> .inl (FW.mono (fun s hs=>List.mem_append_left _ hs) hb),k1.mono (fun b hb=> ?_) ps⟩,k2,k4,k5⟩
  exact hb.imp (FW.mono fun s hs=>List.mem_append_right _ hs) id
 | .own et e::ps,o1::os,v::vs,A,⟨ho,hos⟩,hlt,he=>by
  have hrec:∀ {r:qp2 ps},(qat E ps os).run (qi σ)=some r→_:=fun h2=>qcT hFn h hpt ps hos (fun o2 ho2=>hlt o2 (List.mem_cons_of_mem _ ho2)) h2
  have fin:∀(s:Nat) (et':Nat) (e':Ty) (xs':List e'.den) (xs:List e.den) (r:qp2 ps),s<σ.length→et=et'→Ty.as (t:= .slice e') (.slice e) xs'=some xs→qS w (C.free w own) et' e' xs' v (own s)→(qat E ps os).run (qi σ)=some r→A=⟨(xs,r.x),r.ow,s::r.gone,r.ios⟩→
    ∃g i inn,qaj C.P w (fun b=>FW (sit C σ a.tmps w own) A.ow b∨b∈inn) (.own et e::ps) A.x (v::vs) g i∧((∀b∈g++(i++inn),∃s∈A.gone++A.ios,b∈own s)∧((A.gone++A.ios).Nodup→(g++(i++inn)).Nodup))∧(∀s∈A.gone,s<σ.length)∧qck σ a.tmps own (.own et e::ps) (v::vs) A.ios i inn:=by
   intro s et' e' xs' xs r hs hty has hown hr hA
   subst hA
   subst hty
   obtain ⟨e1,e2⟩:=Ty.as_some has
   injection e1 with e1
   subst e1
   have e2:xs'=xs:=e2
   subst e2
   obtain ⟨g,i,inn,k1,k2,k4,k5⟩:=hrec hr
   refine ⟨own s++g,i,inn,⟨v,vs,own s,g,rfl,rfl,hown.keep (fun b hb hlt=>⟨.inl (.inl hb),hlt,rfl⟩) (fun _ _ _=>rfl),k1⟩,qjO h (List.Perm.refl _) (by rw [List.append_assoc]) (h.nodup s) (fun b hb=>hb) k2.1 k2.2,fun s' hs'=> ?_,k5⟩
   ·rcases List.mem_cons.1 hs' with rfl|hs'
    ·exact hs
    ·exact k4 s' hs'
  obtain ⟨os1,ov,oa⟩:=o1
  cases oa with
  |own et' e' xs'=>
   cases os1 with
   |some s=>
    simp only [qat] at he
    split at he
    ·rename_i hty
     split at he
     ·rename_i xs has
      obtain ⟨r,h2,he⟩:=Q.bind_some he
      exact fin s et' e' xs' xs r (hlt _ List.mem_cons_self s rfl (by simp)) hty has ho.2.2 h2 (Q.ret_some he).symm
     ·cases he
    ·cases he
   |none=>
    simp only [qat] at he
    split at he
    ·rename_i hty
     split at he
     ·rename_i xs has
      obtain ⟨r,h2,he⟩:=Q.bind_some he
      have:=Q.ret_some he
      subst this
      subst hty
      obtain ⟨e1,e2⟩:=Ty.as_some has
      injection e1 with e1
      subst e1
      have e2:xs'=xs:=e2
      subst e2
      obtain ⟨g,i,inn,k1,k2,k4,k5⟩:=hrec h2
      have ho:qS w (C.free w own) et e' xs' v []:=ho
      exact ⟨g,i,inn,⟨v,vs,[],g,rfl,rfl,ho.keep (fun b hb hlt=>⟨.inl (.inl hb),hlt,rfl⟩) (fun _ _ _=>rfl),k1⟩,k2,k4,k5⟩
     ·cases he
    ·cases he
  |ref s v0=>
   cases os1
   all_goals
    simp only [qat,Q.run_get] at he
    split at he
    ·rename_i hv
     have hu:a.tmps.getD s undef=v:=(ho.unowned rfl).2 hv
     have hat:=h.at_ s
     rw [hu] at hat
     split at he
     ·rename_i et' e' xs' h3
      rw [h3] at hat
      split at he
      ·rename_i hty
       split at he
       ·rename_i xs has
        obtain ⟨r,h2,he⟩:=Q.bind_some he
        exact fin s et' e' xs' xs r (qfU (by rw [h3]; simp)) hty has hat h2 (Q.ret_some he).symm
       ·cases he
      ·cases he
     ·cases he
    ·cases he
  |_=>cases os1 <;> simp only [qat] at he <;> cases he
 | .io t::ps,o1::os,v::vs,A,⟨ho,hos⟩,hlt,he=>by
  have hrec:∀ {r:qp2 ps},(qat E ps os).run (qi σ)=some r→_:=fun h2=>qcT hFn h hpt ps hos (fun o2 ho2=>hlt o2 (List.mem_cons_of_mem _ ho2)) h2
  have fin:∀(s:Nat) (c:BC) (x:t.den) (fl:Bool) (r:qp2 ps),s<σ.length→(∃(b:Nat) (cs:List Value) (bs':List Nat) (te:Nat),a.tmps.getD s undef=ptr b 0∧w.heap[b]? =some (.cells cs.toArray te (0,0))∧qar w (C.free w own) c cs bs'∧own s=b::bs')→a.tmps.getD s undef=v→(if c.size=t.size then c.get 0 t else none)=some (x,fl)→(qat E ps os).run (qi σ)=some r→A=⟨(x,r.x),r.ow,r.gone,s::r.ios⟩→
    ∃g i inn,qaj C.P w (fun b=>FW (sit C σ a.tmps w own) A.ow b∨b∈inn) (.io t::ps) A.x (v::vs) g i∧((∀b∈g++(i++inn),∃s∈A.gone++A.ios,b∈own s)∧((A.gone++A.ios).Nodup→(g++(i++inn)).Nodup))∧(∀s∈A.gone,s<σ.length)∧qck σ a.tmps own (.io t::ps) (v::vs) A.ios i inn:=by
   intro s c x fl r hslt hbx htm hget hr hA
   subst hA
   obtain ⟨b,cs,bs',te,b1,b2,b3,b4⟩:=hbx
   obtain ⟨g,i,inn,k1,k2,k4,k5⟩:=hrec hr
   split at hget
   case isFalse=>cases hget
   rename_i hsz
   obtain ⟨q1,q2,_⟩:=b3.get hget
   have hcl:=b3.length
   have hall:(cs.drop 0).take t.size=cs:=by rw [List.drop_zero]; exact List.take_of_length_le (by omega)
   rw [hall] at q2
   refine ⟨g,b::i,bs'++inn,⟨b,vs,i,cs,te,by rw [←htm,b1],rfl,b2,q2.keep fun b hb hlt=>⟨?_,hlt,rfl⟩,k1.mono (fun b hb=> ?_) ps⟩,qjO h List.perm_middle (A:=b::bs') (B:=g++(i++inn)) (List.perm_iff_count.2 fun a=>by simp only [List.count_append,List.count_cons]; omega) (by rw [←b4]; exact h.nodup s) (fun k hk=>by rw [b4]; exact hk) k2.1 k2.2,k4,s,r.ios,b,i,bs',inn,rfl,rfl,rfl,b4,b1,hslt,k5⟩
   ·rcases hb with hb|hb
    ·exact .inl (.inl hb)
    ·exact .inr (List.mem_append_left _ hb)
   ·exact hb.imp id fun hb=>List.mem_append_right _ hb
  obtain ⟨os1,ov,oa⟩:=o1
  cases oa with
  |box c=>
   cases os1 with
   |some s=>
    simp only [qat] at he
    split at he
    ·rename_i x fl hget
     obtain ⟨r,h2,he⟩:=Q.bind_some he
     have hs:s<σ.length:=hlt _ List.mem_cons_self s rfl (by simp)
     obtain ⟨g1,g2,b,cs,bs',te,g3,g4,g5,g6⟩:=ho
     exact fin s c x fl r hs ⟨b,cs,bs',te,g1.symm.trans g3,g4,g5,g6⟩ g1.symm hget h2 (Q.ret_some he).symm
    ·cases he
   |none=>simp only [qat] at he; cases he
  |pip s off=>
   cases off with
   |succ n=>cases os1 <;> simp only [qat] at he <;> cases he
   |zero=>
    cases os1
    all_goals
     simp only [qat,Q.run_get] at he
     obtain ⟨_,b,hu2,hu⟩:=ho.unowned rfl
     have hu2:=hpt s b hu2
     split at he
     ·rename_i c hc
      split at he
      ·rename_i x fl hget
       obtain ⟨r,h2,he⟩:=Q.bind_some he
       exact fin s c x fl r (qfU (by rw [hc]; simp)) (h.box hc) (by rw [hu]; exact hu2) hget h2 (Q.ret_some he).symm
      ·cases he
     ·cases he
  |pbox s v0 off=>
   cases off with
   |succ n=>cases os1 <;> simp only [qat] at he <;> cases he
   |zero=>
    cases os1
    all_goals
     simp only [qat,Q.run_get] at he
     split at he
     ·rename_i hv
      obtain ⟨b,hu,hu2⟩:=(ho.unowned rfl).2 hv
      split at he
      ·rename_i c hc
       split at he
       ·rename_i x fl hget
        obtain ⟨r,h2,he⟩:=Q.bind_some he
        exact fin s c x fl r (qfU (by rw [hc]; simp)) (h.box hc) (by rw [hu2]; exact hu) hget h2 (Q.ret_some he).symm
       ·cases he
      ·cases he
     ·cases he
  |_=>cases os1 <;> simp only [qat] at he <;> cases he
 | .iob b::ps,o1::os,v::vs,A,⟨ho,hos⟩,hlt,he=>by
  have hrec:∀ {r:qp2 ps},(qat E ps os).run (qi σ)=some r→_:=fun h2=>qcT hFn h hpt ps hos (fun o2 ho2=>hlt o2 (List.mem_cons_of_mem _ ho2)) h2
  have fin:∀(s:Nat) (c:BC) (x:b.den) (r:qp2 ps),s<σ.length→(∃(b:Nat) (cs:List Value) (bs':List Nat) (te:Nat),a.tmps.getD s undef=ptr b 0∧w.heap[b]? =some (.cells cs.toArray te (0,0))∧qar w (C.free w own) c cs bs'∧own s=b::bs')→a.tmps.getD s undef=v→c.fit b=some x→(qat E ps os).run (qi σ)=some r→A=⟨(x,r.x),r.ow,r.gone,s::r.ios⟩→
    ∃g i inn,qaj C.P w (fun b=>FW (sit C σ a.tmps w own) A.ow b∨b∈inn) (.iob b::ps) A.x (v::vs) g i∧((∀b∈g++(i++inn),∃s∈A.gone++A.ios,b∈own s)∧((A.gone++A.ios).Nodup→(g++(i++inn)).Nodup))∧(∀s∈A.gone,s<σ.length)∧qck σ a.tmps own (.iob b::ps) (v::vs) A.ios i inn:=by
   intro s c x r hslt hbx htm hget hr hA
   subst hA
   obtain ⟨bk,cs,bs',te,b1,b2,b3,b4⟩:=hbx
   obtain ⟨g,i,inn,k1,k2,k4,k5⟩:=hrec hr
   have hnd:=h.nodup s
   rw [b4] at hnd
   have hnd:=List.nodup_cons.1 hnd
   obtain ⟨g1,q1,q2⟩:=b3.fit b hnd.2 hget
   have hp:bs'.Perm (g1++bs'.filter (fun k=>decide (k∉g1))):=qrP q1 hnd.2
   refine ⟨g1++g,bk::i,bs'.filter (fun k=>decide (k∉g1))++inn,⟨bk,vs,g1,g,i,cs,te,by rw [←htm,b1],rfl,rfl,b2,q2 _ (fun k hk=> .inl (.inl hk)) (fun k hk hkn=> .inr (List.mem_append_left _ (List.mem_filter.2 ⟨hk,by simpa using hkn⟩))),k1.mono (fun b hb=>hb.imp id fun hb=>List.mem_append_right _ hb) ps⟩,qjO h List.perm_middle (A:=bk::bs') (B:=g++(i++inn)) (List.perm_iff_count.2 fun a=> ?_) (by rw [←b4]; exact h.nodup s) (fun k hk=>by rw [b4]; exact hk) k2.1 k2.2,k4,s,r.ios,bk,i,_,inn,bs',rfl,rfl,rfl,b4,b1,hslt,k5⟩
   have:=List.perm_iff_count.1 hp a
   simp only [List.count_append,List.count_cons] at this⊢
   omega
  obtain ⟨os1,ov,oa⟩:=o1
  cases oa with
  |box c=>
   cases os1 with
   |some s=>
    simp only [qat] at he
    split at he
    ·rename_i x hget
     obtain ⟨r,h2,he⟩:=Q.bind_some he
     have hs:s<σ.length:=hlt _ List.mem_cons_self s rfl (by simp)
     obtain ⟨g1,g2,b,cs,bs',te,g3,g4,g5,g6⟩:=ho
     exact fin s c x r hs ⟨b,cs,bs',te,g1.symm.trans g3,g4,g5,g6⟩ g1.symm hget h2 (Q.ret_some he).symm
    ·cases he
   |none=>simp only [qat] at he; cases he
  |pip s off=>
   cases off with
   |succ n=>cases os1 <;> simp only [qat] at he <;> cases he
   |zero=>
    cases os1
    all_goals
     simp only [qat,Q.run_get] at he
     obtain ⟨_,b,hu2,hu⟩:=ho.unowned rfl
     have hu2:=hpt s b hu2
     split at he
     ·rename_i c hc
      split at he
      ·rename_i x hget
       obtain ⟨r,h2,he⟩:=Q.bind_some he
       exact fin s c x r (qfU (by rw [hc]; simp)) (h.box hc) (by rw [hu]; exact hu2) hget h2 (Q.ret_some he).symm
      ·cases he
     ·cases he
  |pbox s v0 off=>
   cases off with
   |succ n=>cases os1 <;> simp only [qat] at he <;> cases he
   |zero=>
    cases os1
    all_goals
     simp only [qat,Q.run_get] at he
     split at he
     ·rename_i hv
      obtain ⟨b,hu,hu2⟩:=(ho.unowned rfl).2 hv
      split at he
      ·rename_i c hc
       split at he
       ·rename_i x hget
        obtain ⟨r,h2,he⟩:=Q.bind_some he
        exact fin s c x r (qfU (by rw [hc]; simp)) (h.box hc) (by rw [hu2]; exact hu) hget h2 (Q.ret_some he).symm
       ·cases he
      ·cases he
     ·cases he
  |_=>cases os1 <;> simp only [qat] at he <;> cases he
 | .ior et e::ps,o1::os,v::vs,A,⟨ho,hos⟩,hlt,he=>by
  have hrec:∀ {r:qp2 ps},(qat E ps os).run (qi σ)=some r→_:=fun h2=>qcT hFn h hpt ps hos (fun o2 ho2=>hlt o2 (List.mem_cons_of_mem _ ho2)) h2
  have fin:∀(s:Nat) (et':Nat) (e':Ty) (xs':List e'.den) (xs:List e.den) (r:qp2 ps),s<σ.length→et=et'∧etM et=[]→Ty.as (t:= .slice e') (.slice e) xs'=some xs→qS w (C.free w own) et' e' xs' v (own s)→a.tmps.getD s undef=v→(qat E ps os).run (qi σ)=some r→A=⟨(xs,r.x),r.ow,r.gone,s::r.ios⟩→
    ∃g i inn,qaj C.P w (fun b=>FW (sit C σ a.tmps w own) A.ow b∨b∈inn) (.ior et e::ps) A.x (v::vs) g i∧((∀b∈g++(i++inn),∃s∈A.gone++A.ios,b∈own s)∧((A.gone++A.ios).Nodup→(g++(i++inn)).Nodup))∧(∀s∈A.gone,s<σ.length)∧qck σ a.tmps own (.ior et e::ps) (v::vs) A.ios i inn:=by
   intro s et' e' xs' xs r hs hty has hown htv hr hA
   subst hA
   obtain ⟨hty,hmk⟩:=hty
   subst hty
   have hown:=hown.toRow hmk
   obtain ⟨e1,e2⟩:=Ty.as_some has
   injection e1 with e1
   subst e1
   have e2:xs'=xs:=e2
   subst e2
   obtain ⟨g,i,inn,k1,k2,k4,k5⟩:=hrec hr
   have hob:own s=v.ownBlock.toList:=by
    obtain ⟨_,cells,_,hb,_⟩:=hown
    exact hb
   exact ⟨g,own s++i,inn,⟨v,vs,own s,i,rfl,rfl,hown.keep (fun b hb hlt=>⟨.inl (.inl hb),hlt,rfl⟩) (fun _ _ _=>rfl),k1⟩,qjO h List.perm_middle (A:=own s) (B:=g++(i++inn)) (List.perm_iff_count.2 fun a=>by simp only [List.count_append]; omega) (h.nodup s) (fun b hb=>hb) k2.1 k2.2,k4,s,r.ios,own s,i,rfl,rfl,rfl,htv,hob,hs,k5⟩
  obtain ⟨os1,ov,oa⟩:=o1
  cases oa with
  |own et' e' xs'=>
   cases os1 with
   |some s=>
    simp only [qat] at he
    split at he
    ·rename_i hty
     split at he
     ·rename_i xs has
      obtain ⟨r,h2,he⟩:=Q.bind_some he
      exact fin s et' e' xs' xs r (hlt _ List.mem_cons_self s rfl (by simp)) hty has ho.2.2 ho.1.symm h2 (Q.ret_some he).symm
     ·cases he
    ·cases he
   |none=>simp only [qat] at he; cases he
  |ref s v0=>
   cases os1
   all_goals
    simp only [qat,Q.run_get] at he
    split at he
    ·rename_i hv
     have hu:a.tmps.getD s undef=v:=(ho.unowned rfl).2 hv
     have hat:=h.at_ s
     rw [hu] at hat
     split at he
     ·rename_i et' e' xs' h3
      rw [h3] at hat
      split at he
      ·rename_i hty
       split at he
       ·rename_i xs has
        obtain ⟨r,h2,he⟩:=Q.bind_some he
        exact fin s et' e' xs' xs r (qfU (by rw [h3]; simp)) hty has hat hu h2 (Q.ret_some he).symm
       ·cases he
      ·cases he
     ·cases he
    ·cases he
  |_=>cases os1 <;> simp only [qat] at he <;> cases he
 | .nil et e::ps,o1::os,v::vs,A,⟨ho,hos⟩,hlt,he=>by
  have fin:v= .slice none 0 0→∀r:qp2 ps,(qat E ps os).run (qi σ)=some r→A=⟨((),r.x),r.ow,r.gone,r.ios⟩→∃g i inn,qaj C.P w (fun b=>FW (sit C σ a.tmps w own) A.ow b∨b∈inn) (.nil et e::ps) A.x (v::vs) g i∧((∀b∈g++(i++inn),∃s∈A.gone++A.ios,b∈own s)∧((A.gone++A.ios).Nodup→(g++(i++inn)).Nodup))∧(∀s∈A.gone,s<σ.length)∧qck σ a.tmps own (.nil et e::ps) (v::vs) A.ios i inn:=by
   intro hv r hr hA
   subst hA
   obtain ⟨g,i,inn,k1,k2,k4,k5⟩:=qcT hFn h hpt ps hos (fun o2 ho2=>hlt o2 (List.mem_cons_of_mem _ ho2)) hr
   exact ⟨g,i,inn,⟨vs,by rw [hv],k1⟩,k2,k4,k5⟩
  obtain ⟨os1,ov,oa⟩:=o1
  simp only [qat] at he
  split at he
  ·rename_i et' e'
   split at he
   case isFalse=>cases he
   obtain ⟨r,h2,he⟩:=Q.bind_some he
   exact fin (ho.unowned rfl).2 r h2 (Q.ret_some he).symm
  ·rename_i et' e'
   split at he
   case isFalse=>cases he
   obtain ⟨r,h2,he⟩:=Q.bind_some he
   have ho:qS w (C.free w own) et' e' [] v []:=ho
   refine fin ?_ r h2 (Q.ret_some he).symm
   obtain ⟨cells,_,k1,_,k2,_⟩:=ho
   rcases k1.2 with ⟨k3,_⟩|⟨g,cap,cur,k3,_⟩
   ·exact k3
   ·rw [k3] at k2
    cases k2
  ·cases he
 | .rd t::ps,o1::os,v::vs,A,⟨ho,hos⟩,hlt,he=>by
  obtain ⟨os1,ov,oa⟩:=o1
  simp only [qat] at he
  split at he
  case h_2=>cases he
  rename_i t' y off
  split at he
  case h_2=>cases he
  rename_i x hs
  obtain ⟨r,h2,he⟩:=Q.bind_some he
  have:=Q.ret_some he
  subst this
  obtain ⟨g,i,inn,k1,k2,k4,k5⟩:=qcT hFn h hpt ps hos (fun o2 ho2=>hlt o2 (List.mem_cons_of_mem _ ho2)) h2
  obtain ⟨_,ad,cs,rfl,g1,g2,g3,g4⟩:=ho.unowned rfl
  obtain ⟨q1,q2⟩:=g4.sub hs
  refine ⟨g,i,inn,⟨_,(cs.drop off).take t.size,vs,rfl,?_,?_,qnj g3,q2.keep fun b hb hlt=>⟨.inl (.inl hb),hlt,rfl⟩,k1⟩,k2,k4,k5⟩
  ·rw [qW]; exact .inl (.inl g1)
  ·rw [qW]; exact g2
 | .fn ts us::ps,o1::os,v::vs,A,⟨ho,hos⟩,hlt,he=>by
  simp only [qat] at he
  split at he
  case h_2=>cases he
  rename_i φ hφ
  obtain ⟨r,h2,he⟩:=Q.bind_some he
  have:=Q.ret_some he
  subst this
  obtain ⟨g,i,inn,k1,k2,k4,k5⟩:=qcT hFn h hpt ps hos (fun o2 ho2=>hlt o2 (List.mem_cons_of_mem _ ho2)) h2
  have hun:o1.a.unowned=true:=by
   unfold fnOf at hφ
   split at hφ
   ·rename_i hq; rw [hq]; rfl
   ·rename_i hq; rw [hq]; rfl
   ·cases hφ
  have hfr:=qsG hFn (w:=w) (F:=C.free w own) (X:=sit C σ a.tmps w own) ⟨rfl,rfl,rfl⟩ h.tabsE hφ (ho.unowned hun)
  exact ⟨g,i,inn,⟨v,vs,rfl,hfr.keep fun b hb hlt=>⟨.inl (.inl hb),hlt,rfl⟩,k1⟩,k2,k4,k5⟩
 |[],_::_,_,_,_,_,he=>by cases he
 | .val _::ps,[],_,_,_,_,he=>by cases he
 | .own _ _::ps,[],_,_,_,_,he=>by cases he
 | .io _::ps,[],_,_,_,_,he=>by cases he
 | .fn _ _::ps,[],_,_,_,_,he=>by cases he
 | .nil _ _::ps,[],_,_,_,_,he=>by cases he
 | .rd _::ps,[],_,_,_,_,he=>by cases he
 | .ior _ _::ps,[],_,_,_,_,he=>by cases he
 | .iob _::ps,[],_,_,_,_,he=>by cases he
 |[],[],_::_,_,h,_,_=>by cases h
 | .val _::ps,_::_,[],_,h,_,_=>by cases h
 | .own _ _::ps,_::_,[],_,h,_,_=>by cases h
 | .io _::ps,_::_,[],_,h,_,_=>by cases h
 | .fn _ _::ps,_::_,[],_,h,_,_=>by cases h
 | .nil _ _::ps,_::_,[],_,h,_,_=>by cases h
 | .rd _::ps,_::_,[],_,h,_,_=>by cases h
 | .ior _ _::ps,_::_,[],_,h,_,_=>by cases h
 | .iob _::ps,_::_,[],_,h,_,_=>by cases h
end
end Go.Vi
namespace Go.Vi
open Go.RowKit
section
variable {C:Ctx} {E:Env} {σ:St} {tm:Array Value} {a:Act} {w w':World} {own:Nat→List Nat} {o:Oper} {p:qgw} [Tabbed E C]
theorem qpu (us:List U) (σ:St) (hn:(us.map (·.s)).Nodup) (hl:∀u∈us,u.s<σ.length):(∀u∈us,qi (qf σ us) u.s=((if u.bump then (qi σ u.s).1+1 else (qi σ u.s).1),u.a))∧∀s,s∉us.map (·.s)→qi (qf σ us) s=qi σ s:=
 ⟨fun u hu=>qcf us hn hu (hl u hu),fun s hs=>qd6 us hs⟩
def qpw (nw:Nat→List Nat) (s:Nat) (l:List Nat) (t:Nat):List Nat:=if t=s then l else nw t
theorem qcU {nw:Nat→List Nat} {s:Nat} {l:List Nat} :qpw nw s l s=l:=if_pos rfl
theorem qb0 {nw:Nat→List Nat} {s t:Nat} {l:List Nat} (h:t≠s):qpw nw s l t=nw t:=if_neg h
theorem qdM {F:Nat→Prop} :(ps:List PM)→ {y:PMs.ioDen ps} → {as:List Value} → {ss i inn js:List Nat} →qck σ tm own ps as ss i inn→qcD w F ps y as i js→ss.Nodup→(i++js).Nodup→
  (qdU ps y ss).map (·.s)=ss∧(∀s∈ss,s<σ.length)∧∃nw:Nat→List Nat,(∀u∈qdU ps y ss,(u.bump=true∨∀b,tm.getD u.s undef≠ptr b 0)∧u.a.mentions=[]∧∀X:Sit,X.w=w→(PMs.ioFlat ps=true∨∀b,F b→b<w.heap.size→X.F b)→qak X u.a (tm.getD u.s undef) (nw u.s))∧
   (∀s∈ss,(nw s).Nodup∧∀b∈nw s,b∈i++js)∧∀s∈ss,∀s'∈ss,∀b,b∈nw s→b∈nw s'→s=s'
 |[],_,_,_,_,_,_,⟨h1,_⟩,_,_,_=>by subst h1; exact ⟨rfl,fun s hs=>(by cases hs),fun _=>[],fun u hu=>(by cases hu),fun s hs=>(by cases hs),fun s hs=>(by cases hs)⟩
 | .io t::ps,y,as,_,_,_,js,⟨s,ss,b,i2,n1,n2,h0,h1,h2,h3,h4,h5,h6⟩,⟨b',i2',cs,te,k1,k2,k3,k4⟩,hn,hij=>by
  subst h0
  rw [h1] at k1
  injection k1 with e1 e2
  subst e1; subst e2
  subst h1
  have hn:=List.nodup_cons.1 hn
  have hij:(b::(i2++js)).Nodup:=hij
  have hij:=List.nodup_cons.1 hij
  obtain ⟨g1,g0,nw,g2,g3,g4⟩:=qdM (ss:=ss) ps h6 k4 hn.2 hij.2
  have ne:∀s'∈ss,s'≠s:=fun s' hs' e=>hn.1 (e ▸ hs')
  refine ⟨by simp [qdU,g1],fun s' hs'=> ?_,qpw nw s [b],fun u hu=> ?_,fun s' hs'=> ?_,fun s1 hs1 s2 hs2 c hc1 hc2=> ?_⟩
  ·rcases List.mem_cons.1 hs' with rfl|hs'
   ·exact h5
   ·exact g0 s' hs'
  ·rcases List.mem_cons.1 hu with rfl|hu
   ·refine ⟨.inl rfl,rfl,fun X hw hF=> ?_⟩
    subst hw
    simp only [qcU]
    refine ⟨b,cs,[],te,h4,k2,⟨rfl,?_⟩,rfl⟩
    rcases hF with hF|hF
    ·simp only [PMs.ioFlat,Bool.and_eq_true] at hF
     exact k3.flat hF.1
    ·exact k3.keep fun b hb hlt=>⟨hF b hb hlt,hlt,rfl⟩
   ·rw [qb0 (ne u.s (by rw [←g1]; exact List.mem_map_of_mem hu))]
    obtain ⟨q1,q2,q3⟩:=g2 u hu
    exact ⟨q1,q2,fun X hw hF=>q3 X hw (hF.imp (fun hF=>by simp only [PMs.ioFlat,Bool.and_eq_true] at hF; exact hF.2) id)⟩
  ·rcases List.mem_cons.1 hs' with rfl|hs'
   ·rw [qcU]; simp
   ·rw [qb0 (ne s' hs')]
    exact ⟨(g3 s' hs').1,fun c hc=>List.mem_cons_of_mem _ ((g3 s' hs').2 c hc)⟩
  ·rcases List.mem_cons.1 hs1 with rfl|hs3 <;> rcases List.mem_cons.1 hs2 with rfl|hs4
   ·rfl
   ·rw [qcU,List.mem_singleton] at hc1
    rw [qb0 (ne s2 hs4)] at hc2
    subst hc1
    exact (hij.1 ((g3 s2 hs4).2 _ hc2)).elim
   ·rw [qcU,List.mem_singleton] at hc2
    rw [qb0 (ne s1 hs3)] at hc1
    subst hc2
    exact (hij.1 ((g3 s1 hs3).2 _ hc1)).elim
   ·rw [qb0 (ne s1 hs3)] at hc1
    rw [qb0 (ne s2 hs4)] at hc2
    exact g4 s1 hs3 s2 hs4 c hc1 hc2
 | .iob t::ps,y,as,_,_,_,_,⟨s,ss,b,i2,n1,n2,m,h0,h1,h2,h3,h4,h5,h6⟩,⟨b',i2',j1,j2,cs,te,k1,k0,k2,k3,k4⟩,hn,hij=>by
  subst h0
  rw [h1] at k1
  injection k1 with e1 e2
  subst e1; subst e2
  subst h1; subst k0
  have hn:=List.nodup_cons.1 hn
  have hp:((b::i2)++(j1++j2)).Perm ((b::j1)++(i2++j2)):=List.perm_iff_count.2 fun a=>by simp only [List.count_append,List.count_cons]; omega
  have hij:=List.nodup_append.1 (hp.nodup_iff.1 hij)
  obtain ⟨g1,g0,nw,g2,g3,g4⟩:=qdM (ss:=ss) ps h6 k4 hn.2 hij.2.1
  have ne:∀s'∈ss,s'≠s:=fun s' hs' e=>hn.1 (e ▸ hs')
  refine ⟨by simp [qdU,g1],fun s' hs'=> ?_,qpw nw s (b::j1),fun u hu=> ?_,fun s' hs'=> ?_,fun s1 hs1 s2 hs2 c hc1 hc2=> ?_⟩
  ·rcases List.mem_cons.1 hs' with rfl|hs'
   ·exact h5
   ·exact g0 s' hs'
  ·rcases List.mem_cons.1 hu with rfl|hu
   ·refine ⟨.inl rfl,rfl,fun X hw hF=> ?_⟩
    subst hw
    simp only [qcU]
    refine ⟨b,cs,j1,te,h4,k2,?_,rfl⟩
    rcases hF with hF|hF
    ·simp only [PMs.ioFlat,Bool.and_eq_true] at hF
     exact k3.flat t hF.1
    ·exact k3.keep (fun b hb hlt=>⟨hF b hb hlt,hlt,rfl⟩) (fun _ _ _=>rfl)
   ·rw [qb0 (ne u.s (by rw [←g1]; exact List.mem_map_of_mem hu))]
    obtain ⟨q1,q2,q3⟩:=g2 u hu
    exact ⟨q1,q2,fun X hw hF=>q3 X hw (hF.imp (fun hF=>by simp only [PMs.ioFlat,Bool.and_eq_true] at hF; exact hF.2) id)⟩
  ·rcases List.mem_cons.1 hs' with rfl|hs'
   ·rw [qcU]
    exact ⟨hij.1,fun c hc=>hp.mem_iff.2 (List.mem_append_left _ hc)⟩
   ·rw [qb0 (ne s' hs')]
    exact ⟨(g3 s' hs').1,fun c hc=>hp.mem_iff.2 (List.mem_append_right _ ((g3 s' hs').2 c hc))⟩
  ·rcases List.mem_cons.1 hs1 with rfl|hs3 <;> rcases List.mem_cons.1 hs2 with rfl|hs4
   ·rfl
   ·rw [qcU] at hc1
    rw [qb0 (ne s2 hs4)] at hc2
    exact (hij.2.2 c hc1 c ((g3 s2 hs4).2 _ hc2) rfl).elim
   ·rw [qcU] at hc2
    rw [qb0 (ne s1 hs3)] at hc1
    exact (hij.2.2 c hc2 c ((g3 s1 hs3).2 _ hc1) rfl).elim
   ·rw [qb0 (ne s1 hs3)] at hc1
    rw [qb0 (ne s2 hs4)] at hc2
    exact g4 s1 hs3 s2 hs4 c hc1 hc2
 | .ior et e::ps,y,as,_,_,_,js,⟨s,ss,i1,i2,h0,h1,h2,h3,h4,h5,h6⟩,⟨i1',i2',k1,k2,k3⟩,hn,hij=>by
  subst h0
  have e1:i1'=i1:=by
   obtain ⟨_,cells,_,hb,_⟩:=k2
   rw [hb,h4]
  subst e1
  rw [h1] at k1
  have e2:=List.append_cancel_left k1
  subst e2
  subst h1
  have hn:=List.nodup_cons.1 hn
  rw [List.append_assoc] at hij
  have hij:=List.nodup_append.1 hij
  obtain ⟨g1,g0,nw,g2,g3,g4⟩:=qdM (ss:=ss) ps h6 k3 hn.2 hij.2.1
  have ne:∀s'∈ss,s'≠s:=fun s' hs' e=>hn.1 (e ▸ hs')
  refine ⟨by simp [qdU,g1],fun s' hs'=> ?_,qpw nw s i1',fun u hu=> ?_,fun s' hs'=> ?_,fun s1 hs1 s2 hs2 c hc1 hc2=> ?_⟩
  ·rcases List.mem_cons.1 hs' with rfl|hs'
   ·exact h5
   ·exact g0 s' hs'
  ·rcases List.mem_cons.1 hu with rfl|hu
   ·refine ⟨.inr fun b hb=>qhe k2.own b (h3.symm.trans hb),rfl,fun X hw hF=> ?_⟩
    subst hw
    show qS _ _ et e y.1 (tm.getD s undef) (qpw nw s i1' s)
    rw [qcU]
    rw [h3]
    rcases hF with hF|hF
    ·simp only [PMs.ioFlat,Bool.and_eq_true] at hF
     exact (k2.flat hF.1).own
    ·exact qS.keep (fun b hb hlt=>⟨hF b hb hlt,hlt,rfl⟩) (fun _ _ _=>rfl) k2.own
   ·rw [qb0 (ne u.s (by rw [←g1]; exact List.mem_map_of_mem hu))]
    obtain ⟨q1,q2,q3⟩:=g2 u hu
    exact ⟨q1,q2,fun X hw hF=>q3 X hw (hF.imp (fun hF=>by simp only [PMs.ioFlat,Bool.and_eq_true] at hF; exact hF.2) id)⟩
  ·rw [List.append_assoc]
   rcases List.mem_cons.1 hs' with rfl|hs'
   ·rw [qcU]
    exact ⟨hij.1,fun c hc=>List.mem_append_left _ hc⟩
   ·rw [qb0 (ne s' hs')]
    exact ⟨(g3 s' hs').1,fun c hc=>List.mem_append_right _ ((g3 s' hs').2 c hc)⟩
  ·rcases List.mem_cons.1 hs1 with rfl|hs3 <;> rcases List.mem_cons.1 hs2 with rfl|hs4
   ·rfl
   ·rw [qcU] at hc1
    rw [qb0 (ne s2 hs4)] at hc2
    exact (hij.2.2 c hc1 c ((g3 s2 hs4).2 _ hc2) rfl).elim
   ·rw [qcU] at hc2
    rw [qb0 (ne s1 hs3)] at hc1
    exact (hij.2.2 c hc2 c ((g3 s1 hs3).2 _ hc1) rfl).elim
   ·rw [qb0 (ne s1 hs3)] at hc1
    rw [qb0 (ne s2 hs4)] at hc2
    exact g4 s1 hs3 s2 hs4 c hc1 hc2
 | .val _::ps,y,as,ss,_,_,_,h1,h2,hn,hij=>by
  have:=qdM (ss:=ss) ps h1 (y:=y) h2 hn hij
  simpa [qdU,PMs.ioFlat] using this
 | .own _ _::ps,y,as,ss,_,_,_,h1,h2,hn,hij=>by
  have:=qdM (ss:=ss) ps h1 (y:=y) h2 hn hij
  simpa [qdU,PMs.ioFlat] using this
 | .nil _ _::ps,y,as,ss,_,_,_,h1,h2,hn,hij=>by
  have:=qdM (ss:=ss) ps h1 (y:=y) h2 hn hij
  simpa [qdU,PMs.ioFlat] using this
 | .rd _::ps,y,as,ss,_,_,_,h1,h2,hn,hij=>by
  have:=qdM (ss:=ss) ps h1 (y:=y) h2 hn hij
  simpa [qdU,PMs.ioFlat] using this
 | .fn _ _::ps,y,as,ss,_,_,_,h1,h2,hn,hij=>by
  have:=qdM (ss:=ss) ps h1 (y:=y) h2 hn hij
  simpa [qdU,PMs.ioFlat] using this
theorem qrd {X:Sit} (rs:List RM) {y:RMs.den rs} {vs:List Value} {bs:List Nat} (h:qaJ X.w X.F (qcN rs y) vs bs):qak X (qhH rs y) (qd8 vs) bs:=by
 match rs,y,h with
 |[],y,h=>
  obtain ⟨h1,h2⟩:=h
  subst h1
  exact ⟨[],rfl,rfl,h2⟩
 |[.val t],y,⟨v,r,b1,b2,h1,h2,h3,h4,h5⟩=>
  subst h4
  rw [h1,h2,h5,h3.1]
  exact ⟨rfl,h3.2⟩
 |[.nz e],y,⟨v,r,b1,b2,h1,h2,h3,h4,h5⟩=>
  subst h4
  rw [h1,h2,h5,h3.1]
  exact ⟨rfl,h3.2⟩
 |[.own et e],y,⟨v,r,b1,b2,h1,h2,h3,h4,h5⟩=>
  subst h4
  rw [h1,h2,h5,List.append_nil]
  exact h3
 |r1::r2::rs,y,h=>
  have e1:qhH (r1::r2::rs) y= .tup (qcN (r1::r2::rs) y):=by unfold qhH; split <;> first|rfl|(rename_i h _; cases h)
  rw [e1]
  refine ⟨vs,?_,h⟩
  cases r1 <;> cases r2 <;> (obtain ⟨v,r,b1,b2,h1,h2,h3,v2,r2',b3,b4,h4,_⟩:=h; subst h1; subst h4; rfl)
theorem qlg (rs:List RM) (y:RMs.den rs):(qhH rs y).mentions=[]:=by
 unfold qhH
 split <;> rfl
theorem qkh (h:qR C σ a.tmps w own) {D:qg} {f:Nat} {y:RMs.den D.rs×PMs.ioDen D.ps} {as:Array Value} {gone ios g i inn:List Nat} {al:List Value} {F:Nat→Prop}
  (hcall:(∀b∈g++i,¬F b∧b<w.heap.size)→(g++i).Nodup→Calls C.P f as w fun e w'=>∃v,e= .returned v∧D.Post w F al g i y v w') (hgw:∀b∈g++(i++inn),∃s∈gone++ios,b∈own s) (hgn:(gone++ios).Nodup→(g++(i++inn)).Nodup) (hgl:∀s∈gone,s<σ.length) (hbx:qck σ a.tmps own D.ps al ios i inn)
  (hF:∀b,F b→C.free w own b∨b∈inn∨(∃s,s∉gone++ios∧b∈own s))
  (hflat:(RMs.flat D.rs=true∧PMs.ioFlat D.ps=true)∨∀b,F b→C.free w own b∨b∈inn)
  (hnd:(gone++ios).Nodup) (hdst:∀d,o.dst=some d→d∉gone++ios) (hd:∀u∈qbG o (qhH D.rs y.1),u.s<σ.length)
  (hr:(execOp a.eval o).run C.P w= .ok (.enter f as) w):
  qcW C o a w (qf σ (gone.map (fun s=>⟨s,true,.undef⟩)++qdU D.ps y.2 ios++qbG o (qhH D.rs y.1))):=by
 have hn1:=List.nodup_append.1 hnd
 have hgii:=hgn hnd
 have hgi:(g++i).Nodup:=by
  rw [←List.append_assoc] at hgii
  exact (List.nodup_append.1 hgii).1
 have gi:∀b∈g++i,∃s∈gone++ios,b∈own s:=fun b hb=>hgw b (by
  rcases List.mem_append.1 hb with hb|hb
  ·exact List.mem_append_left _ hb
  ·exact List.mem_append_right _ (List.mem_append_left _ hb))
 have bx2:∀b∈inn,∃s∈gone++ios,b∈own s:=fun b hb=>hgw b (List.mem_append_right _ (List.mem_append_right _ hb))
 have hg:∀b∈g,∃s∈gone++ios,b∈own s:=fun b hb=>gi b (List.mem_append_left _ hb)
 have bn2:∀b∈g++i,b∉inn:=fun b hb hm=>by
  rw [←List.append_assoc] at hgii
  exact (List.nodup_append.1 hgii).2.2 b hb b hm rfl
 have hpre:∀b∈g++i,¬F b∧b<w.heap.size:=by
  intro b hb
  obtain ⟨s,hs,hbs⟩:=gi b hb
  refine ⟨fun hFb=> ?_,(h.mine s b hbs).2⟩
  rcases hF b hFb with hf|hf|⟨s',hs',hf⟩
  ·exact hf.2.2 s hbs
  ·exact bn2 b hb hf
  ·have:=h.apart s s' b hbs hf
   subst this
   exact hs' hs
 intro K Q hK
 unfold Oper.wp
 rw [hr]
 refine Calls.mono (hcall hpre hgi) ?_
 rintro e w' ⟨v,rfl,vs,bs,js,rfl,hbjn,hbl,hres,hios,hkept⟩
 have hbjn':=List.nodup_append.1 hbjn
 have hbn:=hbjn'.1
 have hbi:∀b∈bs++js,b∉i:=fun b hb hi=>by
  rcases (hbl b hb).1 with h1|h1
  ·exact (List.nodup_append.1 hgi).2.2 b h1 b hi rfl
  ·have:=(hpre b (List.mem_append_right _ hi)).2
   omega
 have hijn:(i++js).Nodup:=List.nodup_append.2 ⟨(List.nodup_append.1 hgi).2.1,hbjn'.2.1,fun b hb b' hb' e=>by
  subst e
  exact hbi b (List.mem_append_right _ hb') hb⟩
 obtain ⟨u1,bx3,nw0,u0',_⟩:=qdM (σ:=σ) (tm:=a.tmps) (own:=own) D.ps hbx hios hn1.2.1 hijn
 generalize hus:gone.map (fun s=>(⟨s,true,.undef⟩:U))++qdU D.ps y.2 ios++qbG o (qhH D.rs y.1)=us at hK
 have hslots:us.map (·.s)=gone++ios++o.dst.toList:=by
  rw [←hus,List.map_append,List.map_append,u1]
  congr 1
  ·congr 1
   rw [List.map_map]
   exact List.map_id _
  ·unfold qbG
   cases o.dst <;> rfl
 have hdst':∀d∈o.dst.toList,d∉gone++ios:=fun d hd=>hdst d (by simpa using hd)
 have hsn:(us.map (·.s)).Nodup:=by
  rw [hslots]
  refine List.nodup_append.2 ⟨hnd,by cases o.dst <;> simp,fun s hs s' hs' e=> ?_⟩
  subst e
  exact hdst' s hs' hs
 have hub:∀u∈us,(u.bump=true∨(u.s∉o.dst.toList∧∀b,a.tmps.getD u.s undef≠ptr b 0))∧u.s<σ.length:=by
  intro u hu
  rw [←hus] at hu
  rcases List.mem_append.1 hu with hu|hu
  ·rcases List.mem_append.1 hu with hu|hu
   ·obtain ⟨s,hs,rfl⟩:=List.mem_map.1 hu
    exact ⟨.inl rfl,hgl s hs⟩
   ·have hui:u.s∈ios:=by rw [←u1]; exact List.mem_map_of_mem hu
    refine ⟨?_,bx3 u.s hui⟩
    exact (u0' u hu).1.imp id fun hq=>⟨fun hm=>hdst' _ hm (List.mem_append_right _ hui),hq⟩
  ·refine ⟨.inl ?_,hd u hu⟩
   unfold qbG at hu
   cases hdd:o.dst with
   |none=>rw [hdd] at hu; cases hu
   |some d=>rw [hdd] at hu; simp at hu; rw [hu]
 obtain ⟨at1,at2⟩:=qpu us σ hsn (fun u hu=>(hub u hu).2)
 have bsAway:∀b∈bs++js,∀s,b∈own s→s∈gone++ios:=by
  intro b hb s hs
  rcases (hbl b hb).1 with hgb|hfr
  ·obtain ⟨s',hs',k⟩:=hg b hgb
   have:=h.apart s s' b hs k
   subst this
   exact hs'
  ·have:=(h.mine s b hs).2
   omega
 have free:∀own':Nat→List Nat,(∀s b,b∈own' s→b∈bs++js∨b∈i∨(b∈own s∧s∉gone++ios))→∀b,qja w F g i (bs++js) b→b<w'.heap.size→(C.free w own b∨b∈inn∨(∃s,s∉gone++ios∧b∈own s)→C.free w own b∨b∈inn)→C.free w' own' b:=by
  rintro own' hown' b ⟨hb1,hb2,hb3⟩ hlt hnot
  have hbase:C.base b:=by
   rcases hb1 with hb1|hb1|hb1
   ·rcases hF b hb1 with hf|hf|⟨s',hs',hf⟩
    ·exact hf.1
    ·obtain ⟨s',_,k⟩:=bx2 b hf
     exact .inr (h.mine s' b k).1
    ·exact .inr (h.mine s' b hf).1
   ·obtain ⟨s,_,k⟩:=hg b hb1
    exact .inr (h.mine s b k).1
   ·have:=h.kept.size
    exact .inr (.inr (by omega))
  refine ⟨hbase,hlt,fun s hs=> ?_⟩
  rcases hown' s b hs with h1|h1|⟨h1,h2⟩
  ·exact hb2 h1
  ·exact hb3 h1
  ·rcases hb1 with hb1|hb1|hb1
   ·rcases hnot (hF b hb1) with hf|hf
    ·exact hf.2.2 s h1
    ·obtain ⟨s',hs',k⟩:=bx2 b hf
     have:=h.apart s s' b h1 k
     subst this
     exact h2 hs'
   ·obtain ⟨s',hs',k⟩:=hg b hb1
    have:=h.apart s s' b h1 k
    subst this
    exact h2 hs'
   ·have:=(h.mine s b h1).2
    omega
 have conv:∀own':Nat→List Nat,(∀s b,b∈own' s→b∈bs++js∨b∈i∨(b∈own s∧s∉gone++ios))→(RMs.flat D.rs=true∨∀b,qja w F g i (bs++js) b→b<w'.heap.size→C.free w' own' b)∧(PMs.ioFlat D.ps=true∨∀b,qja w F g i (bs++js) b→b<w'.heap.size→C.free w' own' b):=by
  intro own' hown'
  rcases hflat with ⟨f1,f2⟩|hf
  ·exact ⟨.inl f1,.inl f2⟩
  ·have:∀b,qja w F g i (bs++js) b→b<w'.heap.size→C.free w' own' b:=fun b hb hlt=>by
    refine free own' hown' b hb hlt fun hor=> ?_
    rcases hb.1 with hFb|hgb|hfr
    ·exact hf b hFb
    ·obtain ⟨s,hs,k⟩:=hg b hgb
     rcases hor with hq|hq|⟨s',hs',k'⟩
     ·exact .inl hq
     ·exact .inr hq
     ·have:=h.apart s s' b k k'
      subst this
      exact (hs' hs).elim
    ·rcases hor with hq|hq|⟨s',hs',k'⟩
     ·exact .inl hq
     ·exact .inr hq
     ·have:=(h.mine s' b k').2
      omega
   exact ⟨.inr this,.inr this⟩
 have hboth:∃own':Nat→List Nat,(∀d,o.dst=some d→own' d=bs)∧(∀s∈gone,own' s=[])∧(∀s,s∉us.map (·.s)→own' s=own s)∧(∀s∈ios,(own' s).Nodup∧∀b∈own' s,b∈i++js)∧(∀s∈ios,∀s'∈ios,∀b,b∈own' s→b∈own' s'→s=s')∧
   (∀u∈qdU D.ps y.2 ios,u.a.mentions=[]∧∀X:Sit,X.w=w'→X.F=C.free w' own'→qak X u.a (a.tmps.getD u.s undef) (own' u.s))∧qaJ w' (C.free w' own') (qcN D.rs y.1) vs bs:=by
  have mk:∀nw:Nat→List Nat,(∀s∈ios,(nw s).Nodup∧∀b∈nw s,b∈i++js)→∃own':Nat→List Nat,(∀d,o.dst=some d→own' d=bs)∧(∀s∈gone,own' s=[])∧(∀s∈ios,own' s=nw s)∧(∀s,s∉us.map (·.s)→own' s=own s)∧(∀s b,b∈own' s→b∈bs++js∨b∈i∨(b∈own s∧s∉gone++ios)):=by
   intro nw hnw
   refine ⟨fun s=>if s∈o.dst.toList then bs else if s∈gone then [] else if s∈ios then nw s else own s,fun d hd=>by simp [hd],fun s hs=> ?_,fun s hs=> ?_,fun s hs=> ?_,fun s b hb=> ?_⟩
   ·have:s∉o.dst.toList:=fun hm=>hdst' s hm (List.mem_append_left _ hs)
    simp only [if_neg this,if_pos hs]
   ·have h1:s∉o.dst.toList:=fun hm=>hdst' s hm (List.mem_append_right _ hs)
    have h2:s∉gone:=fun hm=>hn1.2.2 s hm s hs rfl
    simp only [if_neg h1,if_neg h2,if_pos hs]
   ·rw [hslots] at hs
    simp only [List.mem_append,not_or] at hs
    simp only [if_neg hs.2,if_neg hs.1.1,if_neg hs.1.2]
   ·simp only at hb
    split at hb
    ·exact .inl (List.mem_append_left _ hb)
    ·split at hb
     ·cases hb
     ·rename_i h2
      split at hb
      ·rename_i h3
       rcases List.mem_append.1 ((hnw s h3).2 b hb) with hb|hb
       ·exact .inr (.inl hb)
       ·exact .inl (List.mem_append_right _ hb)
      ·rename_i h3
       exact .inr (.inr ⟨hb,fun hm=>(List.mem_append.1 hm).elim h2 h3⟩)
  obtain ⟨_,_,nw,v2,v3,v4⟩:=qdM (σ:=σ) (tm:=a.tmps) (own:=own) D.ps hbx hios hn1.2.1 hijn
  obtain ⟨own',o1,o2,o3,o4,o5⟩:=mk nw v3
  have hcv:=conv own' o5
  refine ⟨own',o1,o2,o4,fun s hs=>by rw [o3 s hs]; exact v3 s hs,fun s hs s' hs' b hb hb'=>v4 s hs s' hs' b (by rw [←o3 s hs]; exact hb) (by rw [←o3 s' hs']; exact hb'),fun u hu=> ?_,qaJ.turn D.rs hcv.1 hres⟩
  have hus':u.s∈ios:=by rw [←u1]; exact List.mem_map_of_mem hu
  rw [o3 _ hus']
  refine ⟨(v2 u hu).2.1,fun X hw hF'=> ?_⟩
  exact (v2 u hu).2.2 X hw (by rw [hF']; exact hcv.2)
 obtain ⟨own',oDst,oGone,oElse,oIos,oAp,u2',hres'⟩:=hboth
 refine hK _ _ own' (qgQ o a _) ?_
 have htmps:∀s,s∉o.dst.toList→(a.put o.dst (qd8 vs)).tmps.getD s undef=a.tmps.getD s undef:=fun s hs=>by
  cases hdd:o.dst with
  |none=>rfl
  |some d=>
   rw [hdd] at hs
   exact qaA _ _ (by simpa using hs)
 have hmem:∀s,s∈us.map (·.s)→(s∈gone∨s∈ios)∨s∈o.dst.toList:=fun s hs=>by
  rw [hslots] at hs
  rcases List.mem_append.1 hs with hs|hs
  ·exact .inl (List.mem_append.1 hs)
  ·exact .inr hs
 have slot:∀s,s∈us.map (·.s)→((qi σ s).1<(qi (qf σ us) s).1∨((qi (qf σ us) s).1=(qi σ s).1∧s∉o.dst.toList∧∀b,a.tmps.getD s undef≠ptr b 0))∧qak (sit C (qf σ us) (a.put o.dst (qd8 vs)).tmps w' own') (qi (qf σ us) s).2 ((a.put o.dst (qd8 vs)).tmps.getD s undef) (own' s)∧(qi (qf σ us) s).2.mentions=[]:=by
  intro s hs
  obtain ⟨u,hu,rfl⟩:=List.mem_map.1 hs
  rw [at1 u hu]
  refine ⟨?_,?_⟩
  ·rcases (hub u hu).1 with h1|h1
   ·rw [if_pos h1]; exact .inl (Nat.lt_succ_self _)
   ·by_cases hbp:u.bump=true
    ·rw [if_pos hbp]; exact .inl (Nat.lt_succ_self _)
    ·rw [if_neg hbp]; exact .inr ⟨rfl,h1⟩
  have hu0:=hu
  rw [←hus] at hu
  rcases List.mem_append.1 hu with hu|hu
  ·rcases List.mem_append.1 hu with hu|hu
   ·obtain ⟨s,hs,rfl⟩:=List.mem_map.1 hu
    exact ⟨trivial,rfl⟩
   ·have hsi:u.s∈ios:=by rw [←u1]; exact List.mem_map_of_mem hu
    refine ⟨?_,(u2' u hu).1⟩
    rw [htmps _ (fun hm=>hdst' _ hm (List.mem_append_right _ hsi))]
    exact (u2' u hu).2 _ rfl rfl
  ·unfold qbG at hu
   cases hdd:o.dst with
   |none=>rw [hdd] at hu; cases hu
   |some d=>
    rw [hdd] at hu
    have hu:u=⟨d,true,qhH D.rs y.1⟩:=by simpa using hu
    have hdl:d<σ.length:=by have:=(hub u hu0).2; rw [hu] at this; exact this
    subst hu
    refine ⟨?_,qlg _ _⟩
    show qak _ _ ((a.put (some d) (qd8 vs)).tmps.getD d undef) (own' d)
    rw [oDst d hdd,show (a.put (some d) (qd8 vs)).tmps.getD d undef=qd8 vs from qbU _ _ (by rw [h.size]; exact hdl)]
    exact qrd (X:=sit C (qf σ us) _ w' own') D.rs hres'
 refine h.update (fun s=>s∈us.map (·.s)) (qE _ _) (by cases o.dst <;> simp [Act.put]) ?_ (fun s hs=>(slot s hs).1.imp id fun q=>⟨q.1,htmps s q.2.1,fun b _ hp=>absurd hp (q.2.2 b)⟩) ?_ ?_ ?_ ?_ (fun s hs=>(slot s hs).2.1) (fun s hs m hm=>by rw [(slot s hs).2.2] at hm; cases hm)
 ·intro s hs
  refine ⟨at2 s hs,htmps s fun hm=>hs ?_,oElse s hs⟩
  rw [hslots]
  exact List.mem_append_right _ hm
 ·refine hkept.mono fun k hk=> ?_
  obtain ⟨s,hs,hb⟩:=gi k hk
  exact ⟨s,by rw [hslots]; exact List.mem_append_left _ hs,hb⟩
 ·intro s hs
  obtain ⟨u,hu,rfl⟩:=List.mem_map.1 hs
  exact (hub u hu).2
 ·intro s hs
  rcases hmem s hs with (hm|hm)|hm
  ·rw [oGone s hm]
   exact ⟨fun b hb=>(by cases hb),List.nodup_nil⟩
  ·refine ⟨fun b hb=> ?_,(oIos s hm).1⟩
   rcases List.mem_append.1 ((oIos s hm).2 b hb) with hb|hb
   ·obtain ⟨s',h1,h2⟩:=gi b (List.mem_append_right _ hb)
    exact .inr ⟨s',by rw [hslots]; exact List.mem_append_left _ h1,h2⟩
   ·obtain ⟨h1,h2⟩:=hbl b (List.mem_append_right _ hb)
    rcases h1 with hgb|hfr
    ·obtain ⟨s',hs',k⟩:=hg b hgb
     exact .inr ⟨s',by rw [hslots]; exact List.mem_append_left _ hs',k⟩
    ·exact .inl ⟨hfr,h2⟩
  ·rw [oDst s (by simpa using hm)]
   refine ⟨fun b hb=> ?_,hbn⟩
   obtain ⟨h1,h2⟩:=hbl b (List.mem_append_left _ hb)
   rcases h1 with hgb|hfr
   ·obtain ⟨s',hs',k⟩:=hg b hgb
    exact .inr ⟨s',by rw [hslots]; exact List.mem_append_left _ hs',k⟩
   ·exact .inl ⟨hfr,h2⟩
 ·intro s s' b hs hs' hb hb'
  have sub:∀s,s∈us.map (·.s)→s∉o.dst.toList→b∈own' s→b∈i++js∧s∈ios:=by
   intro s hs hnd hb
   rcases hmem s hs with (hm|hm)|hm
   ·rw [oGone s hm] at hb; cases hb
   ·exact ⟨(oIos s hm).2 b hb,hm⟩
   ·exact (hnd hm).elim
  have cross:∀s s',s∈o.dst.toList→s'∈us.map (·.s)→s'∉o.dst.toList→b∈own' s→b∈own' s'→False:=by
   intro s s' hd hs' hnd hb hb'
   rw [oDst s (by simpa using hd)] at hb
   obtain ⟨k1,k2⟩:=sub s' hs' hnd hb'
   rcases List.mem_append.1 k1 with k1|k1
   ·exact hbi b (List.mem_append_left _ hb) k1
   ·exact hbjn'.2.2 b hb b k1 rfl
  by_cases h1:s∈o.dst.toList <;> by_cases h2:s'∈o.dst.toList
  ·have e1:o.dst=some s:=by simpa using h1
   have e2:o.dst=some s':=by simpa using h2
   rw [e1] at e2
   injection e2
  ·exact (cross s s' h1 hs' h2 hb hb').elim
  ·exact (cross s' s h2 hs h1 hb' hb).elim
  ·exact oAp s (sub s hs h1 hb).2 s' (sub s' hs' h2 hb').2 b hb hb'
end
end Go.Vi
namespace Go.Vi
open Go.RowKit
section
variable {C:Ctx} {E:Env} {σ:St} {tm:Array Value} {a:Act} {w w':World} {own:Nat→List Nat} {o:Oper} {p:qgw} [Tabbed E C]
theorem qR.expose (h:qR C σ tm w own) {s:Nat} {c:BC} {u:Ty} {x:u.den} {f:Bool} (hs:(qi σ s).2= .box c) (hsz:c.size=u.size) (hg:c.get 0 u=some (x,f)):
  ∃own',qR C (qI σ ⟨s,true,.view u x 0⟩) tm w own'∧(∀b,C.free w own b→C.free w own' b)∧(∀s',∀b∈own' s',b∈own s')∧
   ∃(b:Nat) (cs:List Value),tm.getD s undef= .pointer (some ⟨b,0,none⟩)∧C.free w own' b∧b<w.heap.size∧qfc w ⟨b,0,none⟩ cs∧Rep w (C.free w own') u x cs:=by
 have hsl:s<σ.length:=qfU (by rw [hs]; simp)
 have hr:=h.rep s hsl
 rw [hs] at hr
 obtain ⟨b,cs,bs',te,h1,h2,h3,h4⟩:=hr
 let own':Nat→List Nat:=fun s'=>if s'=s then [] else own s'
 have sub:∀s',∀b∈own' s',b∈own s':=fun s' b hb=>by
  simp only [own'] at hb
  split at hb
  ·cases hb
  ·exact hb
 have mono:∀b,C.free w own b→C.free w own' b:=fun b hb=>⟨hb.1,hb.2.1,fun s' hs'=>hb.2.2 s' (sub s' b hs')⟩
 have new:∀b∈own s,C.free w own' b:=fun b hb=>⟨.inr (h.mine s b hb).1,(h.mine s b hb).2,fun s' hs'=>by
  have:=h.apart s s' b hb (sub s' b hs')
  subst this
  simp [own'] at hs'⟩
 have hb0:b∈own s:=by rw [h4]; exact List.mem_cons_self
 obtain ⟨q1,q2,_⟩:=h3.get hg
 have hlen:=h3.length
 rw [List.drop_zero,List.take_of_length_le (by omega)] at q2
 have hrep:Rep w (C.free w own') u x cs:=q2.keep fun b' hb' hlt=>⟨by
  rcases hb' with hb'|hb'
  ·exact mono b' hb'
  ·exact new b' (by rw [h4]; exact List.mem_cons_of_mem _ hb'),hlt,rfl⟩
 have hcl:qfc w ⟨b,0,none⟩ cs:=by
  have:=qgB (off:=0) (n:=cs.length) h2
  rwa [List.drop_zero,List.take_length] at this
 have hlt:b<w.heap.size:=(h.mine s b hb0).2
 have eS:qi (qI σ ⟨s,true,.view u x 0⟩) s=((qi σ s).1+1,.view u x 0):=qG σ ⟨s,true,_⟩ hsl
 refine ⟨own',?_,mono,sub,b,cs,h1,new b hb0,hlt,hcl,hrep⟩
 refine h.update (fun x=>x=s) (qV _ _) rfl (fun s' hs'=>⟨qp σ ⟨s,true,.view u x 0⟩ hs',rfl,by simp [own',hs']⟩) (fun s' hs'=> .inl (by subst hs'; rw [eS]; exact Nat.lt_succ_self _)) (qcA.refl _ _) (fun s' hs'=>by subst hs'; exact hsl) (fun s' hs'=> ?_) (fun x y b hx hy _ _=>hx.trans hy.symm) (fun s' hs'=> ?_) (fun s' hs' m hm=> ?_)
 ·subst hs'
  simp only [own',if_true]
  exact ⟨fun b hb=>(by cases hb),List.nodup_nil⟩
 ·subst hs'
  rw [eS]
  simp only [own',if_true]
  exact ⟨rfl,⟨b,0,none⟩,cs,by rw [h1]; rfl,new b hb0,hlt,hcl,hrep⟩
 ·subst hs'
  rw [eS] at hm
  cases hm
def qhU (w:World) (F:Nat→Prop):(us:List Ty)→denL us→List Value→Prop
 |[],_,vs=>vs=[]
 |u::us,x,vs=>∃(ad:Addr) (cs:List Value) (r:List Value),vs= .pointer (some ad)::r∧F ad.block∧ad.block<w.heap.size∧qfc w ad cs∧Rep w F u x.1 cs∧qhU w F us x.2 r
theorem qhU.keep {w w':World} {F F':Nat→Prop} (hF:∀b,F b→b<w.heap.size→F' b∧b<w'.heap.size∧w'.heap[b]? =w.heap[b]?):(us:List Ty)→ {x:denL us} → {vs:List Value} →qhU w F us x vs→qhU w' F' us x vs
 |[],_,_,h=>h
 |u::us,_,_,⟨ad,cs,r,h1,h2,h3,h4,h5,h6⟩=>by
  obtain ⟨g1,g2,g3⟩:=hF _ h2 h3
  exact ⟨ad,cs,r,h1,g1,g2,fun j z hj=>by rw [←h4 j z hj]; exact World.cell?_of_block (by rw [qW]; exact g3),h5.keep hF,h6.keep hF us⟩
theorem qi5 {P:Program} {w:World} {F:Nat→Prop} :(ts us:List Ty)→ {x:denL ts} → {y:denL us} → {vs cs:List Value} →qdq w F ts x vs→qhU w F us y cs→qaj P w F (valPs ts++rdPs us) (qn7 ts us x y) (vs++cs) [] []
 |[],[],_,_,vs,cs,h1,h2=>by
  have h1:vs=[]:=h1
  have h2:cs=[]:=h2
  subst h1; subst h2
  exact ⟨rfl,rfl,rfl⟩
 |[],u::us,_,_,vs,cs,h1,⟨ad,ds,r,k1,k2,k3,k4,k5,k6⟩=>by
  have h1:vs=[]:=h1
  subst h1
  exact ⟨ad,ds,r,k1,k2,k3,k4,k5,qi5 [] us (x:=()) (vs:=[]) rfl k6⟩
 |t::ts,us,_,_,vs,cs,⟨v,r,h1,h2,h3⟩,h4=>by
  subst h1
  exact ⟨v,r++cs,rfl,h2,qi5 ts us h3 h4⟩
theorem qkY:(us:List Ty)→(ops:List Operand)→ {q:denL us×List U} →(qoS us ops).run (qi σ)=some q→(qgb ops).Nodup→ {τ:St} → {own:Nat→List Nat} →qR C τ a.tmps w own→(∀s∈qgb ops,qi τ s=qi σ s)→
  ∃own',qR C (qf τ q.2) a.tmps w own'∧(∀b,C.free w own b→C.free w own' b)∧qhU w (C.free w own') us q.1 (ops.map a.eval)∧∀u∈q.2,u.s∈qgb ops
 |[],[],q,he,_,τ,own,h,_=>by
  have:=Q.ret_some he
  subst this
  exact ⟨own,h,fun _ hb=>hb,rfl,fun u hu=>by cases hu⟩
 |[],_::_,_,he,_,_,_,_,_=>by cases he
 |_::_,[],_,he,_,_,_,_,_=>by cases he
 |u::us,.const _::_,_,he,_,_,_,_,_=>by cases he
 |u::us,.func _::_,_,he,_,_,_,_,_=>by cases he
 |u::us,.global _::_,_,he,_,_,_,_,_=>by cases he
 |u::us,.tmp s::r,q,he,hn,τ,own,h,hsame=>by
  simp only [qoS,Q.run_get] at he
  obtain ⟨q1,h1,he⟩:=Q.bind_some he
  have hn:=List.nodup_cons.1 hn
  have hs0:=hsame s List.mem_cons_self
  split at he
  ·rename_i c hc
   split at he
   case isFalse=>cases he
   rename_i hsz
   split at he
   case h_2=>cases he
   rename_i x f hg
   have:=Q.ret_some he
   subst this
   obtain ⟨own1,k1,k2,k3,b,cs,k4,k5,k6,k7,k8⟩:=h.expose (by rw [hs0]; exact hc) hsz hg
   obtain ⟨own2,g1,g2,g3,g4⟩:=qkY us r h1 hn.2 k1 (fun s' hs'=>by
    rw [qp τ ⟨s,true,.view u x 0⟩ (show s'≠s from fun e=>hn.1 (e ▸ hs'))]
    exact hsame s' (List.mem_cons_of_mem _ hs'))
   refine ⟨own2,g1,fun b hb=>g2 b (k2 b hb),⟨⟨b,0,none⟩,cs,_,?_,g2 b k5,k6,k7,k8.keep fun b hb hlt=>⟨g2 b hb,hlt,rfl⟩,g3⟩,fun u' hu'=> ?_⟩
   ·simp only [List.map_cons]
    congr 1
   ·rcases List.mem_cons.1 hu' with rfl|hu'
    ·exact List.mem_cons_self
    ·exact List.mem_cons_of_mem _ (g4 u' hu')
  ·rename_i t y off hv
   split at he
   case h_2=>cases he
   rename_i x hsub
   have:=Q.ret_some he
   subst this
   obtain ⟨own2,g1,g2,g3,g4⟩:=qkY us r h1 hn.2 h (fun s' hs'=>hsame s' (List.mem_cons_of_mem _ hs'))
   have hsl:s<τ.length:=qfU (by rw [hs0,hv]; simp)
   have hr:=h.rep s hsl
   rw [hs0,hv] at hr
   obtain ⟨_,ad,cs,m1,m2,m3,m4,m5⟩:=hr
   obtain ⟨n1,n2⟩:=m5.sub hsub
   refine ⟨own2,g1,g2,⟨ad.add off,(cs.drop off).take u.size,_,?_,?_,?_,qnj m4,n2.keep fun b hb hlt=>⟨g2 b hb,hlt,rfl⟩,g3⟩,fun u' hu'=>List.mem_cons_of_mem _ (g4 u' hu')⟩
   ·simp only [List.map_cons]
    congr 1
   ·rw [qW]; exact g2 _ m2
   ·rw [qW]; exact m3
  ·cases he
theorem qlZ (hF:qfk E C.P) (h:qR C σ a.tmps w own) {fn:Fn} {first caps:Array Operand} (hop:o.op= .makeFunc fn first caps) {f:Eff}
  (he:(qdv E p o).run (qi σ)=some f) (hd:∀u∈f.upd,u.s<σ.length):qcW C o a w (qf σ f.upd):=by
 unfold qdv at he
 rw [hop] at he
 simp only at he
 split at he
 case h_2=>cases he
 rename_i g
 split at he
 case isFalse=>cases he
 rename_i hfirst
 unfold cloE at he
 split at he
 case h_2=>cases he
 rename_i D hD
 split at he
 case h_2=>cases he
 rename_i ts us vs hp1 hp2
 split at he
 case isFalse=>cases he
 rename_i hty
 obtain ⟨q,h1,he⟩:=Q.bind_some he
 split at he
 case isFalse=>cases he
 rename_i hcond
 simp only [Bool.and_eq_true] at hcond
 have:=Q.ret_some he
 subst this
 have hnd:=qdG hcond.1
 obtain ⟨own',k1,k2,k3,k4⟩:=qkY us caps.toList h1 hnd h (fun _ _=>rfl)
 have hok:=hF g D hD
 obtain ⟨ps,rs,sem⟩:=D
 obtain ⟨e1,e2⟩:=hty
 simp only at e1 e2 hp1 hp2
 subst e1; subst e2
 have hrun:(execOp a.eval o).run C.P w= .ok (.value (.func (.func g) #[] (caps.map a.eval))) w:=by
  unfold execOp
  rw [hop]
  have hf0:first= #[]:=by simpa using hfirst
  subst hf0
  simp only [Instr.makeFunc,Sem.run_bind,Sem.run_pure,Result.andThen_ok,Array.map_empty]
 have hrep:qms C.P w (C.free w own') ts vs (fun x:denL ts=>qjZ (fun y:RMs.den (valRs vs)×PMs.ioDen (valPs ts++rdPs us)=>qty vs y.1) (sem (qn7 ts us x q.1))) (.func (.func g) #[] (caps.map a.eval)):=by
  refine ⟨g,caps.map a.eval,rfl,hok.1,fun w' F' x y as hkp hvals hy=> ?_⟩
  simp only [qeg,Option.map_eq_some_iff] at hy
  obtain ⟨z,hz,rfl⟩:=hy
  have hcaps:qhU w' F' us q.1 (caps.map a.eval).toList:=by
   have:=k3.keep hkp us
   simpa using this
  have hpar:=qi5 (P:=C.P) ts us hvals hcaps
  have:=hok.2 w' F' (qn7 ts us x q.1) z (as++(caps.map a.eval).toList) [] [] ((qR.tabsE (E:=E) k1).keep hkp) hpar (fun b hb=>by cases hb) List.nodup_nil hz
  have e:(as++(caps.map a.eval).toList).toArray=as.toArray++caps.map a.eval:=by simp
  rw [e] at this
  refine Calls.mono this ?_
  rintro e w'' ⟨v',rfl,rs,bs,js,rfl,_,_,hres,_,hk⟩
  obtain ⟨m1,rfl⟩:=qiX vs hres
  refine ⟨rs,rfl,m1.mono vs fun b hb=> ?_,hk.mono fun b hb=>by cases hb⟩
  rcases hb.1 with h|h|h
  ·exact .inl h
  ·cases h
  ·exact .inr h
 have hd2:∀u∈qbG o (.fnv ts vs (fun x:denL ts=>qjZ (fun y:RMs.den (valRs vs)×PMs.ioDen (valPs ts++rdPs us)=>qty vs y.1) (sem (qn7 ts us x q.1)))),u.s<(qf σ q.2).length:=fun u hu=>by
  rw [qE]; exact hd u (List.mem_append_right _ hu)
 obtain ⟨own2,hst⟩:=k1.dst0 (o:=o) (av:= .fnv ts vs (fun x:denL ts=>qjZ (fun y:RMs.den (valRs vs)×PMs.ioDen (valPs ts++rdPs us)=>qty vs y.1) (sem (qn7 ts us x q.1)))) (v:= .func (.func g) #[] (caps.map a.eval)) hd2 ⟨rfl,hrep⟩ (fun m hm=>by cases hm)
 intro K Q1 hK
 unfold Oper.wp
 rw [hrun]
 rw [qbB] at hK
 exact hK _ _ own2 (qgQ o a _) hst
end
end Go.Vi
namespace Go.Vi
open Go.RowKit
theorem qst:(k:Ty)→k.key=true→ {x y:k.den} →keyV k x=keyV k y→x=y
 | .int _,_,x,y,h=>by simp [keyV] at h; exact h
 | .bool,_,x,y,h=>by simp [keyV] at h; exact h
 | .str,_,x,y,h=>by simpa [keyV] using h
theorem qdy: {k:Ty} → {d:TypeDesc} →qi8 k d=true→(x:k.den)→MapKept.IsKey d (keyV k x)
 | .int k,.int k',h,_=>by
  have:k'=k:=of_decide_eq_true h
  exact this.symm
 | .bool,.bool,_,_=>trivial
 | .str,.string,_,_=>trivial
theorem qf2: {k:Ty} → {d:TypeDesc} →qi8 k d=true→k.key=true
 | .int _,.int _,_=>rfl
 | .bool,.bool,_=>rfl
 | .str,.string,_=>rfl
theorem qau.keyV {w:World} {F:Nat→Prop} : {k:Ty} →k.key=true→ {x:k.den} → {v:Value} →qau w F k x v→v=Vi.keyV k x
 | .int _,_,_,_,h=>h.int.1
 | .bool,_,_,_,h=>h.bool
 | .str,_,_,_,h=>h.str.1
section
open Classical
theorem qr5 {α β:Type} (k:α):qgk ([]:List (α×β)) k=0:=rfl
theorem qqb {α β:Type} (p:α×β) (xs:List (α×β)) (k:α):qgk (p::xs) k=if p.1=k then 0 else qgk xs k+1:=by
 unfold qgk
 rw [List.findIdx_cons]
 by_cases h:p.1=k
 ·simp [h]
 ·simp [h]
end
theorem qs4 {α β:Type} {xs:List (α×β)} {k:α} (h:qgk xs k<xs.length):(xs[qgk xs k]'h).1=k:=by
 unfold qgk at h⊢
 have:=List.findIdx_getElem (w:=h)
 simpa using this
theorem qo6 {k:Ty} {d:TypeDesc} (hd:qi8 k d=true) {β:Type} (x:k.den):∀(xs:List (k.den×β)) (l:List MapEntry) (i:Nat),l.length=xs.length→(∀(j:Nat) (e:MapEntry) (p:k.den×β),l[j]? =some e→xs[j]? =some p→e.key=keyV k p.1)→
  (qgk xs x<xs.length∧∃e,l[qgk xs x]? =some e∧Instr.findNow d (keyV k x) l i=some (some (i+qgk xs x,e.val)))∨(¬qgk xs x<xs.length∧Instr.findNow d (keyV k x) l i=some none)
 |[],[],i,_,_=> .inr ⟨by simp [qr5],rfl⟩
 |p::xs,e::l,i,hl,h=>by
  have hk:e.key=keyV k p.1:=h 0 e p rfl rfl
  obtain ⟨r,hr,hiff⟩:=MapKept.sameNow_of_keys (qdy hd x) (by rw [hk]; exact qdy hd p.1:MapKept.IsKey d e.key)
  rw [qqb]
  by_cases hpx:p.1=x
  ·have hr1:r=true:=hiff.2 (by rw [hk,hpx])
   subst hr1
   rw [if_pos hpx]
   exact .inl ⟨by simp,e,rfl,by simp [Instr.findNow,hr]⟩
  ·have hr1:r=false:=by
    cases r with
    |false=>rfl
    |true=>exact absurd (qst k (qf2 hd) (by rw [←hk]; exact (hiff.1 rfl).symm)) hpx
   subst hr1
   rw [if_neg hpx]
   rcases qo6 hd x xs l (i+1) (by simpa using hl) (fun j e p he hp=>h (j+1) e p (by simpa using he) (by simpa using hp)) with ⟨h1,e',h2,h3⟩|⟨h1,h2⟩
   ·refine .inl ⟨by simpa using h1,e',by simpa using h2,?_⟩
    simp [Instr.findNow,hr,h3]
    omega
   ·exact .inr ⟨by simpa using h1,by simp [Instr.findNow,hr,h2]⟩
section
variable {C:Ctx} {E:Env} {σ:St} {tm:Array Value} {a:Act} {w w':World} {own:Nat→List Nat} {o:Oper} {p:qgw} [Tabbed E C]
theorem qns (h:qR C σ a.tmps w own) {x:Operand} {o1:Op1} {tid:Nat} (hp:qbK (sit C σ a.tmps w own) p) (hx:(opd E p tid x).run (qi σ)=some o1) {M:MV} (he:(qsr o1).run (qi σ)=some M):
  M.s<σ.length∧(qi σ M.s).2= .mp M.k M.v M.xs∧a.tmps.getD M.s undef=a.eval x∧qiI w (C.free w own) M.k M.v M.xs (a.eval x) (own M.s):=by
 have ho:=qax h hp hx
 have lt:∀s,(qi σ s).2= .mp M.k M.v M.xs→s<σ.length:=fun s hs=>by
  apply Classical.byContradiction
  intro hn
  have:qi σ s=(0,.undef):=by simp [qi,List.getD,List.getElem?_eq_none (Nat.le_of_not_lt hn)]
  rw [this] at hs
  cases hs
 unfold qsr at he
 split at he
 ·rename_i s k v xs h1 h2
  have:=Q.ret_some he
  subst this
  have hgs:(qi σ s).2= .mp k v xs∨∃s' v' w' a',(qi σ s).2= .grd s' v' w' a':=by
   unfold opd at hx
   split at hx
   ·rename_i t
    rw [Q.run_get] at hx
    have:=Q.ret_some hx
    subst this
    simp only at h1 h2
    injection h1 with h1
    subst h1
    generalize hg:(qi σ t).2=g at h2
    cases g with
    |grd s' v' w' a'=>exact .inr ⟨s',v',w',a',rfl⟩
    |_=>left; unfold qbp at h2; exact h2
   ·split at hx
    ·have:=Q.ret_some hx
     subst this
     cases h1
    ·cases hx
   ·have:=Q.ret_some hx
    subst this
    cases h1
   ·split at hx
    ·have:=Q.ret_some hx
     subst this
     cases h1
    ·cases hx
  unfold qbN at ho
  rw [h1,h2] at ho
  obtain ⟨e1,e2,e3⟩:=ho
  rcases hgs with hgs|⟨s',v',w',a',hgs⟩
  ·exact ⟨lt s hgs,hgs,e1.symm,e3⟩
  ·have hat:=h.at_ s
   rw [hgs] at hat
   have hn:own s=[]:=hat.1
   obtain ⟨b,es,_,hb,_⟩:=e3
   have hb:own s=[b]:=hb
   rw [hn] at hb
   cases hb
 ·rename_i s v0 h2
  rw [Q.run_get] at he
  split at he
  ·rename_i hv
   split at he
   ·rename_i k v xs hm
    have:=Q.ret_some he
    subst this
    have hu:=ho.unowned (by rw [h2]; rfl)
    rw [h2] at hu
    have e1:a.tmps.getD s undef=a.eval x:=hu.2 hv
    have hat:=h.at_ s
    rw [hm,e1] at hat
    exact ⟨lt s hm,hm,e1,hat⟩
   ·cases he
  ·cases he
 ·cases he
theorem qsT (h:qR C σ a.tmps w own) {k:Ty} (hk:k.key=true) {o1:Op1} {v:Value} {q:k.den×List Nat} (ho:qbN (sit C σ a.tmps w own) o1 v) (he:(toVal k o1).run (qi σ)=some q):v=keyV k q.1:=
 (qcH h ho he).keyV hk
theorem qmW (hE:qbA E C.P) (h:qR C σ a.tmps w own) {t:Nat} {r:Option Operand} (hop:o.op= .makeMap t r) {f:Eff}
  (he:(qdv E p o).run (qi σ)=some f) (hd:∀u∈f.upd,u.s<σ.length):qcW C o a w (qf σ f.upd):=by
 unfold qdv at he
 rw [hop] at he
 simp only at he
 split at he
 case isFalse=>cases he
 rename_i hr
 cases r with
 |some _=>cases hr
 |none=>
  unfold qpc at he
  split at he
  ·rename_i k v hty
   have:=qD he
   subst this
   obtain ⟨kn,vn,d,i,z,h1,h2,h3,_⟩:=hE.map t k v hty
   refine qy (v:= .map (some w.heap.size)) (w':=w.alloc (.map #[] 0)) ?_ (h.dst (bs:=[w.heap.size]) (qcA.alloc _ w _) hd (fun b hb=> ?_) (by simp) ?_ (fun m hm=>by cases hm))
   ·unfold execOp
    rw [hop]
    simp [Instr.makeMap]
   ·simp at hb
    subst hb
    exact ⟨Nat.le_refl _,by simp⟩
   ·refine ⟨w.heap.size,#[],rfl,rfl,?_,rfl,qf2 h3,fun i e p hi _=>by simp at hi⟩
    exact (MapKept.heap_alloc w _).1
  ·cases he
theorem qiI.look {F:Nat→Prop} {k t:Ty} {xs:List (k.den×t.den)} {v:Value} {bs:List Nat} (h:qiI w F k t xs v bs) {d:TypeDesc} (hd:qi8 k d=true) (x:k.den):
  ∃b es,v= .map (some b)∧bs=[b]∧w.heap[b]? =some (.map es es.size)∧es.size=xs.length∧
   ((qsP xs x=false∧(∀dd,qij xs x dd=dd)∧Instr.findNow d (keyV k x) es.toList 0=some none)∨
    ∃e q,qsP xs x=true∧(∀dd,qij xs x dd=q.2)∧es[qgk xs x]? =some e∧xs[qgk xs x]? =some q∧e.key=keyV k x∧qau w F t q.2 e.val∧Instr.findNow d (keyV k x) es.toList 0=some (some (qgk xs x,e.val))):=by
 obtain ⟨b,es,h1,h2,h3,h4,h5,h6⟩:=h
 refine ⟨b,es,h1,h2,h3,h4,?_⟩
 rcases qo6 hd x xs es.toList 0 (by simpa using h4) (fun j e p he hp=>(h6 j e p (by simpa using he) hp).1) with ⟨g1,e,g2,g3⟩|⟨g1,g2⟩
 ·right
  have hq:=List.getElem?_eq_getElem g1
  have he:es[qgk xs x]? =some e:=by simpa using g2
  refine ⟨e,xs[qgk xs x],by rw [qjN]; simp [g1],fun dd=>by rw [qid,hq]; rfl,he,hq,?_,(h6 _ e _ he hq).2.2,by simpa using g3⟩
  rw [(h6 _ e _ he hq).1]
  congr 1
  exact qs4 g1
 ·left
  refine ⟨by rw [qjN]; simp [g1],fun dd=> ?_,g2⟩
  rw [qid,List.getElem?_eq_none (by omega)]
  rfl
theorem qn3 (hE:qbA E C.P) (h:qR C σ a.tmps w own) (hp:qbK (sit C σ a.tmps w own) p) {t:Nat} {m k:Operand} {ok:Bool} (hop:o.op= .lookup t m k ok) {f:Eff}
  (he:(qdv E p o).run (qi σ)=some f) (hd:∀u∈f.upd,u.s<σ.length):qcW C o a w (qf σ f.upd):=by
 unfold qdv at he
 rw [hop] at he
 simp only at he
 obtain ⟨m1,g1,he⟩:=Q.bind_some he
 obtain ⟨k1,g2,he⟩:=Q.bind_some he
 unfold qqn at he
 obtain ⟨M,g3,he⟩:=Q.bind_some he
 obtain ⟨q,g4,he⟩:=Q.bind_some he
 split at he
 case isFalse=>cases he
 rename_i hty
 obtain ⟨kn,vn,d,i,z,e1,e2,e3,e4,e5,e6⟩:=hE.map t M.k M.v hty
 obtain ⟨hlt,hgs,htm,hrep⟩:=qns h hp g1 g3
 have hkv:=qsT h (qf2 e3) (qax h hp g2) g4
 obtain ⟨b,es,r1,r2,r3,r4,r5⟩:=hrep.look e3 q.1
 obtain ⟨v,hv,hrun⟩:∃v,qau w (C.free w own) M.v (qij M.xs q.1 M.v.dflt) v∧∀cok,(Instr.lookup t (.map (some b)) (keyV M.k q.1) cok).run C.P w= .ok (if cok then .tuple #[v,.bool (qsP M.xs q.1)] else v) w:=by
  rcases r5 with ⟨s1,s2,s3⟩|⟨e,qq,s1,s2,s3,s4,s5,s6,s7⟩
  ·refine ⟨z,by rw [s2]; exact e6 _ _,fun cok=> ?_⟩
   simp [Instr.lookup,run_underlying e1,MapKept.run_getObj_map r3,MapKept.run_checkKey e2 (qdy e3 q.1),MapKept.run_findKey e2 s3,zeroValue,typeInfo,e4,e5,s1]
  ·refine ⟨e.val,by rw [s2]; exact s6,fun cok=> ?_⟩
   simp [Instr.lookup,run_underlying e1,MapKept.run_getObj_map r3,MapKept.run_checkKey e2 (qdy e3 q.1),MapKept.run_findKey e2 s7,s1]
 have hex:(execOp a.eval o).run C.P w= .ok (.value (if ok then .tuple #[v,.bool (qsP M.xs q.1)] else v)) w:=by
  unfold execOp
  rw [hop]
  simp only [Sem.run_bind,r1,hkv,hrun ok,Result.andThen_ok]
  rfl
 split at he
 ·have:=qD he
  subst this
  exact qaL h hex hd hv
 ·have:=qD he
  subst this
  refine qy hex (h.dst0 hd ?_ (fun m hm=>by cases hm))
  exact ⟨[v,.bool (qsP M.xs q.1)],rfl,v,_,[],[],rfl,rfl,⟨rfl,hv⟩,_,[],[],[],rfl,rfl,⟨rfl,qau.ofBool _ _ _⟩,rfl,rfl⟩
theorem qR.mapTurn (h:qR C σ tm w own) {s b:Nat} {k t:Ty} {xs ys:List (k.den×t.den)} {es es':Array MapEntry} (hs:s<σ.length) (hgs:(qi σ s).2= .mp k t xs) (hown:own s=[b]) (htm:tm.getD s undef= .map (some b))
  (hb:w.heap[b]? =some (.map es es.size)) (hk:k.key=true) (hsz:es'.size=ys.length)
  (hx:∀(i:Nat) (e:MapEntry) (p:k.den×t.den),es'[i]? =some e→ys[i]? =some p→e.key=keyV k p.1∧e.born=i∧qau w (C.free w own) t p.2 e.val):
  qR C (qf σ [⟨s,false,.mp k t ys⟩]) tm { w with heap:=w.heap.setIfInBounds b (.map es' es'.size) } own:=by
 obtain ⟨hh1,hh2⟩:=MapKept.heap_set (o':= .map es' es'.size) hb
 have hsz':({ w with heap:=w.heap.setIfInBounds b (.map es' es'.size) } :World).heap.size=w.heap.size:=by simp
 have eS:qi (qf σ [⟨s,false,.mp k t ys⟩]) s=((qi σ s).1,.mp k t ys):=qG σ ⟨s,false,_⟩ hs
 have eN:∀x,x≠s→qi (qf σ [⟨s,false,.mp k t ys⟩]) x=qi σ x:=fun x hx=>qp σ ⟨s,false,_⟩ hx
 have hfree:∀x,C.free w own x→x<w.heap.size→C.free { w with heap:=w.heap.setIfInBounds b (.map es' es'.size) } own x∧x<({ w with heap:=w.heap.setIfInBounds b (.map es' es'.size) } :World).heap.size∧({ w with heap:=w.heap.setIfInBounds b (.map es' es'.size) } :World).heap[x]? =w.heap[x]? :=fun x hx hlt=>
  ⟨⟨hx.1,by rw [hsz']; exact hlt,hx.2.2⟩,by rw [hsz']; exact hlt,hh2 x fun e=>hx.2.2 s (by rw [hown,e]; simp)⟩
 refine h.update (fun x=>x=s) (qE _ _) rfl (fun x hx=>⟨eN x hx,rfl,rfl⟩) (fun x hx=> ?_) ?_ (fun x hx=>hx ▸ hs) (fun x hx=> ?_) (fun x x' b' hx hx' _ _=>hx.trans hx'.symm) (fun x hx=> ?_) (fun x hx m hm=> ?_)
 ·subst hx
  right
  refine ⟨by rw [eS],rfl,fun b' _ hp=> ?_⟩
  rw [htm] at hp
  cases hp
 ·refine ⟨rfl,rfl,rfl,Nat.le_of_eq hsz'.symm,fun x hlt hn=>hh2 x fun e=>hn ⟨s,rfl,by rw [hown,e]; simp⟩⟩
 ·subst hx
  exact ⟨fun b' hb'=> .inr ⟨x,rfl,hb'⟩,h.nodup x⟩
 ·subst hx
  rw [eS]
  refine ⟨b,es',htm,hown,hh1,hsz,hk,fun i e p hi hpp=> ?_⟩
  obtain ⟨q1,q2,q3⟩:=hx i e p hi hpp
  exact ⟨q1,q2,q3.1.keep hfree,q3.2⟩
 ·subst hx
  rw [eS] at hm
  cases hm
theorem qpm {es:Array MapEntry} {i j:Nat} {g:MapEntry→MapEntry} {e:MapEntry} (h:(es.modify i g)[j]? =some e):∃e0,es[j]? =some e0∧e=if i=j then g e0 else e0:=by
 rw [Array.getElem?_modify] at h
 split at h
 ·rename_i hij
  cases he:es[j]? with
  |none=>rw [he] at h; cases h
  |some e0=>
   rw [he] at h
   injection h with h
   exact ⟨e0,rfl,by rw [if_pos hij]; exact h.symm⟩
 ·rename_i hij
  exact ⟨e,h,by rw [if_neg hij]⟩
theorem qk8 (hE:qbA E C.P) (h:qR C σ a.tmps w own) (hp:qbK (sit C σ a.tmps w own) p) {t:Nat} {m k x:Operand} (hop:o.op= .mapUpdate t m k x) {f:Eff}
  (he:(qdv E p o).run (qi σ)=some f) (hd:∀u∈f.upd,u.s<σ.length):qcW C o a w (qf σ f.upd):=by
 unfold qdv at he
 rw [hop] at he
 simp only at he
 split at he
 ·cases he
 rename_i hdst
 obtain ⟨m1,g1,he⟩:=Q.bind_some he
 obtain ⟨k1,g2,he⟩:=Q.bind_some he
 obtain ⟨x1,g2',he⟩:=Q.bind_some he
 unfold qlN at he
 obtain ⟨M,g3,he⟩:=Q.bind_some he
 obtain ⟨q,g4,he⟩:=Q.bind_some he
 obtain ⟨r,g5,he⟩:=Q.bind_some he
 split at he
 case isFalse=>cases he
 rename_i hcond
 obtain ⟨hty,hns⟩:=hcond
 obtain ⟨fz,g6,he⟩:=Q.bind_some he
 have:=qD he
 subst this
 obtain ⟨kn,vn,d,i,z,e1,e2,e3,e4,e5,e6⟩:=hE.map t M.k M.v hty
 obtain ⟨hlt,hgs,htm,hrep⟩:=qns h hp g1 g3
 have hkv:=qsT h (qf2 e3) (qax h hp g2) g4
 have hxv:=qcH h (qax h hp g2') g5
 obtain ⟨σ1,own1,hst,hσ1,hl1,hown1,hgs1,hrx,hfr⟩:∃σ1 own1,qR C σ1 a.tmps w own1∧σ1=qf σ fz∧σ1.length=σ.length∧own1 M.s=own M.s∧(qi σ1 M.s).2= .mp M.k M.v M.xs∧qau w (C.free w own1) M.v r.1 (a.eval x)∧(∀b,C.free w own b→C.free w own1 b):=by
  by_cases hf:M.v.flat=true
  ·rw [if_pos hf] at g6
   have:=Q.ret_some g6
   subst this
   exact ⟨σ,own,h,rfl,rfl,rfl,hgs,hxv.flat hf,fun _ hb=>hb⟩
  ·rw [if_neg hf] at g6
   obtain ⟨own',q1,q2,q3,q4⟩:=qcG r.2 h g6
   exact ⟨qf σ fz,own',q1,rfl,qE _ _,(q3 _ hns).1,by rw [(q3 _ hns).2]; exact hgs,hxv.mono fun b hb _=>q4 b hb,fun b hb=>q4 b (.inl hb)⟩
 rw [qbB,←hσ1]
 have hrep1:qiI w (C.free w own1) M.k M.v M.xs (a.eval m) (own1 M.s):=by
  have:=hst.at_ M.s
  rw [hgs1] at this
  have h2:a.tmps.getD M.s undef=a.eval m:=htm
  rw [h2] at this
  exact this
 obtain ⟨b,es,r1,r2,r3,r4,r5⟩:=hrep1.look e3 q.1
 obtain ⟨b',es',r1',r2',r3',r4',r5',r6'⟩:=hrep1
 have hbb:b'=b:=by rw [r1] at r1'; injection r1' with r1'; injection r1' with r1'; exact r1'.symm
 subst hbb
 have hee:es'=es:=by rw [r3] at r3'; injection r3' with r3'; injection r3' with r3' _; exact r3'.symm
 subst hee
 have htm':a.tmps.getD M.s undef= .map (some b'):=by rw [htm]; exact r1
 have put0:∀w2,qR C (qf σ1 [⟨M.s,false,.mp M.k M.v (qmK M.xs q.1 r.1)⟩]) a.tmps w2 own1→∃own',qR C (qf σ1 [⟨M.s,false,.mp M.k M.v (qmK M.xs q.1 r.1)⟩]) (a.put o.dst undef).tmps w2 own':=fun w2 hh=>by
  have:o.dst=none:=by cases ho:o.dst <;> simp [ho] at hdst⊢
  rw [this]
  exact ⟨own1,hh⟩
 rcases r5 with ⟨s1,s2,s3⟩|⟨e,qq,s1,s2,s3,s4,s5,s6,s7⟩
 ·have hn:¬qgk M.xs q.1<M.xs.length:=by rw [qjN] at s1; simpa using s1
  have hput:qmK M.xs q.1 r.1=M.xs++[(q.1,r.1)]:=by rw [qiL,if_neg hn]
  refine qfm (w':= { w with heap:=w.heap.setIfInBounds b' (.map (es'.push { key:=keyV M.k q.1,val:=a.eval x,born:=es'.size }) (es'.push { key:=keyV M.k q.1,val:=a.eval x,born:=es'.size }).size) }) ?_ (put0 _ ?_)
  ·unfold execOp
   rw [hop]
   simp [r1,hkv,Instr.mapUpdate,run_underlying e1,MapKept.run_getObj_map r3,MapKept.run_checkKey e2 (qdy e3 q.1),MapKept.run_findKey e2 s3,MapKept.run_setObj_map _ r3]
  ·rw [hput]
   refine hst.mapTurn (by rw [hl1]; exact hlt) hgs1 r2 htm' r3 r5' (by simp [r4]) (fun j ee pp hj hpp=> ?_)
   rw [Array.getElem?_push] at hj
   split at hj
   ·rename_i hjs
    injection hj with hj
    subst hj
    rw [hjs,r4,List.getElem?_append_right (Nat.le_refl _)] at hpp
    simp at hpp
    subst hpp
    exact ⟨rfl,hjs.symm,hrx⟩
   ·rename_i hjs
    have hjl:j<es'.size:=(Array.getElem?_eq_some_iff.1 hj).1
    rw [List.getElem?_append_left (by omega)] at hpp
    exact r6' j ee pp hj hpp
 ·have hn:qgk M.xs q.1<M.xs.length:=by rw [qjN] at s1; simpa using s1
  have hput:qmK M.xs q.1 r.1=M.xs.set (qgk M.xs q.1) (qq.1,r.1):=by rw [qiL,if_pos hn,qqs,s4]
  refine qfm (w':= { w with heap:=w.heap.setIfInBounds b' (.map (es'.modify (qgk M.xs q.1) fun e=> { e with key:=keyV M.k q.1,val:=a.eval x }) (es'.modify (qgk M.xs q.1) fun e=> { e with key:=keyV M.k q.1,val:=a.eval x }).size) }) ?_ (put0 _ ?_)
  ·unfold execOp
   rw [hop]
   simp [r1,hkv,Instr.mapUpdate,run_underlying e1,MapKept.run_getObj_map r3,MapKept.run_checkKey e2 (qdy e3 q.1),MapKept.run_findKey e2 s7,s3,s5,MapKept.run_keyThatStays (qdy e3 q.1),MapKept.run_setObj_map _ r3]
  ·rw [hput]
   refine hst.mapTurn (by rw [hl1]; exact hlt) hgs1 r2 htm' r3 r5' (by simp [r4]) (fun j ee pp hj hpp=> ?_)
   obtain ⟨e0,hj2,rfl⟩:=qpm hj
   by_cases hij:qgk M.xs q.1=j
   ·subst hij
    rw [List.getElem?_set_self hn] at hpp
    injection hpp with hpp
    subst hpp
    rw [s3] at hj2
    injection hj2 with hj2
    subst hj2
    rw [if_pos rfl]
    obtain ⟨t1,t2,t3⟩:=r6' _ _ _ s3 s4
    exact ⟨by rw [←t1]; exact s5.symm,t2,hrx⟩
   ·rw [if_neg hij]
    rw [List.getElem?_set_ne hij] at hpp
    exact r6' j e0 pp hj2 hpp
end
end Go.Vi
namespace Go.Vi
open Go.RowKit
structure qnl (E:Env) (C:Ctx) (pin:List Nat):Prop where
 fns:qfk E C.P
 pins:∀k∈E.pins,∃b,C.pn k=some b
 sub:∀k b,C.pn k=some b→k∈pin
def qrF (C:Ctx) (tm:Array Value):Prop:=∀k b,C.pn k=some b→tm.getD k undef=ptr b 0
section
variable {C:Ctx} {E:Env} {σ:St} {tm:Array Value} {a:Act} {w w':World} {own:Nat→List Nat} {o:Oper} {p:qgw} [Tabbed E C]
theorem qeV {a b:List Nat} (h:apart a b=true):∀s∈a,s∉b:=by
 intro s hs hb
 have:=List.all_eq_true.1 h s hs
 simp at this
 exact this hb
theorem qck.turn {σ':St} {own':Nat→List Nat} (hl:σ'.length=σ.length): {ps:List PM} → {as:List Value} → {ss i inn:List Nat} →(∀s∈ss,own' s=own s)→qck σ tm own ps as ss i inn→qck σ' tm own' ps as ss i inn
 |[],_,_,_,_,_,h=>h
 | .io _::ps,_,_,_,_,hs,⟨s,r,b,i2,n1,n2,h1,h2,h3,h4,h5,h6,h7⟩=>by
  subst h1
  exact ⟨s,r,b,i2,n1,n2,rfl,h2,h3,by rw [hs s List.mem_cons_self]; exact h4,h5,by rw [hl]; exact h6,h7.turn hl fun s' hs'=>hs s' (List.mem_cons_of_mem _ hs')⟩
 | .iob _::ps,_,_,_,_,hs,⟨s,r,b,i2,n1,n2,m,h1,h2,h3,h4,h5,h6,h7⟩=>by
  subst h1
  exact ⟨s,r,b,i2,n1,n2,m,rfl,h2,h3,by rw [hs s List.mem_cons_self]; exact h4,h5,by rw [hl]; exact h6,h7.turn hl fun s' hs'=>hs s' (List.mem_cons_of_mem _ hs')⟩
 | .ior _ _::ps,_,_,_,_,hs,⟨s,r,i1,i2,h1,h2,h3,h4,h5,h6,h7⟩=>by
  subst h1
  exact ⟨s,r,i1,i2,rfl,h2,by rw [hs s List.mem_cons_self]; exact h3,h4,h5,by rw [hl]; exact h6,h7.turn hl fun s' hs'=>hs s' (List.mem_cons_of_mem _ hs')⟩
 | .val _::ps,_,_,_,_,hs,h=>qck.turn (ps:=ps) hl hs h
 | .own _ _::ps,_,_,_,_,hs,h=>qck.turn (ps:=ps) hl hs h
 | .fn _ _::ps,_,_,_,_,hs,h=>qck.turn (ps:=ps) hl hs h
 | .nil _ _::ps,_,_,_,_,hs,h=>qck.turn (ps:=ps) hl hs h
 | .rd _::ps,_,_,_,_,hs,h=>qck.turn (ps:=ps) hl hs h
theorem qkB:(ts:List Ty)→(as:List Value)→qck σ tm own (valPs ts) as [] [] []
 |[],_=>⟨rfl,rfl,rfl⟩
 |_::r,as=>qkB r as.tail
theorem qsK (h:qR C σ a.tmps w own) (hpt:qrG (sit C σ a.tmps w own)) {D:qg} {fn:Nat} (hD:D.okT C.P E.tabs fn) (hFn:qfk E C.P) {os:List Op1} {vs:List Value} (ho:qki (sit C σ a.tmps w own) os vs) (hlt:∀o1∈os,∀s,o1.s=some s→o1.a≠ .undef→s<σ.length)
  {f:Eff} (he:(qtf E o D os).run (qi σ)=some f) (hd:∀u∈f.upd,u.s<σ.length) (hc:qc0 f.chk)
  (hr:(execOp a.eval o).run C.P w= .ok (.enter fn vs.toArray) w):qcW C o a w (qf σ f.upd):=by
 unfold qtf at he
 obtain ⟨A,h1,he⟩:=Q.bind_some he
 split at he
 case isFalse=>cases he
 rename_i hcond
 simp only [Bool.and_eq_true] at hcond
 obtain ⟨⟨c1,c2⟩,c3⟩:=hcond
 obtain ⟨fz,h2,he⟩:=Q.bind_some he
 have:=Q.ret_some he
 subst this
 have hsem:∃y,D.sem A.x=some y:=by
  have:=hc _ (List.mem_singleton.2 rfl)
  exact Option.isSome_iff_exists.1 (by rw [qfg] at this; exact this)
 obtain ⟨y,hy⟩:=hsem
 simp only [hy,qjV,Option.getD_some] at hd⊢
 obtain ⟨g,i,inn,k1,⟨k2,k3⟩,k4,k5⟩:=qcT hFn h hpt D.ps ho hlt h1
 have hdst:∀d,o.dst=some d→d∉A.gone++A.ios:=fun d hd=>qeV c3 d (by simp [hd])
 have hnd:=qdG c1
 have hap:=qeV c2
 by_cases hfl:(RMs.flat D.rs&&PMs.ioFlat D.ps)=true
 ·rw [if_pos hfl] at h2
  have:=Q.ret_some h2
  subst this
  simp only [Bool.and_eq_true] at hfl
  refine qkh h (fun hpre hgi=>hD.2 w _ A.x y vs g i (h.tabsE.keep fun b hb hlt=>⟨.inl (.inl hb),hlt,rfl⟩) k1 hpre hgi hy) k2 k3 k4 k5 (fun b hb=> ?_) (.inl hfl) hnd hdst (fun u hu=>hd u (List.mem_append_right _ (List.mem_append_right _ hu))) hr
  rcases hb with (hb|⟨s,hs,hb,_⟩)|hb
  ·exact .inl hb
  ·exact .inr (.inr ⟨s,hap s hs,hb⟩)
  ·exact .inr (.inl hb)
 ·rw [if_neg hfl] at h2
  obtain ⟨own',q1,q2,q3,q4⟩:=qcG A.ow h h2
  have same:∀s∈A.gone++A.ios,own' s=own s:=fun s hs=>(q3 s fun hm=>hap s hm hs).1
  rw [qbB]
  have k1':qaj C.P w (fun b=>C.free w own' b∨b∈inn) D.ps A.x vs g i:=k1.mono (fun b hb=>hb.imp (q4 b) id) D.ps
  refine qkh q1 (F:=fun b=>C.free w own' b∨b∈inn) (fun hpre hgi=>hD.2 w _ A.x y vs g i (q1.tabsE.keep fun b hb hlt=>⟨.inl hb,hlt,rfl⟩) k1' hpre hgi hy) (fun b hb=> ?_) k3 (fun s hs=>by rw [qE]; exact k4 s hs) (k5.turn (qE _ _) fun s hs=>same s (List.mem_append_right _ hs)) (fun b hb=> ?_) (.inr fun b hb=>hb) hnd hdst (fun u hu=>by rw [qE]; exact hd u (List.mem_append_right _ (List.mem_append_right _ hu))) hr
  ·obtain ⟨s,hs,hb⟩:=k2 b hb
   exact ⟨s,hs,by rw [same s hs]; exact hb⟩
  ·rcases hb with hb|hb
   ·exact .inl hb
   ·exact .inr (.inl hb)
theorem ql4 (h:qR C σ a.tmps w own):∀(xs:List Operand) (ts:List Nat) {os:List Op1},(opds E p xs ts).run (qi σ)=some os→∀o1∈os,∀s,o1.s=some s→o1.a≠ .undef→s<σ.length
 |[],_,os,he=>by
  have:=Q.ret_some he
  subst this
  intro o1 ho1
  cases ho1
 |x::xs,ts,os,he=>by
  obtain ⟨o1,h1,he⟩:=Q.bind_some he
  obtain ⟨r,h2,he⟩:=Q.bind_some he
  have:=Q.ret_some he
  subst this
  intro o2 ho2
  rcases List.mem_cons.1 ho2 with rfl|ho2
  ·exact qnf h1
  ·exact ql4 h xs ts.tail h2 o2 ho2
theorem qsp (h:qR C σ a.tmps w own) (hpt:qrG (sit C σ a.tmps w own)) (hFn:qfk E C.P) {ts us:List Ty} {φ:denL ts→Option (denL us)} {fv:Value} (hfv:qms C.P w (C.free w own) ts us φ fv) {os:List Op1} {vs:List Value} (ho:qki (sit C σ a.tmps w own) os vs) (hlt:∀o1∈os,∀s,o1.s=some s→o1.a≠ .undef→s<σ.length)
  {f:Eff} (he:(qtp E o ts us φ os).run (qi σ)=some f) (hd:∀u∈f.upd,u.s<σ.length) (hc:qc0 f.chk)
  (hr:∀fn caps,fv= .func (.func fn) #[] caps→(∀as w',(callFunc fn as).run C.P w'= .ok (.enter fn as) w')→(execOp a.eval o).run C.P w= .ok (.enter fn (vs.toArray++caps)) w):qcW C o a w (qf σ f.upd):=by
 unfold qtp at he
 obtain ⟨A,h1,he⟩:=Q.bind_some he
 obtain ⟨fz,h2,he⟩:=Q.bind_some he
 have:=Q.ret_some he
 subst this
 have hsem:∃y,φ (qrU ts A.x)=some y:=by
  have:=hc _ (List.mem_singleton.2 rfl)
  exact Option.isSome_iff_exists.1 (by rw [qfg] at this; exact this)
 obtain ⟨y,hy⟩:=hsem
 simp only [hy,qjV,Option.getD_some] at hd⊢
 obtain ⟨g,i,inn,k1,⟨k2,k3⟩,k4,k5⟩:=qcT hFn h hpt (valPs ts) ho hlt h1
 obtain ⟨e1,e2,e3⟩:=qkc ts h1
 obtain ⟨k6,rfl,rfl⟩:=qhM ts k1
 obtain ⟨fn,caps,hfv1,hfv2,hfv3⟩:=hfv
 have hio:PMs.ioFlat (valPs ts)=true:=qjq ts
 have hups:qdU (valPs ts) (PMs.ioDflt (valPs ts)) []=[]:=qke ts _
 have hinn:inn=[]:=(qjt ts k5).2.2
 subst hinn
 let D:qg:=⟨valPs ts,valRs us,fun _=>none⟩
 have fin:∀ {σ2:St} {own2:Nat→List Nat} {F:Nat→Prop},qR C σ2 a.tmps w own2→(∀b,C.free w own b→F b)→qdq w F ts (qrU ts A.x) vs→(∀b,F b→C.free w own2 b∨b∈[]∨(∃s,s∉[]++[]∧b∈own2 s))→
   ((RMs.flat (valRs us)=true∧PMs.ioFlat (valPs ts)=true)∨∀b,F b→C.free w own2 b∨b∈[])→(∀u∈qbG o (qhH (valRs us) (qrH us y)),u.s<σ2.length)→
   qcW C o a w (qf σ2 (qbG o (qhH (valRs us) (qrH us y)))):=by
  intro σ2 own2 F hst hfr hval hF1 hF2 hd2
  have:=qkh (D:=D) (f:=fn) (y:=(qrH us y,PMs.ioDflt (valPs ts))) (as:=vs.toArray++caps) (gone:=[]) (ios:=[]) (g:=[]) (i:=[]) (inn:=[]) (al:=vs) (F:=F) hst (fun _ _=> ?_) (fun b hb=>by cases hb) (fun _=>List.nodup_nil) (fun s hs=>by cases hs) (qkB ts vs) hF1 hF2 List.nodup_nil (fun d _ hm=>by cases hm) hd2 (hr fn caps hfv1 hfv2)
  ·have e:([]:List Nat).map (fun s=>(⟨s,true,.undef⟩:U))++qdU D.ps (PMs.ioDflt (valPs ts)) []++qbG o (qhH D.rs (qrH us y))=qbG o (qhH (valRs us) (qrH us y)):=by
    show qdU (valPs ts) (PMs.ioDflt (valPs ts)) []++_=_
    rw [hups]; rfl
   simp only at this
   rw [e] at this
   exact this
  ·refine Calls.mono (hfv3 w F (qrU ts A.x) y vs (fun b hb hlt=>⟨hfr b hb,hlt,rfl⟩) hval hy) ?_
   rintro e w' ⟨rs,rfl,hvs,hk⟩
   have m1:qaJ w' (qja w F [] [] ([]++[])) (qcN D.rs (qrH us y)) rs []:=qi0 us (hvs.mono us fun b hb=>⟨hb.elim .inl fun h=> .inr (.inr h),by simp,by simp⟩)
   have m2:qcD w' (qja w F [] [] ([]++[])) D.ps (PMs.ioDflt (valPs ts)) vs [] []:=qg2 ts
   have m0:∀b∈([]:List Nat),(b∈([]:List Nat)∨w.heap.size≤b)∧b<w'.heap.size:=fun b hb=>by cases hb
   exact ⟨_,rfl,rs,[],[],rfl,List.nodup_nil,m0,m1,m2,hk.mono fun _ h=>h.elim⟩
 by_cases hfl:RMs.flat (valRs us)=true
 ·rw [if_pos hfl] at h2
  have:=Q.ret_some h2
  subst this
  refine fin h (fun b hb=> .inl (.inl hb)) k6 (fun b hb=> ?_) (.inl ⟨hfl,hio⟩) hd
  rcases hb with (hb|⟨s,hs,hb,_⟩)|hb
  ·exact .inl hb
  ·exact .inr (.inr ⟨s,by simp,hb⟩)
  ·cases hb
 ·rw [if_neg hfl] at h2
  obtain ⟨own',q1,q2,q3,q4⟩:=qcG A.ow h h2
  rw [qbB]
  refine fin (F:=fun b=>C.free w own' b∨b∈([]:List Nat)) q1 (fun b hb=> .inl (q4 b (.inl hb))) (k6.mono ts fun b hb=>hb.imp (q4 b) id) (fun b hb=>hb.elim .inl fun h=>by cases h) (.inr fun b hb=>hb) (fun u hu=>by rw [qE]; exact hd u (List.mem_append_right _ hu))
theorem qqD (hE:qbA E C.P) (hF:qfk E C.P) (h:qR C σ a.tmps w own) (hp:qbK (sit C σ a.tmps w own) p) {c:Call} (hop:o.op= .call c) {f:Eff}
  (he:(qdv E p o).run (qi σ)=some f) (hd:∀u∈f.upd,u.s<σ.length) (hc:qc0 f.chk):qcW C o a w (qf σ f.upd):=by
 unfold qdv at he
 rw [hop] at he
 simp only at he
 split at he
 ·rename_i b hb
  obtain ⟨os,h1,he⟩:=Q.bind_some he
  refine qou hE h (qmg h hp _ _ h1) (ql4 h _ _ h1) he hd hc ⟨o.type,(c.args.map fun| .const _=>true|_=>false),?_⟩
  unfold execOp
  rw [hop]
  simp only [resolve,hb,Sem.run_bind,Sem.run_pure,Result.andThen_ok,invoke]
  rw [show c.args.map a.eval=(c.args.toList.map a.eval).toArray from by apply Array.ext'; simp,show c.argTypes.toList.toArray=c.argTypes from by simp]
  rfl
 ·rename_i x hx
  split at he
  ·rename_i fn
   split at he
   ·rename_i D hD
    obtain ⟨os,h1,he⟩:=Q.bind_some he
    refine qsK h hp.1 (hF fn D hD) hF (qmg h hp _ _ h1) (ql4 h _ _ h1) he hd hc ?_
    unfold execOp
    rw [hop]
    have e1:a.eval (.func fn)= .func (.func fn) #[] #[]:=rfl
    simp only [resolve,hx,e1,Deferred.ofValue,Sem.run_bind,Sem.run_pure,Result.andThen_ok,invoke]
    rw [show c.args.map a.eval=(c.args.toList.map a.eval).toArray from by apply Array.ext'; simp]
    simpa using (hF fn D hD).1 (c.args.toList.map a.eval).toArray w
   ·cases he
  ·rename_i s
   rw [Q.run_get] at he
   have hop1:=qax h hp (E:=E) (tid:=0) (x:= .tmp s) (o1:=⟨some s,(qi σ s).1,qbp p (qi σ s).2⟩) rfl
   split at he
   case h_2=>cases he
   rename_i ts us φ hst
   obtain ⟨os,h1,he⟩:=Q.bind_some he
   have hfv:qms C.P w (C.free w own) ts us φ (a.eval (.tmp s)):=by
    have:=hop1.unowned (by rw [hst]; rfl)
    rw [hst] at this
    exact this.2
   refine qsp h hp.1 hF hfv (qmg h hp _ _ h1) (ql4 h _ _ h1) he hd hc fun fn caps hfe henter=> ?_
   unfold execOp
   rw [hop]
   simp only [resolve,hx,hfe,Deferred.ofValue,Sem.run_bind,Sem.run_pure,Result.andThen_ok,invoke]
   rw [show c.args.map a.eval=(c.args.toList.map a.eval).toArray from by apply Array.ext'; simp]
   simpa using henter ((c.args.toList.map a.eval).toArray++caps) w
  ·cases he
 ·cases he
theorem qp8 (hE:qbA E C.P) (hF:qfk E C.P) (hpn:∀k∈E.pins,∃b,C.pn k=some b) (h:qR C σ a.tmps w own) (hp:qbK (sit C σ a.tmps w own) p) {f:Eff}
  (he:(qdv E p o).run (qi σ)=some f) (hd:∀u∈f.upd,u.s<σ.length) (hc:qc0 f.chk):qcW C o a w (qf σ f.upd):=by
 cases hop:o.op with
 |move x=>exact qm0 hpn h hp (as:=false) hop he hd hc
 |assign x=>exact qm0 hpn h hp (as:=true) hop he hd hc
 |pick c x y=>exact qql h hp hop he hd hc
 |alloc t=>exact qpQ hE h hp hop he hd hc
 |box t x=>exact qr4 hE h hp hop he hd hc
 |build t ps=>exact qpN hE h hp hop he hd hc
 |buildSlice t n ps=>exact qj7 hE h hp hop he hd hc
 |load t x=>exact qqU hE h hp hop he hd hc
 |store t x y=>exact qpo hE h hp hop he hd hc
 |nilCheck x=>exact qmq h hp hop he hd hc
 |binOp op t x y b=>exact qpx hE h hp hop he hd hc
 |unOp op t x=>exact qrl h hp hop he hd hc
 |convert s d x=>exact qm7 hE h hp hop he hd hc
 |slice t x lo hi mx=>
  cases mx with
  |none=>exact qpZ hE h hp hop he hd hc
  |some m=>unfold qdv at he; rw [hop] at he; cases he
 |fieldAddr t x f=>exact qlf hE h hp hop he hd hc
 |field t x f=>exact qpK hE h hp hop he hd hc
 |indexAddr t x ix=>exact qla hE h hp hop he hd hc
 |index t x ix=>exact qpy hE h hp hop he hd hc
 |extract x i=>exact qmZ h hp hop he hd hc
 |makeSlice t x y=>exact qli hE h hp hop he hd hc
 |call c=>exact qqD hE hF h hp hop he hd hc
 |makeFunc fn first caps=>exact qlZ hF h hop he hd
 |makeMap t r=>exact qmW hE h hop he hd
 |lookup t m k ok=>exact qn3 hE h hp hop he hd
 |mapUpdate t m k x=>exact qk8 hE h hp hop he hd
 |_=>unfold qdv at he; rw [hop] at he; cases he
end
end Go.Vi
namespace Go.Vi
open Go.RowKit
section
variable {C:Ctx} {E:Env} {σ:St} {tm:Array Value} {a:Act} {w w':World} {own:Nat→List Nat} {o:Oper} {p:qgw} [Tabbed E C]
theorem qgR (h:qR C σ tm w own):∀(n s:Nat) (want:Bool) {p:qgw},(qdc n s want).run (qi σ)=some p→
  (∃b r,p=(s,(qi σ s).1,want,b)::r)∧(tm.getD s undef= .bool want→(∀q∈p,(sit C σ tm w own).ver q.1=q.2.1∧(sit C σ tm w own).tm q.1= .bool q.2.2.1∧q.2.2.2=q.2.2.1)∧qk5 p=true)
 |0,_,_,_,he=>by cases he
 |n+1,s,want,p,he=>by
  simp only [qdc,Q.run_get] at he
  have hat:=h.at_ s
  split at he
  ·rename_i b hb
   have:=Q.ret_some he
   subst this
   rw [hb] at hat
   have hv:tm.getD s undef= .bool b:=qau.bool hat.2
   refine ⟨⟨b,[],rfl⟩,fun ht=> ?_⟩
   rw [hv] at ht
   injection ht with ht
   subst ht
   refine ⟨fun q hq=> ?_,by cases b <;> rfl⟩
   simp at hq
   subst hq
   exact ⟨rfl,hv,rfl⟩
  ·rename_i s2 v2 w2 b hb
   obtain ⟨r,h1,he⟩:=Q.bind_some he
   obtain ⟨⟨b3,r3,hr⟩,hp⟩:=qgR h n s2 w2 h1
   rw [hr] at he
   simp only at he
   split at he
   ·rename_i hv
    have:=Q.ret_some he
    subst this
    rw [hb] at hat
    obtain ⟨g1,g2⟩:=hat.2 hv
    refine ⟨⟨b,_,rfl⟩,fun ht=> ?_⟩
    have hw2:tm.getD s2 undef= .bool w2:=by
     by_cases hc:tm.getD s2 undef= .bool w2
     ·exact hc
     ·have:=g2 hc
      rw [ht] at this
      cases this
    obtain ⟨k1,k2⟩:=hp hw2
    have hv2:tm.getD s undef= .bool b:=qau.bool (g1 hw2).2
    rw [hv2] at ht
    injection ht with ht
    subst ht
    rw [hr] at k1 k2
    refine ⟨fun q hq=> ?_,?_⟩
    ·rcases List.mem_cons.1 hq with rfl|hq
     ·exact ⟨rfl,hv2,rfl⟩
     ·exact k1 q hq
    ·have e:lit b b=true:=by cases b <;> rfl
     simp only [qk5,e,Bool.true_and]
     simpa [qk5] using k2
   ·cases he
  ·cases he
theorem qhx (h:qR C σ tm w own):∀(n s:Nat) (want:Bool) {p:qgw},(qdc n s want).run (qi σ)=some p→qk5 p=true→tm.getD s undef= .bool want
 |0,_,_,_,he,_=>by cases he
 |n+1,s,want,p,he,hc=>by
  simp only [qdc,Q.run_get] at he
  have hat:=h.at_ s
  split at he
  ·rename_i b hb
   have:=Q.ret_some he
   subst this
   rw [hb] at hat
   have hv:tm.getD s undef= .bool b:=qau.bool hat.2
   rw [hv]
   cases want <;> cases b <;> simp_all [qk5,lit]
  ·rename_i s2 v2 w2 b hb
   obtain ⟨r,h1,he⟩:=Q.bind_some he
   obtain ⟨⟨b3,r3,hr⟩,hp⟩:=qgR h n s2 w2 h1
   have ih:=qhx h n s2 w2 h1
   rw [hr] at he ih
   simp only at he
   split at he
   ·rename_i hv
    have:=Q.ret_some he
    subst this
    rw [hb] at hat
    have hc2:lit want b=true∧qk5 ((s2,(qi σ s2).1,w2,b3)::r3)=true:=by simpa [qk5] using hc
    have hv2:tm.getD s undef= .bool b:=qau.bool ((hat.2 hv).1 (ih hc2.2)).2
    rw [hv2]
    cases want <;> cases b <;> simp_all [lit]
   ·cases he
  ·cases he
theorem qgY {σ':St} :∀(n s:Nat) (want:Bool) {p:qgw},(qdc n s want).run (qi σ)=some p→(∀q∈p,qi σ' q.1=qi σ q.1)→(qdc n s want).run (qi σ')=some p
 |0,_,_,_,he,_=>by cases he
 |n+1,s,want,p,he,hq=>by
  simp only [qdc,Q.run_get] at he⊢
  split at he
  ·rename_i b hb
   have:=Q.ret_some he
   subst this
   have e:=hq (s,(qi σ s).1,want,b) (by simp)
   simp only at e
   rw [e,hb]
   rfl
  ·rename_i s2 v2 w2 b hb
   obtain ⟨r,h1,he⟩:=Q.bind_some he
   split at he
   ·rename_i s3 v3 w3 b3 r3
    split at he
    ·rename_i hv
     have:=Q.ret_some he
     subst this
     have e:=hq (s,(qi σ s).1,want,b) (by simp)
     simp only at e
     have ih:=qgY n s2 w2 h1 (fun q hm=>hq q (List.mem_cons_of_mem _ hm))
     rw [e,hb]
     simp only [Q.run_bind,ih,Option.bind_some,if_pos hv]
     rfl
    ·cases he
   ·cases he
  ·cases he
theorem qnx:∀(ms:List (Nat×Nat)) {u:Unit},(qo9 ms).run (qi σ)=some u→∀m∈ms,m.2≤(qi σ m.1).1
 |[],_,_,m,hm=>by cases hm
 |m::r,u,he,m',hm=>by
  simp only [qo9,Q.run_get] at he
  split at he
  ·rename_i hle
   rcases List.mem_cons.1 hm with rfl|hm
   ·exact hle
   ·exact qnx r he m' hm
  ·cases he
theorem qng (s:Nat):∀(us:List U) (σ:St),s<σ.length→(qi (qf σ us) s).1=(qi σ s).1+qjk s us
 |[],_,_=>rfl
 |u::us,σ,hs=>by
  have ih:=qng s us (qI σ u) (by rw [qV]; exact hs)
  show (qi (qf (qI σ u) us) s).1=_
  rw [ih]
  by_cases e:u.s=s
  ·subst e
   rw [qG σ u hs]
   cases hb:u.bump
   ·simp [qjk,hb]
   ·simp [qjk,hb]; omega
  ·rw [qp σ u (fun h=>e h.symm)]
   have e2:(u.s == s)=false:=by simpa using e
   simp [qjk,e2]
theorem qjs:(us:List U)→ {σ:St} → {s:Nat} →s∉us.map (·.s)→qi (qf σ us) s=qi σ s
 |[],_,_,_=>rfl
 |u::us,σ,s,h=>by
  simp only [List.map_cons,List.mem_cons,not_or] at h
  exact (qjs us (σ:=qI σ u) h.2).trans (qp _ _ h.1)
def isPb:AV→Prop
 | .pbox _ _ _=>True
 |_=>False
theorem qdF {us:List U} {d:List Nat} {tm':Array Value} {w':World} {own':Nat→List Nat} (h:qR C σ tm w own) (hk:∀s,s∉d→tm'.getD s undef=tm.getD s undef):
  ∀(l:List Nat) {τ:St} {us':List U},τ.length=σ.length→qR C τ tm' w' own'→(∀x,qi τ x=qi (qf σ us) x∨(isPb (qi σ x).2∧isPb (qi τ x).2))→
  (qeU us d l).run (qi σ)=some us'→(∀u∈us',u.s<σ.length)→qR C (qf τ us') tm' w' own'
 |[],τ,us',hl,hst,hi,he,hd=>by
  have:=Q.ret_some he
  subst this
  exact hst
 |t::r,τ,us',hl,hst,hi,he,hd=>by
  simp only [qeU,Q.run_get] at he
  split at he
  case h_2=>exact qdF h hk r hl hst hi he hd
  rename_i s v off ht
  split at he
  case isFalse=>exact qdF h hk r hl hst hi he hd
  rename_i hcond
  simp only [Bool.and_eq_true,Bool.not_eq_true',bne_iff_ne,ne_eq] at hcond
  obtain ⟨⟨⟨⟨c1,c2⟩,c3⟩,c4⟩,c5⟩:=hcond
  rw [Q.run_get] at he
  split at he
  case h_2=>exact qdF h hk r hl hst hi he hd
  rename_i cc hs
  split at he
  case isFalse=>exact qdF h hk r hl hst hi he hd
  rename_i hv
  obtain ⟨l',h1,he⟩:=Q.bind_some he
  have:=Q.ret_some he
  subst this
  have hsd:s∉d:=by simpa using c3
  have htd:t∉d:=by simpa using c4
  have htl:t<σ.length:=hd _ List.mem_cons_self
  have hsl:s<σ.length:=Classical.byContradiction fun hn=>by
   have:qi σ s=(0,.undef):=by simp only [qi,List.getD_eq_getElem?_getD,List.getElem?_eq_none (Nat.not_lt.1 hn),Option.getD_none]
   rw [this] at hs
   cases hs
  have htu:t∉us.map (·.s):=fun hm=>by
   obtain ⟨u,hu,e⟩:=List.mem_map.1 hm
   have:us.any (fun u=>u.s == t)=true:=List.any_eq_true.2 ⟨u,hu,by simp [e]⟩
   rw [this] at c2
   cases c2
  have hpt:isPb (qi τ t).2:=by
   rcases hi t with e|e
   ·rw [e,qjs us htu,ht]; trivial
   ·exact e.2
  have hown:own' t=[]:=by
   have hr:=hst.rep t (by omega)
   generalize (qi τ t).2=q at hpt hr
   cases q <;> first|exact hpt.elim|exact hr.1
  have hver:(qi τ s).1=(qi σ s).1+qjk s us:=by
   rcases hi s with e|e
   ·rw [e]; exact qng s us σ hsl
   ·rw [hs] at e; exact e.1.elim
  have hptr:∃b,tm'.getD s undef=ptr b 0∧tm'.getD t undef=ptr b off:=by
   have hr:=h.rep t htl
   rw [ht] at hr
   obtain ⟨b,q1,q2⟩:=hr.2 hv
   exact ⟨b,(hk s hsd).trans q1,(hk t htd).trans q2⟩
  have htl':t<τ.length:=by omega
  have eT:qi (qI τ ⟨t,true,.pbox s (v+qjk s us) off⟩) t=((qi τ t).1+1,.pbox s (v+qjk s us) off):=qG τ ⟨t,true,_⟩ htl'
  have eN:∀x,x≠t→qi (qI τ ⟨t,true,.pbox s (v+qjk s us) off⟩) x=qi τ x:=fun x hx=>qp τ ⟨t,true,.pbox s (v+qjk s us) off⟩ hx
  refine qdF h hk r (τ:=qI τ ⟨t,true,.pbox s (v+qjk s us) off⟩) (by rw [qV]; exact hl) ?_ ?_ h1 (fun u hu=>hd u (List.mem_cons_of_mem _ hu))
  ·refine hst.update (fun x=>x=t) (qV _ _) rfl (fun x hx=>⟨eN x hx,rfl,rfl⟩) (fun x hx=> .inl (by subst hx; rw [eT]; exact Nat.lt_succ_self _)) (qcA.refl _ _) (fun x hx=>by subst hx; exact htl') (fun x hx=> ?_) (fun x y b hx hy _ _=>hx.trans hy.symm) (fun x hx=> ?_) (fun x hx m hm=> ?_)
   ·subst hx; rw [hown]; exact ⟨fun b hb=>(by cases hb),List.nodup_nil⟩
   ·subst hx
    rw [eT,hown]
    exact ⟨rfl,fun _=>hptr⟩
   ·subst hx
    rw [eT] at hm
    simp only [AV.mentions,List.mem_singleton] at hm
    subst hm
    rw [eN s c5,hver,hv]
    exact Nat.le_refl _
  ·intro x
   by_cases hx:x=t
   ·subst hx
    exact .inr ⟨by rw [ht]; trivial,by rw [eT]; trivial⟩
   ·rw [eN x hx]; exact hi x
theorem qpp (h:qR C σ a.tmps w own) {f0 f:Eff} (hok:(∀u∈f0.upd,u.s<σ.length)→qc0 f0.chk→qcW C o a w (qf σ f0.upd)) (he:(qkd E o f0).run (qi σ)=some f) (hd:∀u∈f.upd,u.s<σ.length) (hc:qc0 f.chk):qcW C o a w (qf σ f.upd):=by
 unfold qkd at he
 split at he
 ·have:=Q.ret_some he
  subst this
  exact hok hd hc
 split at he
 case isFalse=>
  have:=Q.ret_some he
  subst this
  exact hok hd hc
 obtain ⟨us,h1,he⟩:=Q.bind_some he
 have:=Q.ret_some he
 subst this
 intro K Q1 hK
 refine hok (fun u hu=>hd u (List.mem_append_left _ hu)) hc K Q1 fun a' w' own' hde hst=>hK a' w' own' hde ?_
 rw [qbB]
 exact qdF h (fun s hs=>hde.2 s (fun e=>hs (by simp [e]))) _ (qE _ _) hst (fun x=> .inl rfl) h1 fun u hu=>hd u (List.mem_append_right _ hu)
def GOpOk (C:Ctx) (ops:Array Oper) (o:Oper) (a:Act) (w:World) (τ:St):Prop:=
 ∀(K:Act→World→Prop) (Q:Exit→Act→World→Prop),(∀a' w' own',qsm o a a'→qR C τ a'.tmps w' own'→K a' w')→
  if Region.wanted o (yielded ops a.tmps) then o.wp C.P a w K Q else K (a.put o.dst undef) w
theorem qpC {ops:Array Oper} {j d:Nat} (hj:(ops[j]?).bind (·.dst)=some d) {tm:Array Value} (want:Bool):(yielded ops tm j=some want)↔tm.getD d undef= .bool want:=by
 unfold yielded
 rw [hj]
 simp only [Option.bind_some]
 cases hd:tm[d]? with
 |none=>
  have:tm.getD d undef=undef:=by simp [Array.getD_eq_getD_getElem?,hd]
  rw [this]
  simp [undef]
 |some v=>
  have:tm.getD d undef=v:=by simp [Array.getD_eq_getD_getElem?,hd]
  rw [this]
  cases v <;> simp
theorem qmS (hE:qbA E C.P) {pin:List Nat} (hF:qnl E C pin) (hpc:qrF C a.tmps) (h:qR C σ a.tmps w own) {ops:Array Oper} {g:Option (Nat×Bool)} (hg:qfv ops o=some g) {f:Eff}
  (he:(qfE E g o).run (qi σ)=some f) (hd:∀u∈f.upd,u.s<σ.length) (hc:qc0 f.chk):GOpOk C ops o a w (qf σ f.upd):=by
 intro K Q1 hK
 unfold qfv at hg
 split at hg
 ·rename_i hgd
  injection hg with hg
  subst hg
  have hw:Region.wanted o (yielded ops a.tmps)=true:=by simp [Region.wanted,hgd]
  rw [if_pos hw]
  obtain ⟨f0,h0,he⟩:=Q.bind_some he
  exact qpp h (fun hd hc=>qp8 hE hF.fns hF.pins h ⟨hpc,fun q hq=>by cases hq⟩ h0 hd hc) he hd hc K Q1 hK
 ·rename_i j want hgd
  split at hg
  case h_2=>cases hg
  rename_i s hj
  injection hg with hg
  subst hg
  have hw:Region.wanted o (yielded ops a.tmps)=true↔a.tmps.getD s undef= .bool want:=by
   rw [←qpC hj want]
   simp [Region.wanted,hgd]
  obtain ⟨pth,h1,he⟩:=Q.bind_some he
  obtain ⟨f1,h2,he⟩:=Q.bind_some he
  obtain ⟨⟨b',r',hp⟩,hpo⟩:=qgR h 8 s want h1
  subst hp
  split at he
  case h_2=>cases he
  rename_i d av d' s1 v1 w1 b1 r1 hupd hdst hpath
  simp only [List.cons.injEq,Prod.mk.injEq] at hpath
  obtain ⟨⟨rfl,rfl,rfl,rfl⟩,rfl⟩:=hpath
  split at he
  case isFalse=>cases he
  rename_i hcond
  obtain ⟨hdd,hun,hnu,hpa⟩:=hcond
  subst hdd
  obtain ⟨_,hm0,he⟩:=Q.bind_some he
  have:=Q.ret_some he
  subst this
  have hms:=qnx _ hm0
  have hdl:d<σ.length:=hd _ (List.mem_singleton.2 rfl)
  have hpd:∀q∈(s,(qi σ s).1,want,b')::r',q.1≠d:=fun q hq=>by
   have:=List.all_eq_true.1 hpa q hq
   simpa using this
  have hsd:s≠d:=hpd _ List.mem_cons_self
  by_cases hwant:Region.wanted o (yielded ops a.tmps)=true
  ·rw [if_pos hwant]
   have ht:=hw.1 hwant
   obtain ⟨k1,k2⟩:=hpo ht
   have hc1:qc0 f1.chk:=by
    intro x hx
    have:=hc (!(qk5 ((s,(qi σ s).1,want,b')::r'))||x) (List.mem_map.2 ⟨x,hx,rfl⟩)
    rw [k2] at this
    simpa using this
   have hd1:∀u∈f1.upd,u.s<σ.length:=by rw [hupd]; intro u hu; simp at hu; rw [hu]; exact hdl
   have hok:=qp8 hE hF.fns hF.pins h ⟨hpc,k1⟩ h2 hd1 hc1
   rw [hupd] at hok
   refine hok K Q1 fun a' w' own0 hde hst0=> ?_
   have eA0:qi (qf σ [⟨d,true,av⟩]) d=((qi σ d).1+1,av):=qG σ ⟨d,true,av⟩ hdl
   obtain ⟨own',hst,_,_,_⟩:=hst0.freeze d
   rw [eA0] at hst
   generalize hτ:qI (qf σ [⟨d,true,av⟩]) ⟨d,false,av.freeze⟩=τ at hst
   have hlen:τ.length=σ.length:=by rw [←hτ,qV,qE]
   have eA:qi τ d=((qi σ d).1+1,av.freeze):=by
    rw [←hτ,qG (qf σ [⟨d,true,av⟩]) ⟨d,false,av.freeze⟩ (by rw [qE]; exact hdl),eA0]
    rfl
   have eA1:∀x,x≠d→qi τ x=qi σ x:=fun x hx=>by
    rw [←hτ,qp _ _ hx]
    exact qp σ ⟨d,true,av⟩ hx
   have eB:qi (qf σ [⟨d,true,.grd s (qi σ s).1 want av.freeze⟩]) d=((qi σ d).1+1,.grd s (qi σ s).1 want av.freeze):=qG σ ⟨d,true,_⟩ hdl
   have eN:∀x,x≠d→qi (qf σ [⟨d,true,.grd s (qi σ s).1 want av.freeze⟩]) x=qi τ x:=fun x hx=>by
    rw [eA1 x hx]
    exact qp σ ⟨d,true,.grd s (qi σ s).1 want av.freeze⟩ hx
   have eV:∀x,(qi (qf σ [⟨d,true,.grd s (qi σ s).1 want av.freeze⟩]) x).1=(qi τ x).1:=fun x=>by
    by_cases hx:x=d
    ·subst hx; rw [eA,eB]
    ·rw [eN x hx]
   have hsure:a'.tmps.getD s undef= .bool want:=qhx hst 8 s want (qgY 8 s want h1 fun q hq=>eA1 q.1 (hpd q hq)) k2
   have hat:=hst.at_ d
   rw [eA] at hat
   have hbs:own' d=[]∧qak (sit C τ a'.tmps w' own') av.freeze (a'.tmps.getD d undef) []:=by
    refine ⟨?_,hat.unowned hun⟩
    generalize av.freeze=fv at hun hnu hat
    cases fv with
    |undef=>cases hnu
    |own _ _ _=>cases hun
    |agg _=>cases hun
    |box _=>cases hun
    |tup _=>cases hun
    |mp _ _ _=>cases hun
    |hol _ _ _ _ _ _=>cases hun
    |bhl _ _ _ _=>cases hun
    |_=>exact hat.1
   have kp:∀ {av':AV} {v:Value} {bs:List Nat},qak (sit C τ a'.tmps w' own') av' v bs→qak (sit C (qf σ [⟨d,true,.grd s (qi σ s).1 want av.freeze⟩]) a'.tmps w' own') av' v bs:=fun hr=>
    qak.keep (X:=sit C τ a'.tmps w' own') (X':=sit C (qf σ [⟨d,true,.grd s (qi σ s).1 want av.freeze⟩]) a'.tmps w' own') ⟨rfl,rfl⟩ (fun b hb hlt=>⟨hb,hlt,rfl⟩) (fun _ _ _=>rfl) (fun m _ hv=>⟨(eV m.1).symm.trans hv,rfl,fun b hb _=>⟨hb,rfl⟩⟩) hr
   refine hK a' w' own' hde ⟨by rw [hst.size,hlen,qE],hst.kept,hst.mine,hst.nodup,hst.apart,fun x hx=>hst.outside x (by rw [qE] at hx; rw [hlen]; exact hx),fun x hx=> ?_,fun x m hm=> ?_⟩
   ·by_cases hxd:x=d
    ·subst hxd
     rw [eB,hbs.1]
     exact ⟨rfl,fun _=>⟨fun _=>kp hbs.2,fun hn=>absurd hsure hn⟩⟩
    ·rw [eN x hxd]
     exact kp (hst.rep x (by rw [qE] at hx; rw [hlen]; exact hx))
   ·rw [eV]
    by_cases hxd:x=d
    ·subst hxd
     rw [eB] at hm
     rcases List.mem_cons.1 hm with rfl|hm
     ·rw [eA1 s hsd]
      exact Nat.le_refl _
     ·exact hst.wf x m (by rw [eA]; exact hm)
    ·rw [eN x hxd] at hm
     exact hst.wf x m hm
  ·rw [if_neg hwant]
   have hnt:¬a.tmps.getD s undef= .bool want:=fun e=>hwant (hw.2 e)
   have hdu:qbG o (.grd s (qi σ s).1 want av.freeze)=[⟨d,true,.grd s (qi σ s).1 want av.freeze⟩]:=by unfold qbG; rw [hdst]
   obtain ⟨own',hst⟩:=h.dst0 (o:=o) (av:= .grd s (qi σ s).1 want av.freeze) (v:=undef) (by rw [hdu]; exact hd) ⟨rfl,fun _=>⟨fun e=>absurd e hnt,fun _=>rfl⟩⟩ (fun m hm=>by
    rcases List.mem_cons.1 hm with rfl|hm
    ·exact Nat.le_refl _
    ·exact hms m hm)
   rw [hdu] at hst
   exact hK _ _ own' (qgQ o a _) hst
end
end Go.Vi
namespace Go.Vi
open Go.RowKit
section
variable {C:Ctx} {E:Env} {σ τ:St} {tm:Array Value} {a:Act} {w w':World} {own:Nat→List Nat} {o:Oper} {p:qgw} [Tabbed E C]
theorem qR.retag (h:qR C σ tm w own) (hl:τ.length=σ.length) (B:Nat→Prop) (hsame:∀s,¬B s→qi τ s=qi σ s)
  (hB:∀s,B s→(qi τ s).2.mentions=[]∧∀v,qak (sit C σ tm w own) (qi σ s).2 v (own s)→qak (sit C σ tm w own) (qi τ s).2 v (own s))
  (hv:∀s m,¬B s→m∈(qi σ s).2.mentions→B m.1→m.2<(qi τ m.1).1):qR C τ tm w own:=by
 refine ⟨by rw [hl]; exact h.size,h.kept,h.mine,h.nodup,h.apart,fun s hs=>h.outside s (by omega),fun s hs=> ?_,fun s m hm=> ?_⟩
 ·have hr:=h.rep s (by omega)
  by_cases hb:B s
  ·obtain ⟨k1,k2⟩:=hB s hb
   exact qak.keep (X:=sit C σ tm w own) (X':=sit C τ tm w own) ⟨rfl,rfl⟩ (fun b hb hlt=>⟨hb,hlt,rfl⟩) (fun _ _ _=>rfl) (fun m hm=>by rw [k1] at hm; cases hm) (k2 _ hr)
  ·rw [hsame s hb]
   refine qak.keep (X:=sit C σ tm w own) (X':=sit C τ tm w own) ⟨rfl,rfl⟩ (fun b hb hlt=>⟨hb,hlt,rfl⟩) (fun _ _ _=>rfl) (fun m hm hv'=> ?_) hr
   have hv':(qi τ m.1).1=m.2:=hv'
   by_cases hbm:B m.1
   ·have:=hv s m hb hm hbm
    omega
   ·rw [hsame m.1 hbm] at hv'
    exact ⟨hv',rfl,fun b hb _=>⟨hb,rfl⟩⟩
 ·by_cases hb:B s
  ·rw [(hB s hb).1] at hm; cases hm
  ·rw [hsame s hb] at hm
   by_cases hbm:B m.1
   ·exact Nat.le_of_lt (hv s m hb hm hbm)
   ·rw [hsame m.1 hbm]
    exact h.wf s m hm
theorem qfF {F:Nat→Prop} (b:Bool): {x y r:BC} → {cs:List Value} → {bs:List Nat} →qfe.joinB b x y=some r→qar w F (bif b then x else y) cs bs→qar w F r cs bs
 | .val t x,.val u y,r,cs,bs,hj,h=>by
  simp only [qfe.joinB] at hj
  split at hj
  ·rename_i z hz
   injection hj with hj
   subst hj
   obtain ⟨e1,e2⟩:=Ty.as_some hz
   subst e1
   have e2:y=z:=e2
   subst e2
   cases b <;> exact h
  ·cases hj
 | .own et e xs,.own et' e' ys,r,cs,bs,hj,h=>by
  simp only [qfe.joinB] at hj
  split at hj
  ·rename_i het
   subst het
   split at hj
   ·rename_i z hz
    injection hj with hj
    subst hj
    obtain ⟨e1,e2⟩:=Ty.as_some hz
    injection e1 with e1
    subst e1
    have e2:ys=z:=e2
    subst e2
    cases b <;> exact h
   ·cases hj
  ·cases hj
 | .pair c d,.pair c' d',r,cs,bs,hj,h=>by
  simp only [qfe.joinB] at hj
  split at hj
  ·rename_i r1 r2 h1 h2
   split at hj
   ·injection hj with hj
    subst hj
    cases b
    ·obtain ⟨c1,c2,b1,b2,k1,k2,k3,k4⟩:=h
     exact ⟨c1,c2,b1,b2,k1,k2,qfF false h1 k3,qfF false h2 k4⟩
    ·obtain ⟨c1,c2,b1,b2,k1,k2,k3,k4⟩:=h
     exact ⟨c1,c2,b1,b2,k1,k2,qfF true h1 k3,qfF true h2 k4⟩
   ·cases hj
  ·cases hj
 | .hole n,.hole m,r,cs,bs,hj,h=>by
  simp only [qfe.joinB] at hj
  split at hj
  ·rename_i hnm
   injection hj with hj
   subst hj; subst hnm
   cases b <;> exact h
  ·cases hj
 | .val _ _,.own _ _ _,_,_,_,hj,_=>by cases hj
 | .val _ _,.pair _ _,_,_,_,hj,_=>by cases hj
 | .val _ _,.hole _,_,_,_,hj,_=>by cases hj
 | .own _ _ _,.val _ _,_,_,_,hj,_=>by cases hj
 | .own _ _ _,.pair _ _,_,_,_,hj,_=>by cases hj
 | .own _ _ _,.hole _,_,_,_,hj,_=>by cases hj
 | .pair _ _,.val _ _,_,_,_,hj,_=>by cases hj
 | .pair _ _,.own _ _ _,_,_,_,hj,_=>by cases hj
 | .pair _ _,.hole _,_,_,_,hj,_=>by cases hj
 | .hole _,.val _ _,_,_,_,hj,_=>by cases hj
 | .hole _,.own _ _ _,_,_,_,hj,_=>by cases hj
 | .hole _,.pair _ _,_,_,_,hj,_=>by cases hj
theorem qlw {X:Sit} (b:Bool) {x y:AV} {v:Value} {bs:List Nat} (h:qak X (bif b then x else y) v bs):qak X (qfe b x y) v bs∧(qfe b x y).mentions=[]:=by
 unfold qfe
 split
 ·rename_i t x u y
  split
  ·rename_i z hz
   obtain ⟨e1,e2⟩:=Ty.as_some hz
   subst e1
   have e2:y=z:=e2
   subst e2
   refine ⟨?_,rfl⟩
   cases b <;> exact h
  ·exact ⟨trivial,rfl⟩
 ·rename_i et e xs et' e' ys
  split
  ·rename_i het
   subst het
   split
   ·rename_i z hz
    obtain ⟨e1,e2⟩:=Ty.as_some hz
    injection e1 with e1
    subst e1
    have e2:ys=z:=e2
    subst e2
    refine ⟨?_,rfl⟩
    cases b <;> exact h
   ·exact ⟨trivial,rfl⟩
  ·exact ⟨trivial,rfl⟩
 ·rename_i c d
  split
  ·rename_i r hr
   refine ⟨?_,rfl⟩
   cases b
   ·obtain ⟨b0,cs,bs',te,k1,k2,k3,k4⟩:=h
    exact ⟨b0,cs,bs',te,k1,k2,qfF false hr k3,k4⟩
   ·obtain ⟨b0,cs,bs',te,k1,k2,k3,k4⟩:=h
    exact ⟨b0,cs,bs',te,k1,k2,qfF true hr k3,k4⟩
  ·exact ⟨trivial,rfl⟩
 ·rename_i k t xs k' t' ys
  split
  ·rename_i het
   obtain ⟨e1,e2⟩:=het
   subst e1
   subst e2
   refine ⟨?_,rfl⟩
   cases b <;> exact h
  ·exact ⟨trivial,rfl⟩
 ·rename_i et e et' e' ys
  split
  ·rename_i het
   subst het
   split
   ·rename_i z hz
    obtain ⟨e1,e2⟩:=Ty.as_some hz
    injection e1 with e1
    subst e1
    have e2:ys=z:=e2
    subst e2
    refine ⟨?_,rfl⟩
    cases b
    ·exact h
    ·obtain ⟨rfl,rfl⟩:=h
     exact qS.nil_ _ _ _ _
   ·exact ⟨trivial,rfl⟩
  ·exact ⟨trivial,rfl⟩
 ·rename_i et e xs et' e'
  split
  ·rename_i het
   obtain ⟨rfl,rfl⟩:=het
   refine ⟨?_,rfl⟩
   cases b
   ·obtain ⟨rfl,rfl⟩:=h
    exact qS.nil_ _ _ _ _
   ·exact h
  ·exact ⟨trivial,rfl⟩
 ·rename_i et e et' e'
  split
  ·rename_i het
   obtain ⟨rfl,rfl⟩:=het
   refine ⟨?_,rfl⟩
   cases b <;> exact h
  ·exact ⟨trivial,rfl⟩
 ·rename_i e xs e' ys
  split
  ·rename_i z hz
   obtain ⟨e1,e2⟩:=Ty.as_some hz
   injection e1 with e1
   subst e1
   have e2:ys=z:=e2
   subst e2
   refine ⟨?_,rfl⟩
   cases b <;> exact h
  ·exact ⟨trivial,rfl⟩
 ·rename_i e xs e' ys
  split
  ·rename_i z hz
   obtain ⟨e1,e2⟩:=Ty.as_some hz
   injection e1 with e1
   subst e1
   have e2:ys=z:=e2
   subst e2
   refine ⟨?_,rfl⟩
   cases b
   ·exact h
   ·exact ⟨h.1,h.2.1⟩
  ·exact ⟨trivial,rfl⟩
 ·rename_i e xs e' ys
  split
  ·rename_i z hz
   obtain ⟨e1,e2⟩:=Ty.as_some hz
   injection e1 with e1
   subst e1
   have e2:ys=z:=e2
   subst e2
   refine ⟨?_,rfl⟩
   cases b
   ·exact ⟨h.1,h.2.1⟩
   ·exact h
  ·exact ⟨trivial,rfl⟩
 ·exact ⟨trivial,rfl⟩
theorem BC.toVal_rep {F:Nat→Prop} :(t:Ty)→ {c:BC} → {x:t.den} → {cs:List Value} → {bs:List Nat} →c.toVal t=some x→qar w F c cs bs→qar w F (.val t x) cs bs
 |t,.val u y,x,cs,bs,hs,h=>by
  have hs:Ty.as (t:=u) t y=some x:=by cases t <;> exact hs
  exact ⟨h.1,h.2.as hs⟩
 | .pair a b,.pair c d,x,cs,bs,hs,h=>by
  simp only [BC.toVal] at hs
  split at hs
  ·rename_i y z h1 h2
   injection hs with hs
   subst hs
   obtain ⟨c1,c2,b1,b2,k1,k2,k3,k4⟩:=h
   have r1:=BC.toVal_rep a h1 k3
   have r2:=BC.toVal_rep b h2 k4
   exact ⟨by rw [k2,r1.1,r2.1]; rfl,c1,c2,k1,r1.2,r2.2⟩
  ·cases hs
 |t,.own _ _ _,x,cs,bs,hs,h=>by cases t <;> cases hs
 |t,.hole _,x,cs,bs,hs,h=>by cases t <;> cases hs
 | .int _,.pair _ _,x,cs,bs,hs,h=>by cases hs
 | .bool,.pair _ _,x,cs,bs,hs,h=>by cases hs
 | .str,.pair _ _,x,cs,bs,hs,h=>by cases hs
 | .unit,.pair _ _,x,cs,bs,hs,h=>by cases hs
 | .slice _,.pair _ _,x,cs,bs,hs,h=>by cases hs
 | .arr _ _,.pair _ _,x,cs,bs,hs,h=>by cases hs
theorem BC.toShape_rep {F:Nat→Prop} :(s:qcb)→ {c:BC} → {x:s.den} → {cs:List Value} → {bs:List Nat} →c.toShape s=some x→qar w F c cs bs→qar w F (s.un x) cs bs
 | .val t,c,x,cs,bs,hs,h=>by
  exact BC.toVal_rep t hs h
 | .own et e,.own et' e' xs,x,cs,bs,hs,h=>by
  simp only [BC.toShape] at hs
  split at hs
  ·rename_i het
   subst het
   obtain ⟨e1,e2⟩:=Ty.as_some hs
   injection e1 with e1
   subst e1
   have e2:xs=x:=e2
   subst e2
   exact h
  ·cases hs
 | .pair a b,.pair c d,x,cs,bs,hs,h=>by
  simp only [BC.toShape] at hs
  split at hs
  ·rename_i y z h1 h2
   injection hs with hs
   subst hs
   obtain ⟨c1,c2,b1,b2,k1,k2,k3,k4⟩:=h
   exact ⟨c1,c2,b1,b2,k1,k2,BC.toShape_rep a h1 k3,BC.toShape_rep b h2 k4⟩
  ·cases hs
 | .hole n,.hole m,x,cs,bs,hs,h=>by
  simp only [BC.toShape] at hs
  split at hs
  ·rename_i hnm
   subst hnm
   exact h
  ·cases hs
 | .own _ _,.val _ _,_,_,_,hs,_=>by cases hs
 | .own _ _,.pair _ _,_,_,_,hs,_=>by cases hs
 | .own _ _,.hole _,_,_,_,hs,_=>by cases hs
 | .pair _ _,.val _ _,_,_,_,hs,_=>by cases hs
 | .pair _ _,.own _ _ _,_,_,_,hs,_=>by cases hs
 | .pair _ _,.hole _,_,_,_,hs,_=>by cases hs
 | .hole _,.val _ _,_,_,_,hs,_=>by cases hs
 | .hole _,.own _ _ _,_,_,_,hs,_=>by cases hs
 | .hole _,.pair _ _,_,_,_,hs,_=>by cases hs
theorem AV.toShape_rep {X:Sit} (s:qdx) {av:AV} {x:s.den} {v:Value} {bs:List Nat} (hs:av.toShape s=some x) (h:qak X av v bs):qak X (s.un x) v bs∧(s.un x).mentions=[]:=by
 cases s with
 |val t=>
  cases av with
  |val u y=>exact ⟨⟨h.1,h.2.as hs⟩,rfl⟩
  |_=>cases hs
 |own et e=>
  cases av with
  |own et' e' xs=>
   simp only [AV.toShape] at hs
   split at hs
   ·rename_i het
    subst het
    obtain ⟨e1,e2⟩:=Ty.as_some hs
    injection e1 with e1
    subst e1
    have e2:xs=x:=e2
    subst e2
    exact ⟨h,rfl⟩
   ·cases hs
  |_=>cases hs
 |box b=>
  cases av with
  |box c=>
   obtain ⟨b0,cs,bs',te,k1,k2,k3,k4⟩:=h
   exact ⟨⟨b0,cs,bs',te,k1,k2,BC.toShape_rep b hs k3,k4⟩,rfl⟩
  |_=>cases hs
 |mp k t=>
  cases av with
  |mp k' t' xs=>
   simp only [AV.toShape] at hs
   split at hs
   ·rename_i het
    obtain ⟨e1,e2⟩:=het
    subst e1
    subst e2
    injection hs with hs
    subst hs
    exact ⟨h,rfl⟩
   ·cases hs
  |_=>cases hs
theorem qhb (σ:St) (s:Nat) (e:Ent) (x:Nat):qi (σ.set s e) x=if x=s∧s<σ.length then e else qi σ x:=by
 unfold qi
 simp only [List.getD_eq_getElem?_getD,List.getElem?_set]
 by_cases hx:s=x
 ·subst hx
  by_cases hl:s<σ.length
  ·simp [hl]
  ·simp [hl]
 ·simp [hx]
  intro e1
  exact absurd e1.symm hx
theorem qkb:(wr:List Nat)→(σ:St)→(wr.foldl (fun σ s=>σ.set s ((qi σ s).1+1,.undef)) σ).length=σ.length∧
  ∀x,(x∈wr∧x<σ.length→(qi σ x).1<(qi (wr.foldl (fun σ s=>σ.set s ((qi σ s).1+1,.undef)) σ) x).1∧(qi (wr.foldl (fun σ s=>σ.set s ((qi σ s).1+1,.undef)) σ) x).2= .undef)∧
   (¬(x∈wr∧x<σ.length)→qi (wr.foldl (fun σ s=>σ.set s ((qi σ s).1+1,.undef)) σ) x=qi σ x)
 |[],σ=>⟨rfl,fun x=>⟨fun h=>(by cases h.1),fun _=>rfl⟩⟩
 |s::wr,σ=>by
  obtain ⟨h1,h2⟩:=qkb wr (σ.set s ((qi σ s).1+1,.undef))
  rw [List.foldl_cons]
  refine ⟨by rw [h1]; simp,fun x=> ?_⟩
  obtain ⟨k1,k2⟩:=h2 x
  rw [List.length_set] at k1 k2
  by_cases hx:x∈wr∧x<σ.length
  ·refine ⟨fun _=> ?_,fun hn=>absurd ⟨List.mem_cons_of_mem _ hx.1,hx.2⟩ hn⟩
   obtain ⟨g1,g2⟩:=k1 hx
   refine ⟨Nat.lt_of_le_of_lt ?_ g1,g2⟩
   rw [qhb]
   split
   ·rename_i h; rw [h.1]; exact Nat.le_succ _
   ·exact Nat.le_refl _
  ·rw [k2 hx]
   rw [qhb]
   by_cases hs:x=s∧s<σ.length
   ·rw [if_pos hs]
    refine ⟨fun _=>⟨by rw [hs.1]; exact Nat.lt_succ_self _,rfl⟩,fun hn=>absurd ⟨by rw [hs.1]; exact List.mem_cons_self,by rw [hs.1]; exact hs.2⟩ hn⟩
   ·rw [if_neg hs]
    refine ⟨fun hn=> ?_,fun _=>rfl⟩
    rcases List.mem_cons.1 hn.1 with rfl|hm
    ·exact absurd ⟨rfl,hn.2⟩ hs
    ·exact absurd ⟨hm,hn.2⟩ hx
theorem qkI:(l:List (Nat×qdx))→(x:liveDen l)→(σ:St)→(l.map (·.1)).Nodup→(qe2 l x σ).length=σ.length∧(∀s,s∉l.map (·.1)→qi (qe2 l x σ) s=qi σ s)∧
  ∀(τ:St),qnZ l τ=some x→∀s,s∈l.map (·.1)→s<σ.length→(qi (qe2 l x σ) s).1=(qi σ s).1∧∀X v bs,qak X (qi τ s).2 v bs→qak X (qi (qe2 l x σ) s).2 v bs∧(qi (qe2 l x σ) s).2.mentions=[]
 |[],_,σ,_=>⟨rfl,fun _ _=>rfl,fun _ _ s hs=>by cases hs⟩
 |p::r,x,σ,hn=>by
  have hn:=List.nodup_cons.1 hn
  obtain ⟨h1,h2,h3⟩:=qkI r x.2 (σ.set p.1 ((qi σ p.1).1,p.2.un x.1)) hn.2
  refine ⟨by simp only [qe2]; rw [h1]; simp,fun s hs=> ?_,fun τ hp s hs hl=> ?_⟩
  ·have hs':s≠p.1∧s∉r.map (·.1):=by simpa using hs
   simp only [qe2]
   rw [h2 s hs'.2,qhb,if_neg (fun h=>hs'.1 h.1)]
  ·simp only [qnZ] at hp
   split at hp
   case h_2=>cases hp
   rename_i y z e1 e2
   injection hp with hp
   subst hp
   simp only [qe2]
   by_cases hsp:s=p.1
   ·subst hsp
    rw [h2 _ hn.1,qhb,if_pos ⟨rfl,hl⟩]
    exact ⟨rfl,fun X v bs h=>AV.toShape_rep p.2 e1 h⟩
   ·have hsr:s∈r.map (·.1):=by
     rcases List.mem_cons.1 hs with e|e
     ·exact absurd e hsp
     ·exact e
    obtain ⟨g1,g2⟩:=h3 τ e2 s hsr (by rw [List.length_set]; exact hl)
    rw [qhb,if_neg (fun h=>hsp h.1)] at g1
    exact ⟨g1,g2⟩
def Fr (wr:List Nat) (σ σ':St):Prop:=σ'.length=σ.length∧∀s,s∉wr→qi σ' s=qi σ s
theorem qnw {A:qmn} (hlive:∀q∈A.live,q.1∈A.wr) (hn:(A.live.map (·.1)).Nodup) (x:liveDen A.live):Fr A.wr σ (qfr A σ x):=by
 obtain ⟨h1,h2⟩:=qkb A.wr σ
 obtain ⟨k1,k2,_⟩:=qkI A.live x (A.wr.foldl (fun σ s=>σ.set s ((qi σ s).1+1,.undef)) σ) hn
 refine ⟨k1.trans h1,fun s hs=> ?_⟩
 rw [qfr,k2 s fun hm=>by
  obtain ⟨q,hq,e⟩:=List.mem_map.1 hm
  exact hs (e ▸ hlive q hq)]
 exact (h2 s).2 fun h=>hs h.1
theorem qR.head (h:qR C τ tm w own) {A:qmn} (hlive:∀q∈A.live,q.1∈A.wr) (hn:(A.live.map (·.1)).Nodup) (hwf:∀s,∀m∈(qi σ s).2.mentions,m.2≤(qi σ m.1).1) (hfr:Fr A.wr σ τ) {x:liveDen A.live} (hx:qnZ A.live τ=some x):
  qR C (qfr A σ x) tm w own:=by
 obtain ⟨h1,h2⟩:=qkb A.wr σ
 obtain ⟨k1,k2,k3⟩:=qkI A.live x (A.wr.foldl (fun σ s=>σ.set s ((qi σ s).1+1,.undef)) σ) hn
 have hver:∀s,s∈A.wr→s<σ.length→(qi σ s).1<(qi (qfr A σ x) s).1:=by
  intro s hs hl
  by_cases hm:s∈A.live.map (·.1)
  ·rw [qfr,(k3 τ hx s hm (by rw [h1]; exact hl)).1]
   exact ((h2 s).1 ⟨hs,hl⟩).1
  ·rw [qfr,k2 s hm]
   exact ((h2 s).1 ⟨hs,hl⟩).1
 refine h.retag ((k1.trans h1).trans hfr.1.symm) (fun s=>s∈A.wr∧s<σ.length) (fun s hs=> ?_) (fun s hs=> ?_) (fun s m hs hm hb=> ?_)
 ·by_cases hw:s∈A.wr
  ·have hl:¬s<σ.length:=fun hl=>hs ⟨hw,hl⟩
   have e1:qi (qfr A σ x) s=(0,.undef):=by simp [qi,List.getD,List.getElem?_eq_none (show (qfr A σ x).length≤s by rw [qfr,k1,h1]; omega)]
   have e2:qi τ s=(0,.undef):=by simp [qi,List.getD,List.getElem?_eq_none (show τ.length≤s by rw [hfr.1]; omega)]
   rw [e1,e2]
  ·rw [(qnw hlive hn x).2 s hw,hfr.2 s hw]
 ·by_cases hm:s∈A.live.map (·.1)
  ·obtain ⟨_,g⟩:=k3 τ hx s hm (by rw [h1]; exact hs.2)
   refine ⟨?_,fun v hv=>(g _ v _ hv).1⟩
   have hat:=h.at_ s
   exact (g _ _ _ hat).2
  ·rw [qfr,k2 s hm,((h2 s).1 hs).2]
   exact ⟨rfl,fun _ _=>trivial⟩
 ·have e:qi τ s=qi σ s:=by
   by_cases hw:s∈A.wr
   ·have hl:¬s<σ.length:=fun hl=>hs ⟨hw,hl⟩
    have e1:qi σ s=(0,.undef):=by simp [qi,List.getD,List.getElem?_eq_none (show σ.length≤s by omega)]
    have e2:qi τ s=(0,.undef):=by simp [qi,List.getD,List.getElem?_eq_none (show τ.length≤s by rw [hfr.1]; omega)]
    rw [e1,e2]
   ·exact hfr.2 s hw
  rw [e] at hm
  exact Nat.lt_of_le_of_lt (hwf s m hm) (hver m.1 hb.1 hb.2)
end
end Go.Vi
