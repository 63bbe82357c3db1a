/- The abstract interpreter: the operations, each: moves, loads, stores, addresses. -/
import Derived.Test.YtfcdfdnlgfebmaaGreatDoorViRun
import Derived.Test.YtfcdfdnlgfebmaaGreatDoorViEq
import Derived.Laws.Strings
set_option linter.unusedVariables false
set_option linter.unusedSimpArgs false
set_option linter.unnecessarySimpa false
set_option linter.unusedSectionVars false
namespace Go.Vi
open Go.RowKit
section
variable {C:Ctx} {E:Env} {σ:St} {a:Act} {w w':World} {own:Nat→List Nat} {o:Oper} [Tabbed E C]
theorem qL {us:List U} {f:Eff} {lk:Nat→Ent} (h:(okE us).run lk=some f):f=⟨us,[]⟩:=(Q.ret_some h).symm
theorem qiR (a:Act) {d:Nat} (h:o.dst=some d) (v:Value):(a.put o.dst v).tmps=a.tmps.setIfInBounds d v:=by rw [h]; rfl
theorem qqy (h:qag C σ a.tmps w own) {x1:Op1} {v:Value} (ho:qb3 (sit C σ a.tmps w own) x1 v) (hw:∀m∈x1.a.mentions,m.2≤(qt σ m.1).1) (hs:∀s,x1.s=some s→x1.a≠ .undef→s<σ.length) {as:Bool} {f:Eff} (hpt:qtC (sit C σ a.tmps w own)) (hpn:∀k∈E.pins,∃b,C.pn k=some b)
  (he:(qsW E.pins o as x1).run (qt σ)=some f) (hd:∀u∈f.upd,u.s<σ.length) (hr:(execOp a.eval o).run C.P w= .ok (.value v) w):qdT C o a w (qr σ f.upd):=by
 obtain ⟨os,ov,oa⟩:=x1
 have trans:∀(s d:Nat) (av av':AV),os=some s→oa=av→o.dst=some d→s≠d→f.upd=[⟨d,true,av⟩,⟨s,true,av'⟩]→av.mentions=[]→
   (∀X:Sit,X.ver d=(qt σ d).1+1→X.tm d=a.tmps.getD s undef→qaF X av' (a.tmps.getD s undef) [])→(∀m∈av'.mentions,m=(d,(qt σ d).1+1))→qdT C o a w (qr σ f.upd):=by
  intro s d av av' h1 h2 h3 h4 h5 h6 h7 h8
  subst h1; subst h2
  obtain ⟨e1,e2,e3⟩:=ho
  rw [h5] at hd⊢
  refine qK hr ?_
  rw [qiR a h3,e1]
  exact h.transfer (hd ⟨s,true,av'⟩ (by simp)) (hd ⟨d,true,oa⟩ (by simp)) h4 (by have e4:=e3; rw [e1] at e4; exact e4) h6 h7 h8
 unfold qsW at he
 split at he
 ·rename_i s et e xs h1 h2
  simp only at h1 h2
  subst h1; subst h2
  split at he
  ·split at he
   ·rename_i d hdst
    split at he
    ·cases he
    ·rename_i hne
     rw [Q.run_get] at he
     have:=qL he
     subst this
     exact trans s d _ _ rfl rfl hdst hne rfl rfl (fun X h1 h2=>⟨rfl,fun _=>h2⟩) (fun m hm=>by simpa [AV.mentions] using hm)
   ·cases he
  ·have:=qL he
   subst this
   obtain ⟨e1,e2,e3⟩:=ho
   refine qK hr (h.dst0 hd ⟨rfl,fun _=>e1.symm⟩ (fun m hm=> ?_))
   simp [AV.mentions] at hm
   subst hm
   exact Nat.le_of_eq e2
 ·rename_i s et e xs h1 h2
  simp only at h1 h2
  subst h1; subst h2
  split at he
  ·split at he
   ·rename_i d hdst
    split at he
    ·cases he
    ·rename_i hne
     rw [Q.run_get] at he
     have:=qL he
     subst this
     exact trans s d _ _ rfl rfl hdst hne rfl rfl (fun X h1 h2=>⟨rfl,fun _=>h2⟩) (fun m hm=>by simpa [AV.mentions] using hm)
   ·cases he
  ·have:=qL he
   subst this
   obtain ⟨e1,e2,e3⟩:=ho
   refine qK hr (h.dst0 hd ⟨rfl,fun _=>e1.symm⟩ (fun m hm=> ?_))
   simp [AV.mentions] at hm
   subst hm
   exact Nat.le_of_eq e2
 ·rename_i s c h1 h2
  simp only at h1 h2
  subst h1; subst h2
  have hbox:∃b,v=ptr b 0:=by
   obtain ⟨_,_,b,_,_,_,e,_⟩:=ho
   exact ⟨b,e⟩
  split at he
  ·rename_i hpin
   have:=qL he
   subst this
   obtain ⟨b,hb⟩:=hpn s (by simpa using hpin)
   have h1:=hpt s b hb
   obtain ⟨e1,_,_⟩:=ho
   exact qK hr (h.dst0 hd ⟨rfl,b,hb,by rw [e1]; exact h1⟩ (fun m hm=>by cases hm))
  split at he
  ·split at he
   ·rename_i d hdst
    split at he
    ·cases he
    ·rename_i hne
     rw [Q.run_get] at he
     have:=qL he
     subst this
     obtain ⟨b,hb⟩:=hbox
     have hv:a.tmps.getD s undef=ptr b 0:=by rw [←hb]; exact ho.1.symm
     exact trans s d _ _ rfl rfl hdst hne rfl rfl (fun X h1 h2=>⟨rfl,fun _=>⟨b,by rw [h2,hv],hv⟩⟩) (fun m hm=>by simpa [AV.mentions] using hm)
   ·cases he
  ·have:=qL he
   subst this
   obtain ⟨e1,e2,e3⟩:=ho
   obtain ⟨b,hb⟩:=hbox
   refine qK hr (h.dst0 hd ⟨rfl,fun _=>⟨b,by rw [←e1,hb],hb⟩⟩ (fun m hm=> ?_))
   simp [AV.mentions] at hm
   subst hm
   exact Nat.le_of_eq e2
 ·rename_i s c h1 h2
  simp only at h1 h2
  subst h1; subst h2
  split at he
  ·rename_i d hdst
   split at he
   ·cases he
   ·rename_i hne
    have:=qL he
    subst this
    exact trans s d _ _ rfl rfl hdst hne rfl rfl (fun X h1 h2=>trivial) (fun m hm=>by cases hm)
  ·cases he
 ·rename_i s c h1 h2
  simp only at h1 h2
  subst h1; subst h2
  split at he
  ·rename_i d hdst
   split at he
   ·cases he
   ·rename_i hne
    have:=qL he
    subst this
    exact trans s d _ _ rfl rfl hdst hne rfl rfl (fun X h1 h2=>trivial) (fun m hm=>by cases hm)
  ·cases he
 ·rename_i et e xs h1 h2
  simp only at h1 h2
  subst h1; subst h2
  have:=qL he
  subst this
  exact qK hr (h.dst0 hd ho (fun m hm=>by cases hm))
 ·rename_i s v0 h2
  simp only at h2
  subst h2
  split at he
  ·rename_i hcond
   simp only [Bool.and_eq_true,beq_iff_eq] at hcond
   rw [Q.run_get] at he
   split at he
   ·rename_i hv
    have:=qL he
    subst this
    have hu:a.tmps.getD s undef=v:=(ho.unowned rfl).2 hv
    refine qK hr ⟨own,?_⟩
    have e:(a.put o.dst v).tmps=a.tmps:=by
     rw [qiR a hcond.2,←hu]
     apply Array.ext'
     rw [Array.toList_setIfInBounds]
     by_cases hl:s<a.tmps.size
     ·rw [Array.getD_eq_getD_getElem?,Array.getElem?_eq_getElem hl,Option.getD_some]
      exact List.set_getElem_self (by simpa using hl)
     ·exact List.set_eq_of_length_le (by simpa using Nat.le_of_not_lt hl)
    show qag C σ _ w own
    rw [e]
    exact h
   ·cases he
  ·have:=qL he
   subst this
   exact qK hr (h.dst0 hd (ho.unowned rfl) hw)
 ·split at he
  ·rename_i hu
   have:=qL he
   subst this
   exact qK hr (h.dst0 hd (ho.unowned hu) hw)
  ·cases he
theorem qfn (h:qag C σ a.tmps w own) (hpt:qtC (sit C σ a.tmps w own)) {x1:Op1} {v:Value} (ho:qb3 (sit C σ a.tmps w own) x1 v) {s off:Nat} {v0:Option Nat} (hb:qgL x1=some (s,v0,off)) (hv:vOk (qt σ s).1 v0=true):∃b,a.tmps.getD s undef=ptr b 0∧v=ptr b off∧(v0=none→C.pn s=some b):=by
 obtain ⟨os,ov,oa⟩:=x1
 unfold qgL at hb
 split at hb
 ·rename_i s' c h1 h2
  simp only at h1 h2
  subst h1; subst h2
  injection hb with hb
  injection hb with h3 h4
  injection h4 with h4 h5
  subst h3; subst h5
  obtain ⟨e1,_,b,_,_,_,e2,_⟩:=ho
  exact ⟨b,by rw [←e2]; exact e1.symm,e2,fun h=>by rw [←h4] at h; cases h⟩
 ·rename_i s' v' off' h2
  simp only at h2
  subst h2
  injection hb with hb
  injection hb with h3 h4
  injection h4 with h4 h5
  subst h3; subst h4; subst h5
  obtain ⟨b,k1,k2⟩:=(ho.unowned rfl).2 (of_decide_eq_true hv)
  exact ⟨b,k1,k2,fun h=>by cases h⟩
 ·rename_i k' off' h2
  simp only at h2
  subst h2
  injection hb with hb
  injection hb with h3 h4
  injection h4 with h4 h5
  subst h3; subst h4; subst h5
  obtain ⟨_,b,k1,k2⟩:=ho.unowned rfl
  exact ⟨b,hpt _ b k1,k2,fun _=>k1⟩
 ·cases hb
theorem qqs {v0:Option Nat} {s off b:Nat} {v:Value} (h:qag C σ a.tmps w own) (hv:vOk (qt σ s).1 v0=true) (h1:a.tmps.getD s undef=ptr b 0) (h2:v=ptr b off) (h3:v0=none→C.pn s=some b):
  qaF (sit C σ a.tmps w own) (qsF s off v0) v []∧∀m∈(qsF s off v0).mentions,m.2≤(qt σ m.1).1:=by
 cases v0 with
 |some v0=>
  refine ⟨⟨rfl,fun _=>⟨b,h1,h2⟩⟩,fun m hm=> ?_⟩
  simp [qsF,AV.mentions] at hm
  subst hm
  exact Nat.le_of_eq (of_decide_eq_true hv).symm
 |none=>exact ⟨⟨rfl,b,h3 rfl,h2⟩,fun m hm=>by cases hm⟩
theorem qag.box (h:qag C σ a.tmps w own) {s:Nat} {c:BC} (hc:(qt σ s).2= .box c):∃(b:Nat) (cs:List Value) (bs':List Nat) (te:Nat),a.tmps.getD s undef=ptr b 0∧w.heap[b]? =some (.cells cs.toArray te (0,0))∧qbg w (C.free w own) c cs bs'∧own s=b::bs':=by
 have:=h.at_ s
 rw [hc] at this
 exact this
theorem qgR {b b' off off':Nat} (h:ptr b off=ptr b' off'):b=b'∧off=off':=by
 simp [ptr] at h; exact h
theorem qhG {b:Nat} {cs:List Value} {te:Nat} (h:w.heap[b]? =some (.cells cs.toArray te (0,0))) (j:Nat):w.cell? ⟨b,j,none⟩=cs[j]? :=by simp [World.cell?,h]
theorem qhJ {b off n:Nat} {cs:List Value} {te:Nat} (h:w.heap[b]? =some (.cells cs.toArray te (0,0))):qgJ w ⟨b,off,none⟩ ((cs.drop off).take n):=by
 intro j u hj
 rw [qaK,qhG h]
 rw [List.getElem?_take] at hj
 split at hj
 ·rwa [List.getElem?_drop] at hj
 ·cases hj
def Lay (P:Program):List Field→Ty→Nat→Prop
 |[],.unit,_=>True
 |f::fs,.pair a b,off=>f.offset=off∧(∀w,(sizeOf f.type).run P w= .ok a.size w)∧Lay P fs b (off+a.size)
 |_,_,_=>False
def Ty.struct:Ty→Bool
 | .unit=>true
 | .pair _ _=>true
 |_=>false
def qj6:Ty→TypeDesc→Bool
 | .int k,.int k'=>decide (k'=k)
 | .bool,.bool=>true
 | .str,.string=>true
 |_,_=>false
structure qbG (E:Env) (P:Program):Prop where
 ty:∀t u,E.ty t=some u→TyB P t u
 elem:∀t e,E.ty t=some (.slice e)→ElemB P E t e
 dflt:∀t e,E.ty t=some (.slice e)→∃i z,P.info? (E.etid t)=some i∧i.zero=some z∧(e.agg=false→∀cs,z≠ .agg cs)∧∀w F,Rep w F e e.dflt z.cells.toList
 size:∀t e,(E.ty t=some (.slice e)∨∃n,E.ty t=some (.arr n e))→(sizeOf (E.etid t)).run P=fun w=> .ok e.size w
 arr:∀t n e,E.ty t=some (.arr n e)→P.underlying t=some (.array n (E.etid t))
 struct:∀t T,E.ty t=some T→T.struct=true→∃fs z i,P.underlying t=some (.struct fs)∧P.info? t=some i∧i.zero=some z∧(∀w F,Rep w F T T.dflt z.cells.toList)∧Lay P fs.toList T 0
 str:∀t,E.ty t=some .str→P.underlying t=some .string
 int:∀t k,E.ty t=some (.int k)→P.underlying t=some (.int k)
 bool:∀t,E.ty t=some .bool→P.underlying t=some .bool
 err:∀t,E.ty t=some .err→∃ms,P.underlying t=some (.interface ms)
 opt:∀t e,E.ty t=some (.opt e)→∃u,P.underlying t=some (.pointer u)
 map:∀t k v,E.ty t=some (.map k v)→∃kn vn d i z,P.underlying t=some (.map kn vn)∧P.underlying kn=some d∧qj6 k d=true∧P.info? vn=some i∧i.zero=some z∧∀w F,qaq w F v v.dflt z
 off:∀t f n,E.off t f=some n→∃fs fl,P.underlying t=some (.struct fs)∧fs[f]? =some fl∧fl.offset=n∧fl.type=E.fty t f∧∃i,P.info? fl.type=some i∧i.size≠0
 zero:∀t c,E.zero t=some c→∃i z,P.info? t=some i∧i.zero=some z∧∀w F,qbg w F c z.cells.toList []
 eq:∀t u,E.eqok t=true→E.ty t=some u→EqB P t u
 mixed:P.follows .mixedOrders=true
theorem qbG.elem' {E:Env} {P:Program} (hE:qbG E P) {t:Nat} {e:Ty} (h:E.ty t=some (.slice e)):∃i z,P.underlying t=some (.slice (E.etid t))∧P.info? (E.etid t)=some i∧i.size=e.size∧i.zero=some z∧z.cells.size=e.size∧i.bytes=E.bytes (E.etid t)∧∀w F,Rep w F e e.dflt z.cells.toList:=by
 obtain ⟨i,z,h1,h2,h3,h4,h5⟩:=(hE.elem t e h).info
 obtain ⟨i',z',k1,k2,_,k3⟩:=hE.dflt t e h
 rw [h1] at k1
 injection k1 with k1
 subst k1
 rw [h3] at k2
 injection k2 with k2
 subst k2
 exact ⟨i,z,(hE.elem t e h).under,h1,h2,h3,h4,h5,k3⟩
theorem qag.row (h:qag C σ a.tmps w own) {s et g n cap:Nat} {e:Ty} {xs:List e.den} (hown:(qt σ s).2= .own et e xs) (hv:a.tmps.getD s undef= .slice (some ⟨g,0,none⟩) n cap):
  ∃cells,w.ownsRow 0 et e.size (.slice (some ⟨g,0,none⟩) n cap) n cells∧xs.length=n∧(∀j u,cells[j]? =some u→w.cell? ((⟨g,0,none⟩:Addr).add j)=some u)∧
   ∀(i:Nat) (x:e.den),xs[i]? =some x→Rep w (C.free w own) e x ((cells.drop (i * e.size)).take e.size):=by
 have hat:=h.at_ s
 rw [hown] at hat
 obtain ⟨cells,h1,h2,h3⟩:=hat
 rw [hv] at h1
 have hn:xs.length=n:=by
  rcases h1.2 with ⟨h4,_⟩|⟨g',cap',cur,h4,_⟩
  ·cases h4
  ·injection h4 with _ h5 _; exact h5.symm
 rw [hn] at h1
 exact ⟨cells,h1,hn,h1.cells rfl,h3⟩
theorem qbg.row {w:World} {F:Nat→Prop} {et:Nat} {e:Ty} {xs:List e.den} : {c:BC} → {cs:List Value} → {bs:List Nat} → {off:Nat} →qbg w F c cs bs→c.row off=some (et,⟨e,xs⟩)→
  ∃v b1 b2 b3,cs[off]? =some v∧q7 w F et e xs v b2∧bs=b1++(b2++b3)∧∀ {w':World} {F':Nat→Prop} (n c':BC) (b2':List Nat),(∀b,F b→b<w.heap.size→F' b∧b<w'.heap.size∧w'.heap[b]? =w.heap[b]?)→
   (∀b,b∈b1∨b∈b3→b<w.heap.size→w'.heap[b]? =w.heap[b]?)→c.swap off n=some c'→qbg w' F' n [v] b2'→qbg w' F' c' cs (b1++(b2'++b3))
 | .own et' e' xs',cs,bs,off,⟨v,h1,h2⟩,hr=>by
  simp only [BC.row] at hr
  split at hr
  ·rename_i h0
   subst h0
   injection hr with hr
   injection hr with e1 e2
   subst e1
   injection e2 with e2 e3
   subst e2
   have e3:=eq_of_heq e3
   subst e3
   subst h1
   refine ⟨v,[],bs,[],rfl,h2,by simp,fun n c' b2' _ _ hsw hn=> ?_⟩
   simp only [BC.swap,if_true] at hsw
   injection hsw with hsw
   subst hsw
   simpa using hn
  ·cases hr
 | .pair a b,cs,bs,off,⟨c1,c2,b1,b2,h1,h2,h3,h4⟩,hr=>by
  simp only [BC.row] at hr
  have hl:=h3.length
  split at hr
  ·rename_i hlt
   obtain ⟨v,p1,p2,p3,q1,q2,q3,q4⟩:=h3.row hr
   refine ⟨v,p1,p2,p3++b2,by rw [h1,List.getElem?_append_left (by omega)]; exact q1,q2,by rw [h2,q3]; simp,fun n c' b2' hF hB hsw hn=> ?_⟩
   simp only [BC.swap,if_pos hlt,Option.map_eq_some_iff] at hsw
   obtain ⟨z,z1,rfl⟩:=hsw
   exact ⟨c1,c2,p1++(b2'++p3),b2,h1,by simp,q4 n z b2' hF (fun x hx=>hB x (hx.imp id (fun hx=>List.mem_append_left _ hx))) z1 hn,h4.keep hF (fun x hx=>hB x (.inr (List.mem_append_right _ hx)))⟩
  ·rename_i hlt
   obtain ⟨v,p1,p2,p3,q1,q2,q3,q4⟩:=h4.row hr
   refine ⟨v,b1++p1,p2,p3,by rw [h1,List.getElem?_append_right (by omega),hl]; exact q1,q2,by rw [h2,q3]; simp,fun n c' b2' hF hB hsw hn=> ?_⟩
   simp only [BC.swap,if_neg hlt,Option.map_eq_some_iff] at hsw
   obtain ⟨z,z1,rfl⟩:=hsw
   exact ⟨c1,c2,b1,p1++(b2'++p3),h1,by simp,h3.keep hF (fun x hx=>hB x (.inl (List.mem_append_left _ hx))),q4 n z b2' hF (fun x hx=>hB x (hx.imp (fun hx=>List.mem_append_right _ hx) id)) z1 hn⟩
 | .val _ _,_,_,_,_,hr=>by cases hr
 | .hole _,_,_,_,_,hr=>by cases hr
theorem qag.rowAt {tm:Array Value} (h:qag C σ tm w own) {s:Nat} {fo:Option Nat} {et:Nat} {e:Ty} {xs:List e.den} {v:Value} (hr:(qt σ s).2.rowAt fo=some (et,⟨e,xs⟩)) (hv:qfC (sit C σ tm w own) s fo v):
  s<σ.length∧∃b1 b2 b3,q7 w (C.free w own) et e xs v b2∧own s=b1++(b2++b3)∧(∀b,tm.getD s undef=ptr b 0→b∉b2)∧
   ∀(W:World) (n:BC) (b2':List Nat) (a':AV),qcx (fun k=>k∈b2) w W→qbg W (C.free w own) n [v] b2'→(qt σ s).2.swapRow n fo=some a'→qaF { sit C σ tm w own with w:=W } a' (tm.getD s undef) (b1++(b2'++b3))∧a'.mentions=[]:=by
 have hat:=h.at_ s
 have hlt:s<σ.length:=by
  apply Classical.byContradiction
  intro hn
  have:qt σ s=(0,.undef):=by simp [qt,List.getD,List.getElem?_eq_none (Nat.le_of_not_lt hn)]
  rw [this] at hr
  cases hr
 refine ⟨hlt,?_⟩
 have hnd:=h.nodup s
 generalize hg:(qt σ s).2=g at hat hr⊢
 cases g with
 |own et' e' xs'=>
  cases fo with
  |some _=>cases hr
  |none=>
   simp only [AV.rowAt] at hr
   injection hr with hr
   injection hr with e1 e2
   subst e1
   injection e2 with e2 e3
   subst e2
   have e3:=eq_of_heq e3
   subst e3
   have hv:tm.getD s undef=v:=hv
   rw [hv] at hat⊢
   refine ⟨[],own s,[],hat,by simp,fun b hb=> ?_,fun W n b2' a' hk hn hsw=> ?_⟩
   ·obtain ⟨cells,g1,_,_⟩:=hat
    rcases g1.2 with ⟨g2,_⟩|⟨g',cap,cur,g2,_⟩ <;> (rw [g2] at hb; cases hb)
   ·cases n with
    |own et2 e2 xs2=>
     simp only [AV.swapRow] at hsw
     injection hsw with hsw
     subst hsw
     obtain ⟨v',hv',hn⟩:=hn
     injection hv' with hv'
     subst hv'
     refine ⟨?_,rfl⟩
     have e0:([]:List Nat)++(b2'++[])=b2':=by simp
     rw [e0]
     exact hn
    |hole k=>
     simp only [AV.swapRow] at hsw
     injection hsw with hsw
     subst hsw
     exact ⟨trivial,rfl⟩
    |_=>cases hsw
 |box c=>
  cases fo with
  |none=>cases hr
  |some off=>
   simp only [AV.rowAt] at hr
   obtain ⟨b,cs,bs',te,k1,k2,k3,k4⟩:=hat
   obtain ⟨v',p1,p2,p3,q1,q2,q3,q4⟩:=k3.row hr
   obtain ⟨b',_,m2,m3⟩:=hv
   have m2:tm.getD s undef=ptr b' 0:=m2
   rw [k1] at m2
   obtain ⟨rfl,_⟩:=qgR m2
   have hvv:v'=v:=by
    have:w.cell? ⟨b,off,none⟩=cs[off]? :=qhG k2 off
    have m3:w.cell? ⟨b,off,none⟩=some v:=m3
    rw [this,q1] at m3
    injection m3
   subst hvv
   have hb2:b∉p2:=fun hb=>by
    rw [k4,q3] at hnd
    exact (List.nodup_cons.1 hnd).1 (List.mem_append_right _ (List.mem_append_left _ hb))
   refine ⟨b::p1,p2,p3,q2,by rw [k4,q3]; rfl,fun b0 hb0=> ?_,fun W n b2' a' hk hn hsw=> ?_⟩
   ·rw [k1] at hb0
    obtain ⟨rfl,_⟩:=qgR hb0
    exact hb2
   ·simp only [AV.swapRow,Option.map_eq_some_iff] at hsw
    obtain ⟨c',c1,rfl⟩:=hsw
    have hin:∀x,x∈p2→x∈own s:=fun x hx=>by rw [k4,q3]; exact List.mem_cons_of_mem _ (List.mem_append_right _ (List.mem_append_left _ hx))
    refine ⟨⟨b,cs,p1++(b2'++p3),te,k1,?_,q4 n c' b2' (fun x hx hlt=>⟨hx,Nat.lt_of_lt_of_le hlt hk.size,hk.block x hlt fun hx2=>hx.2.2 s (hin x hx2)⟩) (fun x hx hlt=>hk.block x hlt fun hx2=> ?_) c1 hn,rfl⟩,rfl⟩
    ·show W.heap[b]? =_
     rw [hk.block b (Array.getElem?_eq_some_iff.1 k2).1 hb2]
     exact k2
    ·rw [k4,q3] at hnd
     have hnd:=(List.nodup_cons.1 hnd).2
     rw [List.nodup_append] at hnd
     obtain ⟨_,n2,n3⟩:=hnd
     rcases hx with hx|hx
     ·exact n3 x hx x (List.mem_append_left _ hx2) rfl
     ·rw [List.nodup_append] at n2
      exact n2.2.2 x hx2 x hx rfl
 |_=>cases hr
theorem qiz {X:Sit} {s v0 off:Nat} {u:Ty} {v:Value} {bs:List Nat} (h:qaF X (.bref s v0 off u) v bs) (hag:u.agg=false) (hv:X.ver s=v0):qfC X s (some off) v:=by
 obtain ⟨b,h1,h2,h3⟩:=h.2 hv
 refine ⟨b,h1,h2,?_⟩
 rcases h3 with ⟨h3,_⟩|⟨_,h3⟩
 ·rw [hag] at h3; cases h3
 ·exact h3
theorem q7.cells {w:World} {F:Nat→Prop} {et:Nat} {e:Ty} {xs:List e.den} {g n cap:Nat} {bs:List Nat} (h:q7 w F et e xs (.slice (some ⟨g,0,none⟩) n cap) bs):
  ∃cells:List Value,cells.length=n * e.size∧xs.length=n∧(∀j x,cells[j]? =some x→w.cell? ((⟨g,0,none⟩:Addr).add j)=some x)∧
   ∀(i:Nat) (x:e.den),xs[i]? =some x→Rep w F e x ((cells.drop (i * e.size)).take e.size):=by
 obtain ⟨cells,h1,h2,h3⟩:=h
 have hn:xs.length=n:=by
  rcases h1.2 with ⟨h4,_⟩|⟨g',cap',cur,h4,_⟩
  ·cases h4
  ·injection h4 with _ h5 _; exact h5.symm
 rw [hn] at h1
 exact ⟨cells,h1.1,hn,h1.cells rfl,h3⟩
theorem Rep.elem {w:World} {F:Nat→Prop} {n:Nat} {e:Ty} {xs:List e.den} {cs:List Value} (h:Rep w F (.arr n e) xs cs) {i:Nat} (hi:i<n):
  ∃x,xs[i]? =some x∧Rep w F e x ((cs.drop (i * e.size)).take e.size)∧i * e.size+e.size≤cs.length:=by
 obtain ⟨hl,css,hcl,rfl,hx⟩:=h
 have h1:xs[i]? =some (xs[i]'(by omega)):=List.getElem?_eq_getElem (by omega)
 have h2:css[i]? =some (css[i]'(by omega)):=List.getElem?_eq_getElem (by omega)
 obtain ⟨g1,g2⟩:=qbA (qk8 (by omega) hx) h2
 exact ⟨_,h1,by rw [g1]; exact hx i _ _ h1 h2,g2⟩
theorem qpB (hpt:qtC (sit C σ a.tmps w own)) {s off n:Nat} {v0:Option Nat} {e:Ty} {i:Int} {o2:Nat} {v:Value} (ho:qaF (sit C σ a.tmps w own) (.parr s v0 off n e i o2) v []) (hv:vOk (qt σ s).1 v0=true):
  0≤i∧i<(n:Int)∧∃b,a.tmps.getD s undef=ptr b 0∧v=ptr b (off+i.toNat * e.size+o2)∧(v0=none→C.pn s=some b):=by
 obtain ⟨_,h1,h2,h3⟩:=ho
 refine ⟨h1,h2,?_⟩
 cases v0 with
 |some v0=>
  obtain ⟨b,k1,k2⟩:=h3 (of_decide_eq_true hv)
  exact ⟨b,k1,k2,fun h=>by cases h⟩
 |none=>
  obtain ⟨b,k1,k2⟩:=h3
  exact ⟨b,hpt _ b k1,k2,fun _=>k1⟩
theorem qtp {s off n:Nat} {v0:Option Nat} {e:Ty} {i:Int} {o2 b:Nat} {v:Value} (hv:vOk (qt σ s).1 v0=true) (i0:0≤i) (i1:i<(n:Int)) (h1:a.tmps.getD s undef=ptr b 0) (h2:v=ptr b (off+i.toNat * e.size+o2)) (h3:v0=none→C.pn s=some b):
  qaF (sit C σ a.tmps w own) (.parr s v0 off n e i o2) v []∧∀m∈(AV.parr s v0 off n e i o2).mentions,m.2≤(qt σ m.1).1:=by
 cases v0 with
 |some v0=>
  refine ⟨⟨rfl,i0,i1,fun _=>⟨b,h1,h2⟩⟩,fun m hm=> ?_⟩
  simp [AV.mentions] at hm
  subst hm
  exact Nat.le_of_eq (of_decide_eq_true hv).symm
 |none=>exact ⟨⟨rfl,i0,i1,b,h3 rfl,h2⟩,fun m hm=>by cases hm⟩
theorem qud (hE:qbG E C.P) (h:qag C σ a.tmps w own) (hpt:qtC (sit C σ a.tmps w own)) {t:Nat} {x1:Op1} {p:Value} (ho:qb3 (sit C σ a.tmps w own) x1 p) {f:Eff}
  (he:(qvx E o t x1).run (qt σ)=some f) (hd:∀u∈f.upd,u.s<σ.length) (hx:(execOp a.eval o).run C.P w=((Instr.loadAt t p).run C.P w).andThen fun v w'=> .ok (.value v) w'):qdT C o a w (qr σ f.upd):=by
 unfold qvx at he
 split at he
 ·cases he
 rename_i u hu
 have hT:=hE.ty t u hu
 split at he
 ·rename_i s v0 off hb
  rw [Q.run_get] at he
  split at he
  ·rename_i hv
   split at he
   ·rename_i c hc
    obtain ⟨b,hp,rfl,_⟩:=qfn h hpt ho hb hv
    obtain ⟨b',cs,bs',te,h1,h2,h3,h4⟩:=h.box hc
    rw [hp] at h1
    obtain ⟨rfl,_⟩:=qgR h1
    have run:∀y fl,c.get off u=some (y,fl)→(execOp a.eval o).run C.P w= .ok (.value (mkV u ((cs.drop off).take u.size))) w:=fun y fl hg=>by
     obtain ⟨g1,_,_⟩:=h3.get hg
     rw [hx,show ptr b off= .pointer (some ⟨b,off,none⟩) from rfl,qgh hT (qhJ (n:=u.size) h2) (by rw [List.length_take,List.length_drop]; omega)]
     rfl
    split at he
    ·rename_i y hg
     have:=qL he
     subst this
     obtain ⟨g1,_,g3⟩:=h3.get hg
     exact qaY h (run _ _ hg) hd (.ofCells (g3 rfl))
    ·rename_i y hg
     have:=qL he
     subst this
     obtain ⟨g1,_,_⟩:=h3.get hg
     refine qK (run _ _ hg) (h.dst0 hd ⟨rfl,fun _=>⟨b,?_,hp,?_⟩⟩ (fun m hm=> ?_))
     ·show b∈own s
      rw [h4]; exact List.mem_cons_self
     ·have hl:((cs.drop off).take u.size).length=u.size:=by rw [List.length_take,List.length_drop]; omega
      cases hag:u.agg with
      |true=>exact .inl ⟨hag,_,by simp [mkV,hag],hl,qhJ h2⟩
      |false=>
       have hs:u.size=1:=by cases u <;> simp [Ty.agg] at hag <;> rfl
       refine .inr ⟨hag,?_⟩
       show w.cell? _=_
       have hlt:off<cs.length:=by omega
       rw [qhG h2,mkV,if_neg (by simp [hag]),hs,List.drop_eq_getElem_cons hlt,List.getElem?_eq_getElem hlt]
       rfl
     ·simp [AV.mentions] at hm
      subst hm
      exact Nat.le_refl _
    ·cases he
   ·cases he
  ·cases he
 ·split at he
  ·rename_i s v0 fo sz i off hxa
   rw [Q.run_get] at he
   split at he
   ·rename_i hv
    split at he
    ·rename_i et e xs hown
     split at he
     ·rename_i hsz
      subst hsz
      split at he
      ·rename_i y hs
       have:=qL he
       subst this
       obtain ⟨_,hp⟩:=hxa ▸ ho.unowned (by rw [hxa]; rfl)
       obtain ⟨g,n,cap,k1,k2,k3,rfl⟩:=hp hv
       obtain ⟨_,b1,b2,b3,hrow,_⟩:=h.rowAt hown k1
       obtain ⟨cells,g1,g2,g3,g4⟩:=hrow.cells
       have hi:i.toNat<xs.length:=by rw [g2]; omega
       have hx0:=g4 i.toNat xs[i.toNat] (List.getElem?_eq_getElem hi)
       rw [show qh xs i e.dflt=xs[i.toNat] from qgy (List.getElem?_eq_getElem hi)] at hs
       obtain ⟨q1,q2⟩:=hx0.sub hs
       refine qaY h ?_ hd (.ofCells q2)
       rw [hx,show ptr g (i.toNat * e.size+off)= .pointer (some ⟨g,i.toNat * e.size+off,none⟩) from rfl,qgh hT (cs:=(((cells.drop (i.toNat * e.size)).take e.size).drop off).take u.size) ?_ (by rw [List.length_take,List.length_drop]; omega)]
       ·rfl
       ·intro j z hj
        rw [qaK]
        rw [List.getElem?_take] at hj
        split at hj
        ·rw [List.getElem?_drop,List.getElem?_take] at hj
         split at hj
         ·rw [List.getElem?_drop] at hj
          have:=g3 _ _ hj
          rw [qaK,Nat.zero_add] at this
          rw [←this]
          congr 2
          omega
         ·cases hj
        ·cases hj
      ·cases he
     ·cases he
    ·cases he
   ·cases he
  ·rename_i t' x off hxa
   split at he
   ·rename_i y hs
    have:=qL he
    subst this
    obtain ⟨_,ad,cs,rfl,g1,g2,g3,g4⟩:=hxa ▸ ho.unowned (by rw [hxa]; rfl)
    obtain ⟨k1,k2⟩:=g4.sub hs
    refine qaY h ?_ hd (.ofCells k2)
    rw [hx,qgh hT (cs:=(cs.drop off).take u.size) ?_ (by rw [List.length_take,List.length_drop]; omega)]
    ·rfl
    ·intro j z hj
     rw [qaB]
     refine g3 _ _ ?_
     rw [List.getElem?_take] at hj
     split at hj
     ·rwa [List.getElem?_drop] at hj
     ·cases hj
   ·cases he
  ·rename_i s v0 off n e i o2 hxa
   rw [Q.run_get] at he
   split at he
   case isFalse=>cases he
   rename_i hv
   split at he
   case h_2=>cases he
   rename_i c hc
   split at he
   case h_2=>cases he
   rename_i xs hg
   split at he
   case h_2=>cases he
   rename_i y hs
   have:=qL he
   subst this
   obtain ⟨i0,i1,b,hp,rfl,_⟩:=qpB hpt (hxa ▸ ho.unowned (by rw [hxa]; rfl)) hv
   obtain ⟨b',cs,bs',te,h1,h2,h3,h4⟩:=h.box hc
   rw [hp] at h1
   obtain ⟨rfl,_⟩:=qgR h1
   obtain ⟨g1,_,g3⟩:=h3.get hg
   obtain ⟨x,k1,k2,k3⟩:=(g3 rfl).elem (i:=i.toNat) (by omega)
   rw [qgy k1] at hs
   obtain ⟨q1,q2⟩:=k2.sub hs
   have hlen:=k2.length
   refine qaY h ?_ hd (.ofCells q2)
   rw [hx,show ptr b (off+i.toNat * e.size+o2)= .pointer (some ⟨b,off+i.toNat * e.size+o2,none⟩) from rfl,qgh hT (cs:=((((((cs.drop off).take (Ty.arr n e).size).drop (i.toNat * e.size)).take e.size).drop o2).take u.size)) ?_ (by rw [List.length_take,List.length_drop]; omega)]
   ·rfl
   ·intro j z hj
    rw [qaK,qhG h2]
    rw [List.getElem?_take] at hj
    split at hj
    case isFalse=>cases hj
    rw [List.getElem?_drop,List.getElem?_take] at hj
    split at hj
    case isFalse=>cases hj
    rw [List.getElem?_drop,List.getElem?_take] at hj
    split at hj
    case isFalse=>cases hj
    rw [List.getElem?_drop] at hj
    rw [←hj]
    congr 1
    omega
  ·cases he
end
end Go.Vi
