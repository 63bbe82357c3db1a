/- The abstract interpreter: maps of the call's own. -/
import Derived.Test.YtfcdfdnlgfebmaaGreatDoorViClo
import Derived.MapKept
set_option linter.unusedVariables false
set_option linter.unusedSimpArgs false
set_option linter.unnecessarySimpa false
set_option linter.unusedSectionVars false
namespace Go.Vi
open Go.RowKit
theorem qtZ:(k:Ty)→k.key=true→ {x y:k.den} →keyV k x=keyV k y→x=y
 | .int _,_,x,y,h=>by simp [keyV] at h; exact h
 | .bool,_,x,y,h=>by simp [keyV] at h; exact h
 | .str,_,x,y,h=>by simpa [keyV] using h
theorem qea: {k:Ty} → {d:TypeDesc} →qj6 k d=true→(x:k.den)→MapKept.IsKey d (keyV k x)
 | .int k,.int k',h,_=>by
  have:k'=k:=of_decide_eq_true h
  exact this.symm
 | .bool,.bool,_,_=>trivial
 | .str,.string,_,_=>trivial
theorem qgB: {k:Ty} → {d:TypeDesc} →qj6 k d=true→k.key=true
 | .int _,.int _,_=>rfl
 | .bool,.bool,_=>rfl
 | .str,.string,_=>rfl
theorem qaq.keyV {w:World} {F:Nat→Prop} : {k:Ty} →k.key=true→ {x:k.den} → {v:Value} →qaq w F k x v→v=Vi.keyV k x
 | .int _,_,_,_,h=>h.int.1
 | .bool,_,_,_,h=>h.bool
 | .str,_,_,_,h=>h.str.1
section
open Classical
theorem quu {α β:Type} (k:α):qfr ([]:List (α×β)) k=0:=rfl
theorem qtu {α β:Type} (p:α×β) (xs:List (α×β)) (k:α):qfr (p::xs) k=if p.1=k then 0 else qfr xs k+1:=by
 unfold qfr
 rw [List.findIdx_cons]
 by_cases h:p.1=k
 ·simp [h]
 ·simp [h]
end
theorem qvz {α β:Type} {xs:List (α×β)} {k:α} (h:qfr xs k<xs.length):(xs[qfr xs k]'h).1=k:=by
 unfold qfr at h⊢
 have:=List.findIdx_getElem (w:=h)
 simpa using this
theorem qqI {k:Ty} {d:TypeDesc} (hd:qj6 k d=true) {β:Type} (x:k.den):∀(xs:List (k.den×β)) (l:List MapEntry) (i:Nat),l.length=xs.length→(∀(j:Nat) (e:MapEntry) (p:k.den×β),l[j]? =some e→xs[j]? =some p→e.key=keyV k p.1)→
  (qfr xs x<xs.length∧∃e,l[qfr xs x]? =some e∧Instr.findNow d (keyV k x) l i=some (some (i+qfr xs x,e.val)))∨(¬qfr xs x<xs.length∧Instr.findNow d (keyV k x) l i=some none)
 |[],[],i,_,_=> .inr ⟨by simp [quu],rfl⟩
 |p::xs,e::l,i,hl,h=>by
  have hk:e.key=keyV k p.1:=h 0 e p rfl rfl
  obtain ⟨r,hr,hiff⟩:=MapKept.sameNow_of_keys (qea hd x) (by rw [hk]; exact qea hd p.1:MapKept.IsKey d e.key)
  rw [qtu]
  by_cases hpx:p.1=x
  ·have hr1:r=true:=hiff.2 (by rw [hk,hpx])
   subst hr1
   rw [if_pos hpx]
   exact .inl ⟨by simp,e,rfl,by simp [Instr.findNow,hr]⟩
  ·have hr1:r=false:=by
    cases r with
    |false=>rfl
    |true=>exact absurd (qtZ k (qgB hd) (by rw [←hk]; exact (hiff.1 rfl).symm)) hpx
   subst hr1
   rw [if_neg hpx]
   rcases qqI hd x xs l (i+1) (by simpa using hl) (fun j e p he hp=>h (j+1) e p (by simpa using he) (by simpa using hp)) with ⟨h1,e',h2,h3⟩|⟨h1,h2⟩
   ·refine .inl ⟨by simpa using h1,e',by simpa using h2,?_⟩
    simp [Instr.findNow,hr,h3]
    omega
   ·exact .inr ⟨by simpa using h1,by simp [Instr.findNow,hr,h2]⟩
section
variable {C:Ctx} {E:Env} {σ:St} {tm:Array Value} {a:Act} {w w':World} {own:Nat→List Nat} {o:Oper} {p:qhl} [Tabbed E C]
theorem mapOf_ok (h:qag C σ a.tmps w own) {o1:Op1} {v:Value} (ho:qb3 (sit C σ a.tmps w own) o1 v) {M:MV} (he:(qrD o1).run (qt σ)=some M):
  (qt σ M.s).2= .mp M.k M.v M.xs∨(o1.s=some M.s∧o1.a= .mp M.k M.v M.xs):=by
 unfold qrD at he
 split at he
 ·rename_i s k v xs h1 h2
  have:=Q.ret_some he
  subst this
  exact .inr ⟨h1,h2⟩
 ·rename_i s v0 h2
  rw [Q.run_get] at he
  split at he
  ·split at he
   ·rename_i k v xs hx
    have:=Q.ret_some he
    subst this
    exact .inl hx
   ·cases he
  ·cases he
 ·cases he
theorem qoI (h:qag C σ a.tmps w own) {x:Operand} {o1:Op1} {tid:Nat} (hp:qbL (sit C σ a.tmps w own) p) (hx:(opd E p tid x).run (qt σ)=some o1) {M:MV} (he:(qrD o1).run (qt σ)=some M):
  M.s<σ.length∧(qt σ M.s).2= .mp M.k M.v M.xs∧a.tmps.getD M.s undef=a.eval x∧qjg w (C.free w own) M.k M.v M.xs (a.eval x) (own M.s):=by
 have ho:=qaE h hp hx
 have lt:∀s,(qt σ s).2= .mp M.k M.v M.xs→s<σ.length:=fun s hs=>by
  apply Classical.byContradiction
  intro hn
  have:qt σ s=(0,.undef):=by simp [qt,List.getD,List.getElem?_eq_none (Nat.le_of_not_lt hn)]
  rw [this] at hs
  cases hs
 unfold qrD at he
 split at he
 ·rename_i s k v xs h1 h2
  have:=Q.ret_some he
  subst this
  have hgs:(qt σ s).2= .mp k v xs∨∃s' v' w' a',(qt σ s).2= .grd s' v' w' a':=by
   unfold opd at hx
   split at hx
   ·rename_i t
    rw [Q.run_get] at hx
    have:=Q.ret_some hx
    subst this
    simp only at h1 h2
    injection h1 with h1
    subst h1
    generalize hg:(qt σ t).2=g at h2
    cases g with
    |grd s' v' w' a'=>exact .inr ⟨s',v',w',a',rfl⟩
    |_=>left; unfold qbM at h2; exact h2
   ·split at hx
    ·have:=Q.ret_some hx
     subst this
     cases h1
    ·cases hx
   ·have:=Q.ret_some hx
    subst this
    cases h1
   ·split at hx
    ·have:=Q.ret_some hx
     subst this
     cases h1
    ·cases hx
  unfold qb3 at ho
  rw [h1,h2] at ho
  obtain ⟨e1,e2,e3⟩:=ho
  rcases hgs with hgs|⟨s',v',w',a',hgs⟩
  ·exact ⟨lt s hgs,hgs,e1.symm,e3⟩
  ·have hat:=h.at_ s
   rw [hgs] at hat
   have hn:own s=[]:=hat.1
   obtain ⟨b,es,_,hb,_⟩:=e3
   have hb:own s=[b]:=hb
   rw [hn] at hb
   cases hb
 ·rename_i s v0 h2
  rw [Q.run_get] at he
  split at he
  ·rename_i hv
   split at he
   ·rename_i k v xs hm
    have:=Q.ret_some he
    subst this
    have hu:=ho.unowned (by rw [h2]; rfl)
    rw [h2] at hu
    have e1:a.tmps.getD s undef=a.eval x:=hu.2 hv
    have hat:=h.at_ s
    rw [hm,e1] at hat
    exact ⟨lt s hm,hm,e1,hat⟩
   ·cases he
  ·cases he
 ·cases he
theorem quY (h:qag C σ a.tmps w own) {k:Ty} (hk:k.key=true) {o1:Op1} {v:Value} {q:k.den×List Nat} (ho:qb3 (sit C σ a.tmps w own) o1 v) (he:(toVal k o1).run (qt σ)=some q):v=keyV k q.1:=
 (qcS h ho he).keyV hk
theorem qoD (hE:qbG E C.P) (h:qag C σ a.tmps w own) {t:Nat} {r:Option Operand} (hop:o.op= .makeMap t r) {f:Eff}
  (he:(qee E p o).run (qt σ)=some f) (hd:∀u∈f.upd,u.s<σ.length):qdT C o a w (qr σ f.upd):=by
 unfold qee at he
 rw [hop] at he
 simp only at he
 split at he
 case isFalse=>cases he
 rename_i hr
 cases r with
 |some _=>cases hr
 |none=>
  unfold qqG at he
  split at he
  ·rename_i k v hty
   have:=qL he
   subst this
   obtain ⟨kn,vn,d,i,z,h1,h2,h3,_⟩:=hE.map t k v hty
   refine qK (v:= .map (some w.heap.size)) (w':=w.alloc (.map #[] 0)) ?_ (h.dst (bs:=[w.heap.size]) (qcx.alloc _ w _) hd (fun b hb=> ?_) (by simp) ?_ (fun m hm=>by cases hm))
   ·unfold execOp
    rw [hop]
    simp [Instr.makeMap]
   ·simp at hb
    subst hb
    exact ⟨Nat.le_refl _,by simp⟩
   ·refine ⟨w.heap.size,#[],rfl,rfl,?_,rfl,qgB h3,fun i e p hi _=>by simp at hi⟩
    exact (MapKept.heap_alloc w _).1
  ·cases he
theorem qjg.look {F:Nat→Prop} {k t:Ty} {xs:List (k.den×t.den)} {v:Value} {bs:List Nat} (h:qjg w F k t xs v bs) {d:TypeDesc} (hd:qj6 k d=true) (x:k.den):
  ∃b es,v= .map (some b)∧bs=[b]∧w.heap[b]? =some (.map es es.size)∧es.size=xs.length∧
   ((quI xs x=false∧(∀dd,qhn xs x dd=dd)∧Instr.findNow d (keyV k x) es.toList 0=some none)∨
    ∃e q,quI xs x=true∧(∀dd,qhn xs x dd=q.2)∧es[qfr xs x]? =some e∧xs[qfr xs x]? =some q∧e.key=keyV k x∧qaq w F t q.2 e.val∧Instr.findNow d (keyV k x) es.toList 0=some (some (qfr xs x,e.val))):=by
 obtain ⟨b,es,h1,h2,h3,h4,h5,h6⟩:=h
 refine ⟨b,es,h1,h2,h3,h4,?_⟩
 rcases qqI hd x xs es.toList 0 (by simpa using h4) (fun j e p he hp=>(h6 j e p (by simpa using he) hp).1) with ⟨g1,e,g2,g3⟩|⟨g1,g2⟩
 ·right
  have hq:=List.getElem?_eq_getElem g1
  have he:es[qfr xs x]? =some e:=by simpa using g2
  refine ⟨e,xs[qfr xs x],by rw [qk9]; simp [g1],fun dd=>by rw [qjQ,hq]; rfl,he,hq,?_,(h6 _ e _ he hq).2.2,by simpa using g3⟩
  rw [(h6 _ e _ he hq).1]
  congr 1
  exact qvz g1
 ·left
  refine ⟨by rw [qk9]; simp [g1],fun dd=> ?_,g2⟩
  rw [qjQ,List.getElem?_eq_none (by omega)]
  rfl
theorem qpX (hE:qbG E C.P) (h:qag C σ a.tmps w own) (hp:qbL (sit C σ a.tmps w own) p) {t:Nat} {m k:Operand} {ok:Bool} (hop:o.op= .lookup t m k ok) {f:Eff}
  (he:(qee E p o).run (qt σ)=some f) (hd:∀u∈f.upd,u.s<σ.length):qdT C o a w (qr σ f.upd):=by
 unfold qee at he
 rw [hop] at he
 simp only at he
 obtain ⟨m1,g1,he⟩:=Q.bind_some he
 obtain ⟨k1,g2,he⟩:=Q.bind_some he
 unfold qtd at he
 obtain ⟨M,g3,he⟩:=Q.bind_some he
 obtain ⟨q,g4,he⟩:=Q.bind_some he
 split at he
 case isFalse=>cases he
 rename_i hty
 obtain ⟨kn,vn,d,i,z,e1,e2,e3,e4,e5,e6⟩:=hE.map t M.k M.v hty
 obtain ⟨hlt,hgs,htm,hrep⟩:=qoI h hp g1 g3
 have hkv:=quY h (qgB e3) (qaE h hp g2) g4
 obtain ⟨b,es,r1,r2,r3,r4,r5⟩:=hrep.look e3 q.1
 obtain ⟨v,hv,hrun⟩:∃v,qaq w (C.free w own) M.v (qhn M.xs q.1 M.v.dflt) v∧∀cok,(Instr.lookup t (.map (some b)) (keyV M.k q.1) cok).run C.P w= .ok (if cok then .tuple #[v,.bool (quI M.xs q.1)] else v) w:=by
  rcases r5 with ⟨s1,s2,s3⟩|⟨e,qq,s1,s2,s3,s4,s5,s6,s7⟩
  ·refine ⟨z,by rw [s2]; exact e6 _ _,fun cok=> ?_⟩
   simp [Instr.lookup,run_underlying e1,MapKept.run_getObj_map r3,MapKept.run_checkKey e2 (qea e3 q.1),MapKept.run_findKey e2 s3,zeroValue,typeInfo,e4,e5,s1]
  ·refine ⟨e.val,by rw [s2]; exact s6,fun cok=> ?_⟩
   simp [Instr.lookup,run_underlying e1,MapKept.run_getObj_map r3,MapKept.run_checkKey e2 (qea e3 q.1),MapKept.run_findKey e2 s7,s1]
 have hex:(execOp a.eval o).run C.P w= .ok (.value (if ok then .tuple #[v,.bool (quI M.xs q.1)] else v)) w:=by
  unfold execOp
  rw [hop]
  simp only [Sem.run_bind,r1,hkv,hrun ok,Result.andThen_ok]
  rfl
 split at he
 ·have:=qL he
  subst this
  exact qaY h hex hd hv
 ·have:=qL he
  subst this
  refine qK hex (h.dst0 hd ?_ (fun m hm=>by cases hm))
  exact ⟨[v,.bool (quI M.xs q.1)],rfl,v,_,[],[],rfl,rfl,⟨rfl,hv⟩,_,[],[],[],rfl,rfl,⟨rfl,qaq.ofBool _ _ _⟩,rfl,rfl⟩
theorem qag.mapTurn (h:qag C σ tm w own) {s b:Nat} {k t:Ty} {xs ys:List (k.den×t.den)} {es es':Array MapEntry} (hs:s<σ.length) (hgs:(qt σ s).2= .mp k t xs) (hown:own s=[b]) (htm:tm.getD s undef= .map (some b))
  (hb:w.heap[b]? =some (.map es es.size)) (hk:k.key=true) (hsz:es'.size=ys.length)
  (hx:∀(i:Nat) (e:MapEntry) (p:k.den×t.den),es'[i]? =some e→ys[i]? =some p→e.key=keyV k p.1∧e.born=i∧qaq w (C.free w own) t p.2 e.val):
  qag C (qr σ [⟨s,false,.mp k t ys⟩]) tm { w with heap:=w.heap.setIfInBounds b (.map es' es'.size) } own:=by
 obtain ⟨hh1,hh2⟩:=MapKept.heap_set (o':= .map es' es'.size) hb
 have hsz':({ w with heap:=w.heap.setIfInBounds b (.map es' es'.size) } :World).heap.size=w.heap.size:=by simp
 have eS:qt (qr σ [⟨s,false,.mp k t ys⟩]) s=((qt σ s).1,.mp k t ys):=qM σ ⟨s,false,_⟩ hs
 have eN:∀x,x≠s→qt (qr σ [⟨s,false,.mp k t ys⟩]) x=qt σ x:=fun x hx=>qv σ ⟨s,false,_⟩ hx
 have hfree:∀x,C.free w own x→x<w.heap.size→C.free { w with heap:=w.heap.setIfInBounds b (.map es' es'.size) } own x∧x<({ w with heap:=w.heap.setIfInBounds b (.map es' es'.size) } :World).heap.size∧({ w with heap:=w.heap.setIfInBounds b (.map es' es'.size) } :World).heap[x]? =w.heap[x]? :=fun x hx hlt=>
  ⟨⟨hx.1,by rw [hsz']; exact hlt,hx.2.2⟩,by rw [hsz']; exact hlt,hh2 x fun e=>hx.2.2 s (by rw [hown,e]; simp)⟩
 refine h.update (fun x=>x=s) (qF _ _) rfl (fun x hx=>⟨eN x hx,rfl,rfl⟩) (fun x hx=> ?_) ?_ (fun x hx=>hx ▸ hs) (fun x hx=> ?_) (fun x x' b' hx hx' _ _=>hx.trans hx'.symm) (fun x hx=> ?_) (fun x hx m hm=> ?_)
 ·subst hx
  right
  refine ⟨by rw [eS],rfl,fun b' _ hp=> ?_⟩
  rw [htm] at hp
  cases hp
 ·refine ⟨rfl,rfl,rfl,Nat.le_of_eq hsz'.symm,fun x hlt hn=>hh2 x fun e=>hn ⟨s,rfl,by rw [hown,e]; simp⟩⟩
 ·subst hx
  exact ⟨fun b' hb'=> .inr ⟨x,rfl,hb'⟩,h.nodup x⟩
 ·subst hx
  rw [eS]
  refine ⟨b,es',htm,hown,hh1,hsz,hk,fun i e p hi hpp=> ?_⟩
  obtain ⟨q1,q2,q3⟩:=hx i e p hi hpp
  exact ⟨q1,q2,q3.1.keep hfree,q3.2⟩
 ·subst hx
  rw [eS] at hm
  cases hm
theorem qqU {es:Array MapEntry} {i j:Nat} {g:MapEntry→MapEntry} {e:MapEntry} (h:(es.modify i g)[j]? =some e):∃e0,es[j]? =some e0∧e=if i=j then g e0 else e0:=by
 rw [Array.getElem?_modify] at h
 split at h
 ·rename_i hij
  cases he:es[j]? with
  |none=>rw [he] at h; cases h
  |some e0=>
   rw [he] at h
   injection h with h
   exact ⟨e0,rfl,by rw [if_pos hij]; exact h.symm⟩
 ·rename_i hij
  exact ⟨e,h,by rw [if_neg hij]⟩
theorem qmv (hE:qbG E C.P) (h:qag C σ a.tmps w own) (hp:qbL (sit C σ a.tmps w own) p) {t:Nat} {m k x:Operand} (hop:o.op= .mapUpdate t m k x) {f:Eff}
  (he:(qee E p o).run (qt σ)=some f) (hd:∀u∈f.upd,u.s<σ.length):qdT C o a w (qr σ f.upd):=by
 unfold qee at he
 rw [hop] at he
 simp only at he
 split at he
 ·cases he
 rename_i hdst
 obtain ⟨m1,g1,he⟩:=Q.bind_some he
 obtain ⟨k1,g2,he⟩:=Q.bind_some he
 obtain ⟨x1,g2',he⟩:=Q.bind_some he
 unfold qmS at he
 obtain ⟨M,g3,he⟩:=Q.bind_some he
 obtain ⟨q,g4,he⟩:=Q.bind_some he
 obtain ⟨r,g5,he⟩:=Q.bind_some he
 split at he
 case isFalse=>cases he
 rename_i hcond
 obtain ⟨hty,hns⟩:=hcond
 obtain ⟨fz,g6,he⟩:=Q.bind_some he
 have:=qL he
 subst this
 obtain ⟨kn,vn,d,i,z,e1,e2,e3,e4,e5,e6⟩:=hE.map t M.k M.v hty
 obtain ⟨hlt,hgs,htm,hrep⟩:=qoI h hp g1 g3
 have hkv:=quY h (qgB e3) (qaE h hp g2) g4
 have hxv:=qcS h (qaE h hp g2') g5
 obtain ⟨σ1,own1,hst,hσ1,hl1,hown1,hgs1,hrx,hfr⟩:∃σ1 own1,qag C σ1 a.tmps w own1∧σ1=qr σ fz∧σ1.length=σ.length∧own1 M.s=own M.s∧(qt σ1 M.s).2= .mp M.k M.v M.xs∧qaq w (C.free w own1) M.v r.1 (a.eval x)∧(∀b,C.free w own b→C.free w own1 b):=by
  by_cases hf:M.v.flat=true
  ·rw [if_pos hf] at g6
   have:=Q.ret_some g6
   subst this
   exact ⟨σ,own,h,rfl,rfl,rfl,hgs,hxv.flat hf,fun _ hb=>hb⟩
  ·rw [if_neg hf] at g6
   obtain ⟨own',q1,q2,q3,q4⟩:=qcC r.2 h g6
   exact ⟨qr σ fz,own',q1,rfl,qF _ _,(q3 _ hns).1,by rw [(q3 _ hns).2]; exact hgs,hxv.mono fun b hb _=>q4 b hb,fun b hb=>q4 b (.inl hb)⟩
 rw [qbF,←hσ1]
 have hrep1:qjg w (C.free w own1) M.k M.v M.xs (a.eval m) (own1 M.s):=by
  have:=hst.at_ M.s
  rw [hgs1] at this
  have h2:a.tmps.getD M.s undef=a.eval m:=htm
  rw [h2] at this
  exact this
 obtain ⟨b,es,r1,r2,r3,r4,r5⟩:=hrep1.look e3 q.1
 obtain ⟨b',es',r1',r2',r3',r4',r5',r6'⟩:=hrep1
 have hbb:b'=b:=by rw [r1] at r1'; injection r1' with r1'; injection r1' with r1'; exact r1'.symm
 subst hbb
 have hee:es'=es:=by rw [r3] at r3'; injection r3' with r3'; injection r3' with r3' _; exact r3'.symm
 subst hee
 have htm':a.tmps.getD M.s undef= .map (some b'):=by rw [htm]; exact r1
 have put0:∀w2,qag C (qr σ1 [⟨M.s,false,.mp M.k M.v (qmh M.xs q.1 r.1)⟩]) a.tmps w2 own1→∃own',qag C (qr σ1 [⟨M.s,false,.mp M.k M.v (qmh M.xs q.1 r.1)⟩]) (a.put o.dst undef).tmps w2 own':=fun w2 hh=>by
  have:o.dst=none:=by cases ho:o.dst <;> simp [ho] at hdst⊢
  rw [this]
  exact ⟨own1,hh⟩
 rcases r5 with ⟨s1,s2,s3⟩|⟨e,qq,s1,s2,s3,s4,s5,s6,s7⟩
 ·have hn:¬qfr M.xs q.1<M.xs.length:=by rw [qk9] at s1; simpa using s1
  have hput:qmh M.xs q.1 r.1=M.xs++[(q.1,r.1)]:=by rw [qjN,if_neg hn]
  refine qhS (w':= { w with heap:=w.heap.setIfInBounds b' (.map (es'.push { key:=keyV M.k q.1,val:=a.eval x,born:=es'.size }) (es'.push { key:=keyV M.k q.1,val:=a.eval x,born:=es'.size }).size) }) ?_ (put0 _ ?_)
  ·unfold execOp
   rw [hop]
   simp [r1,hkv,Instr.mapUpdate,run_underlying e1,MapKept.run_getObj_map r3,MapKept.run_checkKey e2 (qea e3 q.1),MapKept.run_findKey e2 s3,MapKept.run_setObj_map _ r3]
  ·rw [hput]
   refine hst.mapTurn (by rw [hl1]; exact hlt) hgs1 r2 htm' r3 r5' (by simp [r4]) (fun j ee pp hj hpp=> ?_)
   rw [Array.getElem?_push] at hj
   split at hj
   ·rename_i hjs
    injection hj with hj
    subst hj
    rw [hjs,r4,List.getElem?_append_right (Nat.le_refl _)] at hpp
    simp at hpp
    subst hpp
    exact ⟨rfl,hjs.symm,hrx⟩
   ·rename_i hjs
    have hjl:j<es'.size:=(Array.getElem?_eq_some_iff.1 hj).1
    rw [List.getElem?_append_left (by omega)] at hpp
    exact r6' j ee pp hj hpp
 ·have hn:qfr M.xs q.1<M.xs.length:=by rw [qk9] at s1; simpa using s1
  have hput:qmh M.xs q.1 r.1=M.xs.set (qfr M.xs q.1) (qq.1,r.1):=by rw [qjN,if_pos hn,qp5,s4]
  refine qhS (w':= { w with heap:=w.heap.setIfInBounds b' (.map (es'.modify (qfr M.xs q.1) fun e=> { e with key:=keyV M.k q.1,val:=a.eval x }) (es'.modify (qfr M.xs q.1) fun e=> { e with key:=keyV M.k q.1,val:=a.eval x }).size) }) ?_ (put0 _ ?_)
  ·unfold execOp
   rw [hop]
   simp [r1,hkv,Instr.mapUpdate,run_underlying e1,MapKept.run_getObj_map r3,MapKept.run_checkKey e2 (qea e3 q.1),MapKept.run_findKey e2 s7,s3,s5,MapKept.run_keyThatStays (qea e3 q.1),MapKept.run_setObj_map _ r3]
  ·rw [hput]
   refine hst.mapTurn (by rw [hl1]; exact hlt) hgs1 r2 htm' r3 r5' (by simp [r4]) (fun j ee pp hj hpp=> ?_)
   obtain ⟨e0,hj2,rfl⟩:=qqU hj
   by_cases hij:qfr M.xs q.1=j
   ·subst hij
    rw [List.getElem?_set_self hn] at hpp
    injection hpp with hpp
    subst hpp
    rw [s3] at hj2
    injection hj2 with hj2
    subst hj2
    rw [if_pos rfl]
    obtain ⟨t1,t2,t3⟩:=r6' _ _ _ s3 s4
    exact ⟨by rw [←t1]; exact s5.symm,t2,hrx⟩
   ·rw [if_neg hij]
    rw [List.getElem?_set_ne hij] at hpp
    exact r6' j e0 pp hj2 hpp
end
end Go.Vi
