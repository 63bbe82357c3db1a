/- The abstract interpreter: the operations' runs. -/
import Derived.Test.YtfcdfdnlgfebmaaGreatDoorViStep
import Derived.Laws.CopyRow
import Derived.Laws.StructEq
set_option linter.unusedVariables false
set_option linter.unusedSimpArgs false
set_option linter.unnecessarySimpa false
set_option linter.unusedSectionVars false
namespace Go.Vi
open Go.RowKit
structure TyB (P:Program) (t:Nat) (u:Ty):Prop where
 info:∃i,P.info? t=some i∧i.size=u.size
 desc:∃d,P.underlying t=some d∧(match d with| .struct _=>true| .array _ _=>true|_=>false)=u.agg
structure ElemB (P:Program) (E:Env) (t:Nat) (e:Ty):Prop where
 under:P.underlying t=some (.slice (E.etid t))
 info:∃i z,P.info? (E.etid t)=some i∧i.size=e.size∧i.zero=some z∧z.cells.size=e.size∧i.bytes=E.bytes (E.etid t)
 notInt:∀k,P.underlying t≠some (.int k)
section
variable {P:Program} {w:World}
theorem TyB.run_isAgg {t:Nat} {u:Ty} (h:TyB P t u):(isAgg t).run P w= .ok u.agg w:=by
 obtain ⟨d,h1,h2⟩:=h.desc
 simp only [isAgg,Sem.run_bind,run_underlying h1,Result.andThen_ok]
 rw [←h2]
 cases d <;> rfl
theorem TyB.run_sizeOf {t:Nat} {u:Ty} (h:TyB P t u):(sizeOf t).run P w= .ok u.size w:=by
 obtain ⟨i,h1,h2⟩:=h.info
 simp [sizeOf,typeInfo,h1,h2]
theorem qgh {t:Nat} {u:Ty} (h:TyB P t u) {a:Addr} {cs:List Value} (hc:qgJ w a cs) (hl:cs.length=u.size):(Instr.loadAt t (.pointer (some a))).run P w= .ok (mkV u cs) w:=by
 simp only [Instr.loadAt,Instr.sureAddr,loadVar,Sem.run_bind,Sem.run_pure,Result.andThen_ok,h.run_isAgg]
 cases hu:u.agg with
 |true=>
  simp only [if_true,Sem.run_bind,h.run_sizeOf,Result.andThen_ok]
  rw [←hl,run_loadCells_list w a cs hc]
  simp [mkV,hu]
 |false=>
  have hs:u.size=1:=by cases u <;> simp [Ty.agg] at hu <;> rfl
  simp only [Bool.false_eq_true,if_false]
  match cs,hl.trans hs with
  |[v],_=>
   have hv:=hc 0 v rfl
   have:a.add 0=a:=by simp [Addr.add]
   rw [this] at hv
   simp [run_load,hv,mkV,hu]
theorem Rep.oneCell {F:Nat→Prop} : {t:Ty} → {x:t.den} → {cs:List Value} →Rep w F t x cs→∀v∈cs,v.oneCell'=true
 | .int _,_,_,h,v,hv=>by rw [h.1] at hv; simp at hv; subst hv; rfl
 | .bool,_,_,h,v,hv=>by rw [show _=_ from h] at hv; simp at hv; subst hv; rfl
 | .str,_,_,h,v,hv=>by rw [h.1] at hv; simp at hv; subst hv; rfl
 | .err,_,_,⟨u,hc,h⟩,v,hv=>by
  rw [hc] at hv; simp at hv; subst hv
  rcases h with ⟨_,rfl⟩|⟨_,t,x,rfl⟩ <;> rfl
 | .opt e,_,_,⟨u,hc,h⟩,v,hv=>by
  rw [hc] at hv; simp at hv; subst hv
  rcases h with ⟨_,rfl⟩|⟨_,_,_,_,rfl,_⟩ <;> rfl
 | .map _ _,_,_,h,_,_=>h.elim
 | .unit,_,_,h,v,hv=>by rw [show _=_ from h] at hv; cases hv
 | .pair a b,_,_,⟨c1,c2,hc,h1,h2⟩,v,hv=>by
  rw [hc] at hv
  rcases List.mem_append.1 hv with hv|hv
  ·exact h1.oneCell v hv
  ·exact h2.oneCell v hv
 | .slice e,_,_,⟨u,hc,h⟩,v,hv=>by
  rw [hc] at hv; simp at hv; subst hv
  rcases h with ⟨rfl,_⟩|⟨a,cap,rfl,_⟩ <;> rfl
 | .arr n e,_,_,⟨hl,css,hcl,hc,hx⟩,v,hv=>by
  rw [hc] at hv
  obtain ⟨c,hcm,hvc⟩:=List.mem_flatten.1 hv
  obtain ⟨i,hi,rfl⟩:=List.getElem_of_mem hcm
  exact (hx i _ _ (List.getElem?_eq_getElem (by omega)) (List.getElem?_eq_getElem hi)).oneCell v hvc
theorem q7.oneCell {F:Nat→Prop} {et:Nat} {e:Ty} {xs:List e.den} {v:Value} {bs:List Nat} (h:q7 w F et e xs v bs):v.oneCell'=true:=by
 obtain ⟨cells,ho,_⟩:=h
 rcases ho.2 with ⟨rfl,_⟩|⟨g,cap,cur,rfl,_⟩ <;> rfl
theorem qiA {t:Nat} {u:Ty} (h:TyB P t u) {b off:Nat} {v:Value} {cur:Array Value} {te:Nat} (hg:w.heap[b]? =some (.cells cur te (0,0))) (hl:v.cells.toList.length=u.size) (hfit:off+u.size≤cur.size)
  (h1:∀x∈v.cells.toList,x.oneCell'=true):(Instr.storeAt t (ptr b off) v).run P w= .ok () (w.setRow b (cur.toList.take off++v.cells.toList++cur.toList.drop (off+u.size)).toArray):=by
 have hst:=run_storeCells_at P b off te v.cells.toList 0 cur w hg (by rw [hl]; simpa using hfit) h1
 rw [Array.length_toList] at hl
 simp only [Instr.storeAt,Instr.sureAddr,ptr,storeVar,Sem.run_bind,Sem.run_pure,Result.andThen_ok,h.run_sizeOf,hl,ne_eq,not_true_eq_false,if_false]
 rw [hst]
 simp [hl]
end
section
variable {C:Ctx} {E:Env} {σ:St} {tm:Array Value} {a:Act} {w w':World} {own:Nat→List Nat} {o:Oper} [Tabbed E C]
def qus (o:Oper) (a a':Act):Prop:=a'.defers=a.defers∧∀s,o.dst≠some s→a'.tmps.getD s undef=a.tmps.getD s undef
theorem qhw (o:Oper) (a:Act) (v:Value):qus o a (a.put o.dst v):=by
 unfold qus Act.put
 cases hd:o.dst with
 |none=>exact ⟨rfl,fun _ _=>rfl⟩
 |some d=>exact ⟨rfl,fun s hs=>qb1 _ _ fun e=>hs (by rw [e])⟩
def qdT (C:Ctx) (o:Oper) (a:Act) (w:World) (τ:St):Prop:=
 ∀(K:Act→World→Prop) (Q:Exit→Act→World→Prop),(∀a' w' own',qus o a a'→qag C τ a'.tmps w' own'→K a' w')→o.wp C.P a w K Q
theorem qK {v:Value} {τ:St} (hr:(execOp a.eval o).run C.P w= .ok (.value v) w') (h:∃own',qag C τ (a.put o.dst v).tmps w' own'):qdT C o a w τ:=by
 intro K Q hK
 obtain ⟨own',h⟩:=h
 unfold Oper.wp
 rw [hr]
 exact hK _ _ own' (qhw o a v) h
theorem qag.dst (h:qag C σ a.tmps w own) (hk:qcx (fun _=>False) w w') {av:AV} {v:Value} {bs:List Nat} (hd:∀u∈qbV o av,u.s<σ.length) (hb:∀b∈bs,w.heap.size≤b∧b<w'.heap.size) (hn:bs.Nodup)
  (hr:qaF (after C σ a.tmps w w' own bs) av v bs) (hw:∀m∈av.mentions,m.2≤(qt σ m.1).1):∃own',qag C (qr σ (qbV o av)) (a.put o.dst v).tmps w' own':=by
 unfold qbV at *
 cases hdst:o.dst with
 |none=>exact ⟨own,h.world hk⟩
 |some d=>
  rw [hdst] at hd
  exact ⟨_,h.set (d:=d) hk (hd ⟨d,true,av⟩ (by simp)) hb hn hr hw⟩
theorem qag.dst0 (h:qag C σ a.tmps w own) {av:AV} {v:Value} (hd:∀u∈qbV o av,u.s<σ.length) (hr:qaF (sit C σ a.tmps w own) av v []) (hw:∀m∈av.mentions,m.2≤(qt σ m.1).1):
  ∃own',qag C (qr σ (qbV o av)) (a.put o.dst v).tmps w own':=
 h.dst (qcx.refl _ _) hd (fun b hb=>by cases hb) List.nodup_nil
  (qaF.keep (X:=sit C σ a.tmps w own) (X':=after C σ a.tmps w w own []) ⟨rfl,rfl⟩ (fun b hb hlt=>⟨⟨.inl hb,hlt,by simp⟩,hlt,rfl⟩) (fun b hb=>by cases hb) (fun m _ hv=>⟨hv,rfl,fun b hb _=>⟨hb,rfl⟩⟩) hr) hw
theorem qaq.valAV (X:Sit) {t:Ty} {x:t.den} {v:Value} (h:qaq X.w X.F t x v):qaF X (.val t x) v []:=⟨rfl,h⟩
theorem qaY (h:qag C σ a.tmps w own) {t:Ty} {x:t.den} {v:Value} (hr:(execOp a.eval o).run C.P w= .ok (.value v) w) (hd:∀u∈qbV o (.val t x),u.s<σ.length) (hv:qaq w (C.free w own) t x v):qdT C o a w (qr σ (qbV o (.val t x))):=
 qK hr (h.dst0 hd ⟨rfl,hv⟩ (fun m hm=>by cases hm))
theorem qit (p:qhl):(a:AV)→∀m∈(qbM p a).mentions,m∈a.mentions
 | .grd s v w a,m,hm=>by
  unfold qbM at hm
  split at hm
  ·exact List.mem_cons_of_mem _ (qit p a m hm)
  ·cases hm
 | .undef,_,h=>by unfold qbM at h; exact h
 | .val _ _,_,h=>by unfold qbM at h; exact h
 | .own _ _ _,_,h=>by unfold qbM at h; exact h
 | .agg _,_,h=>by unfold qbM at h; exact h
 | .box _,_,h=>by unfold qbM at h; exact h
 | .ref _ _,_,h=>by unfold qbM at h; exact h
 | .bref _ _ _ _,_,h=>by unfold qbM at h; exact h
 | .pbox _ _ _,_,h=>by unfold qbM at h; exact h
 | .pip _ _,_,h=>by unfold qbM at h; exact h
 | .prow _ _ _ _ _ _,_,h=>by unfold qbM at h; exact h
 | .osl _ _ _ _ _ _,_,h=>by unfold qbM at h; exact h
 | .view _ _ _,_,h=>by unfold qbM at h; exact h
 | .tup _,_,h=>by unfold qbM at h; exact h
 | .fn _ _,_,h=>by unfold qbM at h; exact h
 | .fnv _ _ _,_,h=>by unfold qbM at h; exact h
 | .amb _ _,_,h=>by unfold qbM at h; exact h
 | .nilr _ _,_,h=>by unfold qbM at h; exact h
 | .mp _ _ _,_,h=>by unfold qbM at h; exact h
 | .parr _ _ _ _ _ _ _,_,h=>by unfold qbM at h; exact h
theorem qkS {E:Env} {tid:Nat} {c:Value} {a:AV} (h:qlQ E tid c=some a):a.mentions=[]:=by
 unfold qlQ at h
 split at h
 ·split at h
  ·injection h with h; subst h; rfl
  ·cases h
 ·injection h with h; subst h; rfl
 ·split at h
  ·injection h with h; subst h; rfl
  ·cases h
 ·split at h
  ·injection h with h; subst h; rfl
  ·cases h
 ·split at h
  ·injection h with h; subst h; rfl
  ·cases h
 ·split at h
  ·injection h with h; subst h; rfl
  ·cases h
 ·split at h
  ·split at h
   ·split at h
    ·injection h with h; subst h; rfl
    ·cases h
   ·cases h
  ·cases h
 ·cases h
theorem qqv (h:qag C σ tm w own) {p:qhl} {tid:Nat} {x:Operand} {o1:Op1} (ho:(opd E p tid x).run (qt σ)=some o1):∀m∈o1.a.mentions,m.2≤(qt σ m.1).1:=by
 intro m hm
 unfold opd at ho
 split at ho
 ·rw [Q.run_get] at ho
  have:=Q.ret_some ho
  subst this
  exact h.wf _ m (qit p _ m hm)
 ·split at ho
  ·rename_i hc
   have:=Q.ret_some ho
   subst this
   have hm:m∈_:=hm
   rw [qkS hc] at hm
   cases hm
  ·cases ho
 ·have:=Q.ret_some ho
  subst this
  cases hm
 ·split at ho
  ·have:=Q.ret_some ho
   subst this
   cases hm
  ·cases ho
theorem qaF.unowned {X:Sit} {a:AV} {v:Value} {bs:List Nat} (hu:a.unowned=true) (h:qaF X a v bs):qaF X a v []:=by
 cases a with
 |undef=>trivial
 |val t x=>exact ⟨rfl,h.2⟩
 |own et e xs=>cases hu
 |agg c=>cases hu
 |box c=>cases hu
 |tup c=>cases hu
 |ref a b=>exact ⟨rfl,h.2⟩
 |bref a b c d=>exact ⟨rfl,h.2⟩
 |pbox a b c=>exact ⟨rfl,h.2⟩
 |pip a b=>exact ⟨rfl,h.2⟩
 |prow a b c d e f=>exact ⟨rfl,h.2⟩
 |osl a b c d e f=>exact ⟨rfl,h.2⟩
 |view a b c=>exact ⟨rfl,h.2⟩
 |grd a b c d=>exact ⟨rfl,h.2⟩
 |fn a b=>exact ⟨rfl,h.2⟩
 |fnv a b c=>exact ⟨rfl,h.2⟩
 |amb a b=>exact ⟨rfl,h.2⟩
 |nilr a b=>exact ⟨rfl,h.2⟩
 |mp a b c=>cases hu
 |parr a b c d e f g=>exact ⟨rfl,h.2⟩
theorem qb3.unowned {X:Sit} {o1:Op1} {v:Value} (h:qb3 X o1 v) (hu:o1.a.unowned=true):qaF X o1.a v []:=by
 unfold qb3 at h
 split at h
 ·exact h.2.2.unowned hu
 ·exact h
theorem qag.transfer (h:qag C σ tm w own) {s d:Nat} (hs:s<σ.length) (hd:d<σ.length) (hne:s≠d) {av av':AV} (hav:qaF (sit C σ tm w own) av (tm.getD s undef) (own s)) (hm:av.mentions=[])
  (hav':∀X:Sit,X.ver d=(qt σ d).1+1→X.tm d=tm.getD s undef→qaF X av' (tm.getD s undef) []) (hm':∀m∈av'.mentions,m=(d,(qt σ d).1+1)):
  ∃own',qag C (qr σ [⟨d,true,av⟩,⟨s,true,av'⟩]) (tm.setIfInBounds d (tm.getD s undef)) w own':=by
 have eD:qt (qr σ [⟨d,true,av⟩,⟨s,true,av'⟩]) d=((qt σ d).1+1,av):=by
  show qt (qR (qR σ ⟨d,true,av⟩) ⟨s,true,av'⟩) d=_
  rw [qv _ _ (Ne.symm hne),qM σ ⟨d,true,av⟩ hd]
  rfl
 have eS:qt (qr σ [⟨d,true,av⟩,⟨s,true,av'⟩]) s=((qt σ s).1+1,av'):=by
  show qt (qR (qR σ ⟨d,true,av⟩) ⟨s,true,av'⟩) s=_
  rw [qM (qR σ ⟨d,true,av⟩) ⟨s,true,av'⟩ (by rw [qak]; exact hs),qv _ _ hne]
  rfl
 have eO:∀x,x≠s→x≠d→qt (qr σ [⟨d,true,av⟩,⟨s,true,av'⟩]) x=qt σ x:=fun x h1 h2=>by
  show qt (qR (qR σ ⟨d,true,av⟩) ⟨s,true,av'⟩) x=_
  rw [qv _ _ h1,qv _ _ h2]
 have tD:(tm.setIfInBounds d (tm.getD s undef)).getD d undef=tm.getD s undef:=qdY tm _ (by rw [h.size]; exact hd)
 have tS:(tm.setIfInBounds d (tm.getD s undef)).getD s undef=tm.getD s undef:=qb1 tm _ hne
 let own':Nat→List Nat:=fun x=>if x=d then own s else if x=s then [] else own x
 have oD:own' d=own s:=by simp [own']
 have oS:own' s=[]:=by simp [own',hne]
 refine ⟨own',h.update (fun x=>x=s∨x=d) (qF _ _) (by simp) ?_ ?_ (qcx.refl _ _) ?_ ?_ ?_ ?_ ?_⟩
 ·intro x hx
  have h1:x≠s:=fun e=>hx (.inl e)
  have h2:x≠d:=fun e=>hx (.inr e)
  exact ⟨eO x h1 h2,qb1 tm _ h2,by simp [own',h1,h2]⟩
 ·rintro x (rfl|rfl)
  ·rw [eS]; exact .inl (Nat.lt_succ_self _)
  ·rw [eD]; exact .inl (Nat.lt_succ_self _)
 ·rintro x (rfl|rfl) <;> assumption
 ·rintro x (rfl|rfl)
  ·rw [oS]; exact ⟨fun b hb=>(by cases hb),List.nodup_nil⟩
  ·rw [oD]; exact ⟨fun b hb=> .inr ⟨s,.inl rfl,hb⟩,h.nodup s⟩
 ·rintro x y b (rfl|rfl) (rfl|rfl) hb hb'
  ·rfl
  ·rw [oS] at hb; cases hb
  ·rw [oS] at hb'; cases hb'
  ·rfl
 ·have hfree:∀b,C.free w own b→C.free w own' b:=fun b hb=>⟨hb.1,hb.2.1,fun x hx=>by
   simp only [own'] at hx
   split at hx
   ·exact hb.2.2 s hx
   ·split at hx
    ·cases hx
    ·exact hb.2.2 x hx⟩
  rintro x (rfl|rfl)
  ·rw [eS,tS,oS]
   exact hav' _ (by show (qt _ d).1=_; rw [eD]) tD
  ·rw [eD,tD,oD]
   refine qaF.keep (X:=sit C σ tm w own) (X':=sit C _ _ w own') ⟨rfl,rfl⟩ (fun b hb hlt=>⟨hfree b hb,hlt,rfl⟩) (fun _ _ _=>rfl) (fun m hmm=>by rw [hm] at hmm; cases hmm) hav
 ·rintro x (rfl|rfl) m hmm
  ·rw [eS] at hmm
   rw [hm' m hmm,eD]
   exact Nat.le_refl _
  ·rw [eD,hm] at hmm
   cases hmm
end
end Go.Vi
