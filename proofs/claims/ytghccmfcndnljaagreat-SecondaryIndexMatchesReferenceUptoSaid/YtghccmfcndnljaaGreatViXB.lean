import Derived.Test.YtghccmfcndnljaaGreatViXA
import Derived.Laws.CopyRow
import Derived.Laws.StructEq
import Derived.Laws.Strings
import Derived.Laws.Concat
import Derived.Laws.Small
import Derived.Laws.Unary
import Derived.Laws.Slices
import Derived.Laws.Strings2
import Derived.Laws.Strings3
import Derived.Laws.BytesArg
import Derived.Lib.ConvBytes
set_option linter.unusedVariables false
set_option linter.unusedSimpArgs false
set_option linter.unnecessarySimpa false
set_option linter.unusedSectionVars false
open Array renaming getD_eq_getD_getElem? → zaA, getElem?_eq_getElem → zaF, getElem?_eq_some_iff → zav, length_toList → zaI
open Bool renaming and_eq_true → zad, false_and → za7, false_eq_true → za0, not_eq_true' → za8, true_and → zbd
open Int renaming le_refl → za9, toNat_natCast → zaJ
open List renaming append_assoc → zaC, append_nil → zar, drop_eq_getElem_cons → zaO, drop_of_length_le → za1, drop_zero → zbe, eq_nil_of_length_eq_zero → zaV, flatten_cons → zaX, getElem?_append_left → zaP, getElem?_append_right → zaL, getElem?_drop → zan, getElem?_eq_getElem → zaa, getElem?_eq_none → zaD, getElem?_eq_some_iff → zao, getElem?_take → zal, getElem_mem → zau, getElem_of_mem → zaw, length_append → zag, length_cons → zba, length_drop → zap, length_take → zaf, map_cons → zaZ, mem_append → zaj, mem_append_left → zac, mem_append_right → zab, mem_cons → zam, mem_cons_of_mem → zae, mem_cons_self → zai, mem_map → zaS, mem_map_of_mem → zaR, mem_of_getElem? → zaU, mem_singleton → zat, nodup_append → zah, nodup_cons → zax, nodup_nil → zaH, take_append_drop → zaK, take_append_of_le_length → zaG, take_of_length_le → zas
open Nat renaming add_mul → zbc, add_zero → zbf, le_refl → zay, lt_of_lt_of_le → zaE, lt_succ_self → zbb, mul_le_mul_right → zaq, zero_add → zaM, zero_le → za6
open Option renaming map_eq_some_iff → zaB
namespace Go.Vi
open Go.RowKit
structure TyB (P:Program) (t:Nat) (u:Ty):Prop where
 info:∃i,P.info? t=some i∧i.size=u.size
 desc:∃d,P.underlying t=some d∧(match d with|.struct _=>true|.array _ _=>true|_=>false)=u.agg
structure ElemB (P:Program) (E:Env) (t:Nat) (e:Ty):Prop where
 under:P.underlying t=some (.slice (E.etid t))
 info:∃i z,P.info? (E.etid t)=some i∧i.size=e.size∧i.zero=some z∧z.cells.size=e.size∧i.bytes=E.bytes (E.etid t)
 notInt:∀k,P.underlying t≠some (.int k)
section
variable {P:Program}{w:World}
theorem TyB.run_isAgg {t:Nat}{u:Ty}(h:TyB P t u):(isAgg t).run P w=.ok u.agg w:=by
 obtain⟨d,h1,h2⟩:=h.desc;simp only[isAgg,Sem.run_bind,run_underlying h1,Result.andThen_ok];rw[←h2];cases d<;>rfl
theorem TyB.run_sizeOf {t:Nat}{u:Ty}(h:TyB P t u):(sizeOf t).run P w=.ok u.size w:=by
 obtain⟨i,h1,h2⟩:=h.info;simp[sizeOf,typeInfo,h1,h2]
theorem qci {t:Nat}{u:Ty}(h:TyB P t u) {a:Addr}{cs:List Value}(hc:qfL w a cs) (hl:cs.length=u.size):(Instr.loadAt t (.pointer (some a))).run P w=.ok (mkV u cs) w:=by
 simp only[Instr.loadAt,Instr.sureAddr,loadVar,Sem.run_bind,Sem.run_pure,Result.andThen_ok,h.run_isAgg];cases hu:u.agg with
 |true=>
  simp only[if_true,Sem.run_bind,h.run_sizeOf,Result.andThen_ok];rw[←hl,run_loadCells_list w a cs hc];simp[mkV,hu]
 |false=>
  have hs:u.size=1:=by cases u<;>simp[Ty.agg]at hu<;>rfl
  simp only[za0,if_false];match cs,hl.trans hs with
  |[v],_=>
   have hv:=hc 0 v rfl;have:a.add 0=a:=by simp[Addr.add]
   rw[this]at hv;simp[run_load,hv,mkV,hu]
theorem Rep.oneCell {F:Nat→Prop}: {t:Ty}→{x:t.den}→{cs:List Value}→Rep w F t x cs→∀v∈cs,v.oneCell'=true
 |.int _,_,_,h,v,hv=>by rw[h.1]at hv;simp at hv;subst hv;rfl
 |.bool,_,_,h,v,hv=>by rw[show _=_ from h]at hv;simp at hv;subst hv;rfl
 |.str,_,_,h,v,hv=>by rw[h.1]at hv;simp at hv;subst hv;rfl
 |.err,_,_,⟨u,hc,h⟩,v,hv=>by
  rw[hc]at hv;simp at hv;subst hv;rcases h with⟨_,rfl⟩|⟨_,t,x,rfl⟩<;>rfl
 |.opt e,_,_,⟨u,hc,h⟩,v,hv=>by
  rw[hc]at hv;simp at hv;subst hv;rcases h with⟨_,rfl⟩|⟨_,_,_,_,rfl,_⟩<;>rfl
 |.map _ _,_,_,⟨u,hc,h⟩,v,hv=>by
  rw[hc]at hv;simp at hv;subst hv;rcases h with⟨rfl,_⟩|⟨_,rfl,_⟩<;>rfl
 |.unit,_,_,h,v,hv=>by rw[show _=_ from h]at hv;cases hv
 |.pair a b,_,_,⟨c1,c2,hc,h1,h2⟩,v,hv=>by
  rw[hc]at hv;rcases zaj.1 hv with hv|hv
  ·exact h1.oneCell v hv
  ·exact h2.oneCell v hv
 |.slice e,_,_,⟨u,hc,h⟩,v,hv=>by
  rw[hc]at hv;simp at hv;subst hv;rcases h with⟨rfl,_⟩|⟨a,cap,rfl,_⟩<;>rfl
 |.arr n e,_,_,⟨hl,css,hcl,hc,hx⟩,v,hv=>by
  rw[hc]at hv;obtain⟨c,hcm,hvc⟩:=List.mem_flatten.1 hv;obtain⟨i,hi,rfl⟩:=zaw hcm;exact(hx i _ _ (zaa (by omega)) (zaa hi)).oneCell v hvc
theorem qar.oneCell {F:Nat→Prop}{et:Nat}{e:Ty}{xs:List e.den}{v:Value}{bs:List Nat}(h:qar w F et e xs v bs):v.oneCell'=true:=by
 obtain⟨cells,ho,_⟩:=h;rcases ho.2 with⟨rfl,_⟩|⟨g,cap,cur,rfl,_⟩<;>rfl
theorem q8.oneCell {F:Nat→Prop}{et:Nat}{e:Ty}{xs:List e.den}{v:Value}{bs:List Nat}(h:q8 w F et e xs v bs):v.oneCell'=true:=by
 obtain⟨cells,ho⟩:=h.hdr;rcases ho.2 with⟨rfl,_⟩|⟨g,cap,cur,rfl,_⟩<;>rfl
theorem qjg {t:Nat}{u:Ty}(h:TyB P t u) {b off:Nat}{v:Value}{cur:Array Value}{te:Nat}(hg:w.heap[b]? =some (.cells cur te (0,0))) (hl:v.cells.toList.length=u.size) (hfit:off+u.size≤cur.size)
  (h1:∀x∈v.cells.toList,x.oneCell'=true):(Instr.storeAt t (ptr b off) v).run P w=.ok () (w.setRow b (cur.toList.take off++v.cells.toList++cur.toList.drop (off+u.size)).toArray):=by
 have hst:=run_storeCells_at P b off te v.cells.toList 0 cur w hg (by rw[hl];simpa using hfit) h1;rw[zaI]at hl;simp only[Instr.storeAt,Instr.sureAddr,ptr,storeVar,Sem.run_bind,Sem.run_pure,Result.andThen_ok,h.run_sizeOf,hl,ne_eq,not_true_eq_false,if_false];rw[hst];simp[hl]
end
section
variable {C:Ctx}{E:Env}{σ:St}{tm:Array Value}{a:Act}{w w':World}{own:Nat→List Nat}{o:Oper} [Tabbed E C]
def qve (o:Oper) (a a':Act):Prop:=a'.defers=a.defers∧∀s,o.dst≠some s→a'.tmps.getD s undef=a.tmps.getD s undef
theorem qfG (o:Oper) (a:Act) (v:Value):qve o a (a.put o.dst v):=by
 unfold qve Act.put;cases hd:o.dst with
 |none=>exact⟨rfl,fun _ _=>rfl⟩
 |some d=>exact⟨rfl,fun s hs=>qah _ _ fun e=>hs (by rw[e])⟩
def qcW (C:Ctx) (o:Oper) (a:Act) (w:World) (τ:St):Prop:=
 ∀(K:Act→World→Prop) (Q:Exit→Act→World→Prop),(∀a' w' own',qve o a a'→qac C τ a'.tmps w' own'→K a' w')→o.wp C.P a w K Q
theorem qz {v:Value}{τ:St}(hr:(execOp a.eval o).run C.P w=.ok (.value v) w') (h:∃own',qac C τ (a.put o.dst v).tmps w' own'):qcW C o a w τ:=by
 intro K Q hK;obtain⟨own',h⟩:=h;unfold Oper.wp;rw[hr];exact hK _ _ own' (qfG o a v) h
theorem qac.dst (h:qac C σ a.tmps w own) (hk:qbc (fun _=>False) w w') {av:AV}{v:Value}{bs:List Nat}(hd:∀u∈qbp o av,u.s<σ.length) (hb:∀b∈bs,w.heap.size≤b∧b<w'.heap.size) (hn:bs.Nodup)
  (hr:qax (after C σ a.tmps w w' own bs) av v bs) (hw:∀m∈av.mentions,m.2≤(qt σ m.1).1):∃own',qac C (qk σ (qbp o av)) (a.put o.dst v).tmps w' own':=by
 unfold qbp at *
 cases hdst:o.dst with
 |none=>exact⟨own,h.world hk⟩
 |some d=>
  rw[hdst]at hd;exact⟨_,h.set (d:=d) hk (hd ⟨d,true,av⟩ (by simp)) hb hn hr hw⟩
theorem qac.dst0 (h:qac C σ a.tmps w own) {av:AV}{v:Value}(hd:∀u∈qbp o av,u.s<σ.length) (hr:qax (sit C σ a.tmps w own) av v []) (hw:∀m∈av.mentions,m.2≤(qt σ m.1).1):
  ∃own',qac C (qk σ (qbp o av)) (a.put o.dst v).tmps w own':=
 h.dst (qbc.refl _ _) hd (fun b hb=>by cases hb) zaH
  (qax.keep (X:=sit C σ a.tmps w own) (X':=after C σ a.tmps w w own []) ⟨rfl,rfl⟩ (fun b hb hlt=>⟨⟨.inl hb,hlt,by simp⟩,hlt,rfl⟩) (fun b hb=>by cases hb) (fun m _ hv=>⟨hv,rfl,fun b hb _=>⟨hb,rfl⟩⟩) hr) hw
theorem qau.valAV (X:Sit) {t:Ty}{x:t.den}{v:Value}(h:qau X.w X.F t x v):qax X (.val t x) v []:=⟨rfl,h⟩
theorem qaZ (h:qac C σ a.tmps w own) {t:Ty}{x:t.den}{v:Value}(hr:(execOp a.eval o).run C.P w=.ok (.value v) w) (hd:∀u∈qbp o (.val t x),u.s<σ.length) (hv:qau w (C.free w own) t x v):qcW C o a w (qk σ (qbp o (.val t x))):=
 qz hr (h.dst0 hd ⟨rfl,hv⟩ (fun m hm=>by cases hm))
theorem qiF (p:qg3):(a:AV)→∀m∈(qbk p a).mentions,m∈a.mentions
 |.grd s v w a,m,hm=>by
  unfold qbk at hm;split at hm
  ·exact zae _ (qiF p a m hm)
  ·cases hm
 |.undef,_,h=>by unfold qbk at h;exact h
 |.val _ _,_,h=>by unfold qbk at h;exact h
 |.own _ _ _,_,h=>by unfold qbk at h;exact h
 |.agg _,_,h=>by unfold qbk at h;exact h
 |.box _,_,h=>by unfold qbk at h;exact h
 |.ref _ _,_,h=>by unfold qbk at h;exact h
 |.bref _ _ _ _,_,h=>by unfold qbk at h;exact h
 |.pbox _ _ _,_,h=>by unfold qbk at h;exact h
 |.pip _ _,_,h=>by unfold qbk at h;exact h
 |.prow _ _ _ _ _ _,_,h=>by unfold qbk at h;exact h
 |.osl _ _ _ _ _ _,_,h=>by unfold qbk at h;exact h
 |.view _ _ _,_,h=>by unfold qbk at h;exact h
 |.tup _,_,h=>by unfold qbk at h;exact h
 |.fn _ _,_,h=>by unfold qbk at h;exact h
 |.fnv _ _ _,_,h=>by unfold qbk at h;exact h
 |.amb _ _,_,h=>by unfold qbk at h;exact h
 |.nilr _ _,_,h=>by unfold qbk at h;exact h
 |.nz _ _,_,h=>by unfold qbk at h;exact h
 |.mp _ _ _,_,h=>by unfold qbk at h;exact h
 |.itr _ _ _ _,_,h=>by unfold qbk at h;exact h
 |.lsw _ _ _ _,_,h=>by unfold qbk at h;exact h
 |.lsv _ _ _ _,_,h=>by unfold qbk at h;exact h
 |.lsz _ _ _ _,_,h=>by unfold qbk at h;exact h
 |.hol _ _ _ _ _ _,_,h=>by unfold qbk at h;exact h
 |.bhl _ _ _ _,_,h=>by unfold qbk at h;exact h
 |.parr _ _ _ _ _ _ _,_,h=>by unfold qbk at h;exact h
theorem qlg {E:Env}{tid:Nat}{c:Value}{a:AV}(h:qmz E tid c=some a):a.mentions=[]:=by
 unfold qmz at h;split at h
 ·split at h
  ·injection h with h;subst h;rfl
  ·cases h
 ·injection h with h;subst h;rfl
 ·split at h
  ·injection h with h;subst h;rfl
  ·cases h
 ·split at h
  ·split at h<;>(injection h with h;subst h;rfl)
  ·cases h
 ·split at h
  ·injection h with h;subst h;rfl
  ·cases h
 ·split at h
  ·injection h with h;subst h;rfl
  ·cases h
 ·split at h
  ·injection h with h;subst h;rfl
  ·cases h
 ·split at h
  ·split at h
   ·split at h
    ·injection h with h;subst h;rfl
    ·cases h
   ·cases h
  ·cases h
 ·cases h
theorem qo6 (h:qac C σ tm w own) {p:qg3}{tid:Nat}{x:Operand}{o1:Op1}(ho:(opd E p tid x).run (qt σ)=some o1):∀m∈o1.a.mentions,m.2≤(qt σ m.1).1:=by
 intro m hm;unfold opd at ho;split at ho
 ·rw[Q.yd]at ho;have:=Q.yc ho;subst this;exact h.wf _ m (qiF p _ m hm)
 ·split at ho
  ·rename_i hc;have:=Q.yc ho;subst this;have hm:m∈_:=hm;rw[qlg hc]at hm;cases hm
  ·cases ho
 ·have:=Q.yc ho;subst this;cases hm
 ·split at ho
  ·have:=Q.yc ho;subst this;cases hm
  ·cases ho
theorem qax.unowned {X:Sit}{a:AV}{v:Value}{bs:List Nat}(hu:a.unowned=true) (h:qax X a v bs):qax X a v []:=by
 cases a with
 |undef=>trivial
 |val t x=>exact⟨rfl,h.2⟩
 |own et e xs=>cases hu
 |agg c=>cases hu
 |box c=>cases hu
 |tup c=>cases hu
 |ref a b=>exact⟨rfl,h.2⟩
 |bref a b c d=>exact⟨rfl,h.2⟩
 |pbox a b c=>exact⟨rfl,h.2⟩
 |pip a b=>exact⟨rfl,h.2⟩
 |prow a b c d e f=>exact⟨rfl,h.2⟩
 |osl a b c d e f=>exact⟨rfl,h.2⟩
 |view a b c=>exact⟨rfl,h.2⟩
 |grd a b c d=>exact⟨rfl,h.2⟩
 |fn a b=>exact⟨rfl,h.2⟩
 |fnv a b c=>exact⟨rfl,h.2⟩
 |amb a b=>exact⟨rfl,h.2⟩
 |nilr a b=>exact⟨rfl,h.2⟩
 |nz a b=>exact⟨rfl,h.2⟩
 |mp a b c=>cases hu
 |itr a b c d=>cases hu
 |hol a b c d e f=>cases hu
 |bhl a b c d=>cases hu
 |lsw a b c d=>cases hu
 |lsv a b c d=>exact⟨rfl,h.2⟩
 |lsz a b c d=>exact⟨rfl,h.2⟩
 |parr a b c d e f g=>exact⟨rfl,h.2⟩
theorem qbB.unowned {X:Sit}{o1:Op1}{v:Value}(h:qbB X o1 v) (hu:o1.a.unowned=true):qax X o1.a v []:=by
 unfold qbB at h;split at h
 ·exact h.2.2.unowned hu
 ·exact h
theorem qac.transfer (h:qac C σ tm w own) {s d:Nat}(hs:s<σ.length) (hd:d<σ.length) (hne:s≠d) {av av':AV}(hav:qax (sit C σ tm w own) av (tm.getD s undef) (own s)) (hm:av.mentions=[])
  (hav':∀X:Sit,X.ver d=(qt σ d).1+1→X.tm d=tm.getD s undef→qax X av' (tm.getD s undef) []) (hm':∀m∈av'.mentions,m=(d,(qt σ d).1+1)):
  ∃own',qac C (qk σ [⟨d,true,av⟩,⟨s,true,av'⟩]) (tm.setIfInBounds d (tm.getD s undef)) w own':=by
 have eD:qt (qk σ [⟨d,true,av⟩,⟨s,true,av'⟩]) d=((qt σ d).1+1,av):=by
  show qt (qX (qX σ ⟨d,true,av⟩) ⟨s,true,av'⟩) d=_;rw[qu _ _ (Ne.symm hne),qS σ ⟨d,true,av⟩ hd];rfl
 have eS:qt (qk σ [⟨d,true,av⟩,⟨s,true,av'⟩]) s=((qt σ s).1+1,av'):=by
  show qt (qX (qX σ ⟨d,true,av⟩) ⟨s,true,av'⟩) s=_;rw[qS (qX σ ⟨d,true,av⟩) ⟨s,true,av'⟩ (by rw[qal];exact hs),qu _ _ hne];rfl
 have eO:∀x,x≠s→x≠d→qt (qk σ [⟨d,true,av⟩,⟨s,true,av'⟩]) x=qt σ x:=fun x h1 h2=>by
  show qt (qX (qX σ ⟨d,true,av⟩) ⟨s,true,av'⟩) x=_;rw[qu _ _ h1,qu _ _ h2]
 have tD:(tm.setIfInBounds d (tm.getD s undef)).getD d undef=tm.getD s undef:=qbd tm _ (by rw[h.size];exact hd);have tS:(tm.setIfInBounds d (tm.getD s undef)).getD s undef=tm.getD s undef:=qah tm _ hne;let own':Nat→List Nat:=fun x=>if x=d then own s else if x=s then[]else own x
 have oD:own' d=own s:=by simp[own']
 have oS:own' s=[]:=by simp[own',hne]
 refine⟨own',h.update (fun x=>x=s∨x=d) (qO _ _) (by simp) ?_ ?_ (qbc.refl _ _) ?_ ?_ ?_ ?_ ?_⟩
 ·intro x hx;have h1:x≠s:=fun e=>hx (.inl e);have h2:x≠d:=fun e=>hx (.inr e);exact⟨eO x h1 h2,qah tm _ h2,by simp[own',h1,h2]⟩
 ·rintro x (rfl|rfl)
  ·rw[eS];exact .inl (zbb _)
  ·rw[eD];exact .inl (zbb _)
 ·rintro x (rfl|rfl)<;>assumption
 ·rintro x (rfl|rfl)
  ·rw[oS];exact⟨fun b hb=>(by cases hb),zaH⟩
  ·rw[oD];exact⟨fun b hb=>.inr ⟨s,.inl rfl,hb⟩,h.nodup s⟩
 ·rintro x y b (rfl|rfl) (rfl|rfl) hb hb'
  ·rfl
  ·rw[oS]at hb;cases hb
  ·rw[oS]at hb';cases hb'
  ·rfl
 ·have hfree:∀b,C.free w own b→C.free w own' b:=fun b hb=>⟨hb.1,hb.2.1,fun x hx=>by
   simp only[own']at hx;split at hx
   ·exact hb.2.2 s hx
   ·split at hx
    ·cases hx
    ·exact hb.2.2 x hx⟩
  rintro x (rfl|rfl)
  ·rw[eS,tS,oS];exact hav' _ (by show(qt _ d).1=_;rw[eD]) tD
  ·rw[eD,tD,oD];refine qax.keep (X:=sit C σ tm w own) (X':=sit C _ _ w own') ⟨rfl,rfl⟩ (fun b hb hlt=>⟨hfree b hb,hlt,rfl⟩) (fun _ _ _=>rfl) (fun m hmm=>by rw[hm]at hmm;cases hmm) hav
 ·rintro x (rfl|rfl) m hmm
  ·rw[eS]at hmm;rw[hm' m hmm,eD];exact zay _
  ·rw[eD,hm]at hmm;cases hmm
end
end Go.Vi
namespace Go.Vi
open Go.RowKit
def tyB (P:Program) (u:Ty) (t:Nat):Bool:=(match P.info? t with
 |some i=>decide (i.size=u.size)
 |none=>false)&&(match P.underlying t with
 |some d=>decide ((match d with|.struct _=>true|.array _ _=>true|_=>false)=u.agg)
 |none=>false)
theorem qvu {P:Program}{u:Ty}{t:Nat}(h:tyB P u t=true):TyB P t u:=by
 unfold tyB at h;simp only[zad]at h;obtain⟨h1,h2⟩:=h;split at h1
 ·rename_i i hi;split at h2
  ·rename_i d hd;exact⟨⟨i,hi,of_decide_eq_true h1⟩,d,hd,of_decide_eq_true h2⟩
  ·cases h2
 ·cases h1
theorem TyB.part_ok {P:Program}{w:World}{t:Nat}{u:Ty}(h:TyB P t u) {cs:List Value}{off:Nat}(hl:off+u.size≤cs.length):(part t cs.toArray off).run P w=.ok (mkV u ((cs.drop off).take u.size)) w:=by
 simp only[part,Sem.run_bind,h.run_isAgg,Result.andThen_ok];cases hu:u.agg with
 |true=>
  simp only[if_true,Sem.run_bind,h.run_sizeOf,Result.andThen_ok,Sem.run_pure,mkV,hu];congr 2;apply Array.ext';simp[List.extract_eq_take_drop]
 |false=>
  have hs:u.size=1:=by cases u<;>simp[Ty.agg]at hu<;>rfl
  have hlt:off<cs.length:=by omega
  simp only[za0,if_false,mkV,hu,hs];rw[show cs.toArray[off]? =some cs[off]from by simp[hlt],zaO hlt];simp only[Sem.run_pure];rfl
def quD (P:Program) (a:Nat→Bool) (ta:Ty) (b:List Field→Nat→Bool):List Field→Nat→Bool
 |f::r,off=>decide (f.offset=off)&&(decide (f.name≠ "_")&&(tyB P ta f.type&&(a f.type&&b r (off+ta.size))))
 |[],_=>false
def qi5 (P:Program):Ty→(Nat→Bool)×(List Field→Nat→Bool)
 |.int k=>(fun t=>match P.underlying t with
  |some (.int k')=>decide (k'=k)
  |_=>false,fun _ _=>false)
 |.bool=>(fun t=>match P.underlying t with
  |some .bool=>true
  |_=>false,fun _ _=>false)
 |.str=>(fun t=>match P.underlying t with
  |some .string=>true
  |_=>false,fun _ _=>false)
 |.err=>(fun _=>false,fun _ _=>false)
 |.opt _=>(fun _=>false,fun _ _=>false)
 |.map _ _=>(fun _=>false,fun _ _=>false)
 |.unit=>(fun t=>match P.underlying t with
  |some (.struct fs)=>fs.toList.isEmpty&& !(P.stoodInHeld t)
  |_=>false,fun fs _=>fs.isEmpty)
 |.pair a b=>(fun t=>match P.underlying t with
  |some (.struct fs)=>quD P (qi5 P a).1 a (qi5 P b).2 fs.toList 0&& !(P.stoodInHeld t)
  |_=>false,quD P (qi5 P a).1 a (qi5 P b).2)
 |.slice _=>(fun _=>false,fun _ _=>false)
 |.arr _ _=>(fun _=>false,fun _ _=>false)
def Ty.height:Ty→Nat
 |.pair a b=>a.height+b.height+1
 |_=>1
theorem quA (a b:Ty) (x y:(Ty.pair a b).den):(Ty.pair a b).eqb x y=(a.eqb x.1 y.1&&b.eqb x.2 y.2):=by
 cases b<;>simp[Ty.eqb]
theorem qmj {P:Program}{t:Nat}{fs:Array Field}(h:P.underlying t=some (.struct fs)):P.fieldsOf t=fs:=by simp[Program.fieldsOf,h]
theorem qoc {P:Program}{w:World}{F F':Nat→Prop}:(u:Ty)→
  (∀(d t:Nat) (x y:u.den) (cs ds:List Value),u.height<d→(qi5 P u).1 t=true→Rep w F u x cs→Rep w F' u y ds→(Op.equalIn d t (mkV u cs) (mkV u ds)).run P w=.ok (u.eqb x y) w)∧
  (∀(d:Nat) (fs:List Field) (off:Nat) (x y:u.den) (cs ds:List Value),u.height≤d→(qi5 P u).2 fs off=true→cs.length=off+u.size→ds.length=off+u.size→Rep w F u x (cs.drop off)→Rep w F' u y (ds.drop off)→(Op.eqFields d cs.toArray ds.toArray fs).run P w=.ok (u.eqb x y) w)
 |.int k=>by
  refine⟨fun d t x y cs ds hd h h1 h2=>?_,fun d fs off x y cs ds _ h=>by cases h⟩;simp only[qi5]at h;split at h
  ·rename_i k' hu;obtain⟨rfl,_⟩:=h1;obtain⟨rfl,_⟩:=h2;cases d with
   |zero=>omega
   |succ d=>
    rw[show(Ty.int k).eqb x y=(x==y)from qi8 x y];exact run_equalIn_int w d t k k' x y hu
  ·cases h
 |.bool=>by
  refine⟨fun d t x y cs ds hd h h1 h2=>?_,fun d fs off x y cs ds _ h=>by cases h⟩;simp only[qi5]at h;split at h
  ·rename_i hu;have h1:cs=_:=h1;have h2:ds=_:=h2;subst h1;subst h2;cases d with
   |zero=>omega
   |succ d=>
    rw[show Ty.bool.eqb x y=(x==y)from qn0 x y];exact run_equalIn_bool' w d t x y hu
  ·cases h
 |.err=>⟨fun d t x y cs ds hd h h1 h2=>(by cases h),fun d fs off x y cs ds _ h=>by cases h⟩
 |.opt _=>⟨fun d t x y cs ds hd h h1 h2=>(by cases h),fun d fs off x y cs ds _ h=>by cases h⟩
 |.map _ _=>⟨fun d t x y cs ds hd h h1 h2=>(by cases h),fun d fs off x y cs ds _ h=>by cases h⟩
 |.str=>by
  refine⟨fun d t x y cs ds hd h h1 h2=>?_,fun d fs off x y cs ds _ h=>by cases h⟩;simp only[qi5]at h;split at h
  ·rename_i hu;obtain⟨rfl,_⟩:=h1;obtain⟨rfl,_⟩:=h2;cases d with
   |zero=>omega
   |succ d=>
    have:=run_equalIn_string w d t ⟨x.toArray⟩ ⟨y.toArray⟩ hu;rw[ByteArray.toList_eq,ByteArray.toList_eq]at this;rw[show Ty.str.eqb x y=(x==y)from qp4 x y];exact this
  ·cases h
 |.unit=>by
  refine⟨fun d t x y cs ds hd h h1 h2=>?_,fun d fs off x y cs ds _ h _ _ _ _=>?_⟩
  ·simp only[qi5]at h;split at h
   ·rename_i fs hu;simp only[zad,za8]at h;cases d with
    |zero=>omega
    |succ d=>
     have hf:=qmj hu;show(Op.equalIn (d+1) t (.agg cs.toArray) (.agg ds.toArray)).run P w=_;rw[run_equalIn_struct w d t _ _ (by rw[hf];exact hu) h.2,hf];have:fs.toList=[]:=by simpa using h.1
     rw[this];rfl
   ·cases h
  ·have:fs=[]:=by simpa[qi5]using h
   subst this;rfl
 |.pair a b=>by
  obtain⟨ha,_⟩:=qoc (P:=P) (w:=w) (F:=F) (F':=F') a;obtain⟨_,hb⟩:=qoc (P:=P) (w:=w) (F:=F) (F':=F') b;have fld:∀(d:Nat) (fs:List Field) (off:Nat) (x y:(Ty.pair a b).den) (cs ds:List Value),(Ty.pair a b).height≤d→quD P (qi5 P a).1 a (qi5 P b).2 fs off=true→cs.length=off+(a.size+b.size)→ds.length=off+(a.size+b.size)→Rep w F (.pair a b) x (cs.drop off)→Rep w F' (.pair a b) y (ds.drop off)→(Op.eqFields d cs.toArray ds.toArray fs).run P w=.ok ((Ty.pair a b).eqb x y) w:=by
   intro d fs off x y cs ds hd h hcl hdl h1 h2;cases fs with
   |nil=>cases h
   |cons f r=>
    simp only[quD,zad,decide_eq_true_eq]at h;obtain⟨g1,g2,g3,g4,g5⟩:=h;obtain⟨c1,c2,e1,r1,r2⟩:=h1;obtain⟨d1,d2,e2,q1,q2⟩:=h2;have hl1:=r1.length;have hl2:=q1.length;have hh:a.height+b.height+1≤d:=hd;have t1:(cs.drop off).take a.size=c1:=by rw[e1,List.take_left' hl1]
    have t2:(ds.drop off).take a.size=d1:=by rw[e2,List.take_left' hl2]
    have t3:cs.drop (off+a.size)=c2:=by rw[←List.drop_drop,e1,List.drop_left' hl1]
    have t4:ds.drop (off+a.size)=d2:=by rw[←List.drop_drop,e2,List.drop_left' hl2]
    have p1:=(qvu g3).part_ok (w:=w) (cs:=cs) (off:=off) (by omega);have p2:=(qvu g3).part_ok (w:=w) (cs:=ds) (off:=off) (by omega);rw[t1]at p1;rw[t2]at p2;have hea:=ha d f.type x.1 y.1 c1 d1 (by omega) g4 r1 q1;have heb:=hb d r (off+a.size) x.2 y.2 cs ds (by omega) g5 (by omega) (by omega) (by rw[t3];exact r2) (by rw[t4];exact q2);rw[quA];simp only[Op.eqFields,g1,if_pos g2,Sem.run_bind,p1,p2,hea,Result.andThen_ok,Sem.run_ite];cases hx:a.eqb x.1 y.1 with
    |true=>simpa using heb
    |false=>simp
  refine⟨fun d t x y cs ds hd h h1 h2=>?_,fld⟩;simp only[qi5]at h;split at h
  ·rename_i fs hu;simp only[zad,za8]at h;cases d with
   |zero=>omega
   |succ d=>
    have hf:=qmj hu;show(Op.equalIn (d+1) t (.agg cs.toArray) (.agg ds.toArray)).run P w=_;rw[run_equalIn_struct w d t _ _ (by rw[hf];exact hu) h.2,hf];have l1:=h1.length;have l2:=h2.length;exact fld d fs.toList 0 x y cs ds (by omega) h.1 (by rw[l1];simp[Ty.size]) (by rw[l2];simp[Ty.size]) h1 h2
  ·cases h
 |.slice _=>⟨fun _ _ _ _ _ _ _ h=>(by cases h),fun _ _ _ _ _ _ _ _ h=>(by cases h)⟩
 |.arr _ _=>⟨fun _ _ _ _ _ _ _ h=>(by cases h),fun _ _ _ _ _ _ _ _ h=>(by cases h)⟩
structure EqB (P:Program) (t:Nat) (u:Ty):Prop where
 run:∀(w:World) (F F':Nat→Prop) (x y:u.den) (cs ds:List Value),Rep w F u x cs→Rep w F' u y ds→(Op.equalIn 10000 t (mkV u cs) (mkV u ds)).run P w=.ok (u.eqb x y) w
 guard:P.eqGuardType P.depth t=false
def qv9 (P:Program) (u:Ty) (t:Nat):Bool:=(qi5 P u).1 t&&(decide (u.height<10000)&& !(P.eqGuardType P.depth t))
theorem quP {P:Program}{u:Ty}{t:Nat}(h:qv9 P u t=true):EqB P t u:=by
 simp only[qv9,zad,decide_eq_true_eq,za8]at h;exact⟨fun w F F' x y cs ds h1 h2=>(qoc u).1 10000 t x y cs ds h.2.1 h.1 h1 h2,h.2.2⟩
end Go.Vi
namespace Go.Vi
open Go.RowKit
theorem qcP.length {w:World}{F:Nat→Prop}: {c:BC}→{cs:List Value}→{bs:List Nat}→qcP w F c cs bs→cs.length=c.size
 |.val _ _,_,_,h=>h.2.length
 |.own _ _ _,_,_,⟨v,h,_⟩=>by rw[h];rfl
 |.pair _ _,_,_,⟨c1,c2,b1,b2,h1,h2,h3,h4⟩=>by rw[h1,zag,h3.length,h4.length];rfl
 |.hole _,_,_,h=>h.2
theorem qoV {o off:Nat}:qp9 (o,o+1) off=decide (off=o):=by
 unfold qp9;by_cases h:off=o
 ·subst h;simp
 ·rw[decide_eq_false h];by_cases h1:o≤off
  ·simp only[decide_eq_true h1,zbd];exact decide_eq_false (by omega)
  ·simp only[decide_eq_false h1,za7]
theorem qha (m:Msk) (k0:Nat×Nat):(t:Ty)→(x:t.den)→(off:Nat)→(bcM m k0 t x off).size=t.size
 |.pair a b,x,off=>by
  unfold bcM;split
  ·show(bcM m k0 a x.1 off).size+(bcM m k0 b x.2 (off+a.size)).size=_;rw[qha m k0 a,qha m k0 b];rfl
  ·rfl
 |.slice e,xs,off=>by
  unfold bcM;split
  ·split<;>rfl
  ·rfl
 |.int _,_,_=>rfl
 |.bool,_,_=>rfl
 |.str,_,_=>rfl
 |.unit,_,_=>rfl
 |.arr _ _,_,_=>rfl
 |.err,_,_=>rfl
 |.opt _,_,_=>rfl
 |.map _ _,_,_=>rfl
theorem Msk.yz {m:Msk}{a b o:Nat}(h:m.hits a b=false) (h1:a≤o) (h2:o<b):m.at o=none:=by
 unfold Msk.hits at h;rw[List.any_eq_false]at h;unfold Msk.at;rw[Option.map_eq_none_iff,List.find?_eq_none];intro p hp he;have:=h p hp;simp only[zad,decide_eq_true_eq,not_and,Nat.not_lt,beq_iff_eq]at *
 omega
theorem qow {m:Msk}{k0:Nat×Nat}:(t:Ty)→(x:t.den)→(off:Nat)→m.hits off (off+t.size)=false→bcM m k0 t x off=.val t x
 |.pair a b,x,off,h=>by
  unfold bcM;rw[if_neg (by rw[show off+(a.size+b.size)=off+(Ty.pair a b).size from rfl,h];simp)]
 |.slice e,xs,off,h=>by
  unfold bcM;rw[Msk.yz h (zay _) (by simp[Ty.size])]
 |.int _,_,_,_=>rfl
 |.bool,_,_,_=>rfl
 |.str,_,_,_=>rfl
 |.unit,_,_,_=>rfl
 |.arr _ _,_,_,_=>rfl
 |.err,_,_,_=>rfl
 |.opt _,_,_,_=>rfl
 |.map _ _,_,_,_=>rfl
theorem qnL {w:World}{F:Nat→Prop}{m:Msk}{k0:Nat×Nat}:(t:Ty)→{x:t.den}→{o off:Nat}→{cs:List Value}→{bs:List Nat}→{u:Ty}→{y:u.den}→qcP w F (bcM m k0 t x o) cs bs→t.sub x off u=some y→
  m.hits (o+off) (o+off+u.size)=false→off+u.size≤cs.length∧Rep w F u y ((cs.drop off).take u.size)
 |.pair a b,x,o,off,cs,bs,u,y,h,hs,hm=>by
  unfold bcM at h;split at h
  ·rename_i hh;simp only[Ty.sub]at hs;cases hz:Ty.whole (t:= .pair a b) u x off with
   |some z=>
    obtain⟨rfl,hz'⟩:=Ty.yf hz;obtain⟨rfl,_⟩:=Ty.ye hz';rw[show o+0+(Ty.pair a b).size=o+(a.size+b.size)from rfl,zbf,hh]at hm;cases hm
   |none=>
    rw[hz]at hs;simp only at hs;obtain⟨c1,c2,b1,b2,rfl,rfl,h3,h4⟩:=h;have hl:=h3.length;rw[qha]at hl;split at hs
    ·obtain⟨g1,g2⟩:=qnL a h3 hs hm;exact⟨by rw[zag];omega,by rw[qcz g1];exact g2⟩
    ·obtain⟨g1,g2⟩:=qnL b (off:=off-a.size) h4 hs (by rw[show o+a.size+(off-a.size)=o+off by omega];exact hm);exact⟨by rw[zag];omega,by rw[qck (by omega),hl];exact g2⟩
  ·exact h.2.sub hs
 |.slice e,xs,o,off,cs,bs,u,y,h,hs,hm=>by
  obtain⟨rfl,hz'⟩:=Ty.yf (t:= .slice e) hs;obtain⟨rfl,rfl⟩:=Ty.ye hz';rw[zbf]at hm;rw[qow _ _ _ hm]at h;exact h.2.sub (Ty.yu _ _)
 |.int _,_,_,_,_,_,_,_,h,hs,_=>h.2.sub hs
 |.bool,_,_,_,_,_,_,_,h,hs,_=>h.2.sub hs
 |.str,_,_,_,_,_,_,_,h,hs,_=>h.2.sub hs
 |.unit,_,_,_,_,_,_,_,h,hs,_=>h.2.sub hs
 |.arr _ _,_,_,_,_,_,_,_,h,hs,_=>h.2.sub hs
 |.err,_,_,_,_,_,_,_,h,hs,_=>h.2.sub hs
 |.opt _,_,_,_,_,_,_,_,h,hs,_=>h.2.sub hs
 |.map _ _,_,_,_,_,_,_,_,h,hs,_=>h.2.sub hs
theorem Msk.yy {m:Msk}{a b o et:Nat}(h:m.at o=some et) (h1:a≤o) (h2:o<b):m.hits a b=true:=by
 cases hh:m.hits a b with
 |true=>rfl
 |false=>rw[Msk.yz hh h1 h2]at h;cases h
theorem Ty.yp {e':Ty}{ys:List e'.den}:(t:Ty)→{x:t.den}→{off:Nat}→t.sub x off (.slice e')=some ys→off<t.size
 |.pair a b,x,off,hs=>by
  simp only[Ty.sub]at hs;cases hz:Ty.whole (t:= .pair a b) (.slice e') x off with
  |some z=>
   obtain⟨_,hz'⟩:=Ty.yf hz;obtain⟨h0,_⟩:=Ty.ye hz';cases h0
  |none=>
   rw[hz]at hs;simp only at hs;show off<a.size+b.size;split at hs
   ·omega
   ·have:=Ty.yp b hs;omega
 |.slice e,xs,off,hs=>by obtain⟨rfl,_⟩:=Ty.yf (t:= .slice e) hs;simp[Ty.size]
 |.arr n e,xs,off,hs=>by
  simp only[Ty.sub]at hs;cases hz:Ty.whole (t:= .arr n e) (.slice e') xs off with
  |some z=>
   obtain⟨_,hz'⟩:=Ty.yf hz;obtain⟨h0,_⟩:=Ty.ye hz';cases h0
  |none=>
   rw[hz]at hs;simp only at hs;split at hs
   ·assumption
   ·cases hs
 |.int _,_,_,hs=>by obtain⟨_,h⟩:=Ty.yf hs;obtain⟨h,_⟩:=Ty.ye h;cases h
 |.bool,_,_,hs=>by obtain⟨_,h⟩:=Ty.yf (t:= .bool) hs;obtain⟨h,_⟩:=Ty.ye h;cases h
 |.str,_,_,hs=>by obtain⟨_,h⟩:=Ty.yf (t:= .str) hs;obtain⟨h,_⟩:=Ty.ye h;cases h
 |.unit,_,_,hs=>by obtain⟨_,h⟩:=Ty.yf (t:= .unit) hs;obtain⟨h,_⟩:=Ty.ye h;cases h
 |.err,_,_,hs=>by obtain⟨_,h⟩:=Ty.yf (t:= .err) hs;obtain⟨h,_⟩:=Ty.ye h;cases h
 |.opt _,_,_,hs=>by obtain⟨_,h⟩:=Ty.yf (t:= .opt _) hs;obtain⟨h,_⟩:=Ty.ye h;cases h
 |.map _ _,_,_,hs=>by obtain⟨_,h⟩:=Ty.yf (t:= .map _ _) hs;obtain⟨h,_⟩:=Ty.ye h;cases h
theorem qsZ {lo hi off:Nat}(h:hi≤off∨off<lo):qp9 (lo,hi) off=false:=by
 unfold qp9;rcases h with h|h
 ·rw[decide_eq_false (p:=off<hi) (by omega),Bool.and_false]
 ·rw[decide_eq_false (p:=lo≤off) (by omega),za7]
theorem qki {m:Msk}{lo hi:Nat}:(t:Ty)→(x:t.den)→(off:Nat)→(hi≤off∨off+t.size≤lo)→bcM m (lo,hi) t x off=bcM m (0,0) t x off
 |.pair a b,x,off,h=>by
  have hz:(Ty.pair a b).size=a.size+b.size:=rfl;unfold bcM;rw[qki a x.1 off (by omega),qki b x.2 (off+a.size) (by omega)]
 |.slice e,xs,off,h=>by
  have hz:(Ty.slice e).size=1:=rfl;unfold bcM;rw[qsZ (by omega),qft]
 |.int _,_,_,_=>rfl
 |.bool,_,_,_=>rfl
 |.str,_,_,_=>rfl
 |.unit,_,_,_=>rfl
 |.arr _ _,_,_,_=>rfl
 |.err,_,_,_=>rfl
 |.opt _,_,_,_=>rfl
 |.map _ _,_,_,_=>rfl
theorem qnY {w:World}{F:Nat→Prop}{m:Msk}{et:Nat}{e':Ty}{ys:List e'.den}:(t:Ty)→{x:t.den}→{o off:Nat}→{cs:List Value}→{bs:List Nat}→t.noArr=true→qcP w F (bcM m (0,0) t x o) cs bs→
  t.sub x off (.slice e')=some ys→m.at (o+off)=some et→
  ∃v p b1 q,cs[off]? =some v∧bs=p++(b1++q)∧qar w F et e' ys v b1∧qcP w F (bcM m (o+off,o+off+1) t x o) cs (p++q)
 |.pair a b,x,o,off,cs,bs,hn,h,hs,hm=>by
  obtain⟨hna,hnb⟩:a.noArr=true∧b.noArr=true:=by simpa[Ty.noArr]using hn
  have hin:off<a.size+b.size:=Ty.yp (.pair a b) hs;have e:∀k0,bcM m k0 (.pair a b) x o=.pair (bcM m k0 a x.1 o) (bcM m k0 b x.2 (o+a.size)):=fun k0=>by
   conv=>lhs;unfold bcM
   rw[if_pos (Msk.yy hm (by omega) (by omega))]
  rw[e]at h⊢
  simp only[Ty.sub]at hs;cases hz:Ty.whole (t:= .pair a b) (.slice e') x off with
  |some z=>
   obtain⟨_,hz'⟩:=Ty.yf hz;obtain⟨h0,_⟩:=Ty.ye hz';cases h0
  |none=>
   rw[hz]at hs;simp only at hs;obtain⟨c1,c2,b1,b2,rfl,rfl,h3,h4⟩:=h;have hl:=h3.length;rw[qha]at hl;split at hs
   ·rename_i hlt;obtain⟨v,p,bb,q,g1,g2,g3,g4⟩:=qnY a hna h3 hs hm;refine⟨v,p,bb,q++b2,by rw[zaP (by omega)];exact g1,by rw[g2];simp,g3,c1,c2,p++q,b2,rfl,by simp,g4,?_⟩;rw[qki b _ _ (by omega)];exact h4
   ·rename_i hlt;have e2:o+a.size+(off-a.size)=o+off:=by omega
    obtain⟨v,p,bb,q,g1,g2,g3,g4⟩:=qnY b (o:=o+a.size) hnb h4 hs (by rw[e2];exact hm);rw[e2]at g4;refine⟨v,b1++p,bb,q,by rw[zaL (by omega),hl];exact g1,by rw[g2];simp,g3,c1,c2,b1,p++q,rfl,by simp,?_,g4⟩;rw[qki a _ _ (by omega)];exact h3
 |.slice e,xs,o,off,cs,bs,_,h,hs,hm=>by
  obtain⟨rfl,hz'⟩:=Ty.yf (t:= .slice e) hs;obtain⟨he,hz'⟩:=Ty.ye hz';injection he with he;subst he;subst hz';rw[zbf]at hm⊢
  unfold bcM at h⊢
  rw[hm]at h⊢
  simp only[qft,qoV,decide_true,za0,if_false,if_true]at h⊢
  obtain⟨v,rfl,h2⟩:=h;exact⟨v,[],bs,[],rfl,by simp,h2,rfl,rfl⟩
 |.int _,_,_,_,_,_,_,_,hs,_=>by obtain⟨_,h⟩:=Ty.yf hs;obtain⟨h,_⟩:=Ty.ye h;cases h
 |.bool,_,_,_,_,_,_,_,hs,_=>by obtain⟨_,h⟩:=Ty.yf (t:= .bool) hs;obtain⟨h,_⟩:=Ty.ye h;cases h
 |.str,_,_,_,_,_,_,_,hs,_=>by obtain⟨_,h⟩:=Ty.yf (t:= .str) hs;obtain⟨h,_⟩:=Ty.ye h;cases h
 |.unit,_,_,_,_,_,_,_,hs,_=>by obtain⟨_,h⟩:=Ty.yf (t:= .unit) hs;obtain⟨h,_⟩:=Ty.ye h;cases h
 |.arr n e,_,_,_,_,_,hn,_,_,_=>by cases hn
 |.err,_,_,_,_,_,_,_,hs,_=>by obtain⟨_,h⟩:=Ty.yf (t:= .err) hs;obtain⟨h,_⟩:=Ty.ye h;cases h
 |.opt _,_,_,_,_,_,_,_,hs,_=>by obtain⟨_,h⟩:=Ty.yf (t:= .opt _) hs;obtain⟨h,_⟩:=Ty.ye h;cases h
 |.map _ _,_,_,_,_,_,_,_,hs,_=>by obtain⟨_,h⟩:=Ty.yf (t:= .map _ _) hs;obtain⟨h,_⟩:=Ty.ye h;cases h
theorem qlp {m:Msk}{et:Nat}{e':Ty}{ys:List e'.den}{w:World}{F:Nat→Prop}:(t:Ty)→{x:t.den}→{o off:Nat}→{cs:List Value}→{bs:List Nat}→t.noArr=true→qcP w F (bcM m (o+off,o+off+1) t x o) cs bs→
  t.sub x off (.slice e')=some ys→m.at (o+off)=some et→∃p q,bs=p++q∧off<cs.length∧
  ∀(v':Value) (ys':List e'.den) (b':List Nat) (x':t.den),t.upd x off (.slice e') ys'=some x'→qar w F et e' ys' v' b'→
   qcP w F (bcM m (0,0) t x' o) (cs.take off++[v']++cs.drop (off+1)) (p++(b'++q))
 |.pair a b,x,o,off,cs,bs,hn,h,hs,hm=>by
  obtain⟨hna,hnb⟩:a.noArr=true∧b.noArr=true:=by simpa[Ty.noArr]using hn
  have hin:off<a.size+b.size:=Ty.yp (.pair a b) hs;have e:∀k0 x,bcM m k0 (.pair a b) x o=.pair (bcM m k0 a x.1 o) (bcM m k0 b x.2 (o+a.size)):=fun k0 x=>by
   conv=>lhs;unfold bcM
   rw[if_pos (Msk.yy hm (by omega) (by omega))]
  have hw:∀(u:List e'.den),Ty.whole (t:= .slice e') (.pair a b) u off=none:=fun u=>by
   unfold Ty.whole;split
   ·unfold Ty.as;rw[dif_neg (by intro h;cases h)]
   ·rfl
  rw[e]at h;simp only[Ty.sub]at hs;cases hz:Ty.whole (t:= .pair a b) (.slice e') x off with
  |some z=>
   obtain⟨_,hz'⟩:=Ty.yf hz;obtain⟨h0,_⟩:=Ty.ye hz';cases h0
  |none=>
   rw[hz]at hs;simp only at hs;obtain⟨c1,c2,b1,b2,rfl,rfl,h3,h4⟩:=h;have hl:=h3.length;rw[qha]at hl;have hl2:=h4.length;rw[qha]at hl2;split at hs
   ·rename_i hlt;obtain⟨p,q,g1,g2,g3⟩:=qlp a hna h3 hs hm;refine⟨p,q++b2,by rw[g1];simp,by rw[zag];omega,fun v' ys' b' x' hu ho=>?_⟩;simp only[Ty.upd,hw,if_pos hlt]at hu;cases hu1:a.upd x.1 off (.slice e') ys' with
    |none=>rw[hu1]at hu;cases hu
    |some z=>
     rw[hu1]at hu;injection hu with hu;subst hu;rw[e];rw[qki b _ _ (by omega)]at h4;refine⟨c1.take off++[v']++c1.drop (off+1),c2,p++(b'++q),b2,?_,by simp,g3 _ _ _ _ hu1 ho,h4⟩;rw[zaG (by omega),List.drop_append_of_le_length (by omega)];simp
   ·rename_i hlt;have e2:o+a.size+(off-a.size)=o+off:=by omega
    obtain⟨p,q,g1,g2,g3⟩:=qlp b (o:=o+a.size) (off:=off-a.size) hnb (by rw[e2];exact h4) hs (by rw[e2];exact hm);refine⟨b1++p,q,by rw[g1];simp,by rw[zag];omega,fun v' ys' b' x' hu ho=>?_⟩;simp only[Ty.upd,hw,if_neg hlt]at hu;cases hu1:b.upd x.2 (off-a.size) (.slice e') ys' with
    |none=>rw[hu1]at hu;cases hu
    |some z=>
     rw[hu1]at hu;injection hu with hu;subst hu;rw[e];rw[qki a _ _ (by omega)]at h3;refine⟨c1,c2.take (off-a.size)++[v']++c2.drop (off-a.size+1),b1,p++(b'++q),?_,by simp,h3,g3 _ _ _ _ hu1 ho⟩;rw[List.take_append,zas (l:=c1) (by omega),List.drop_append,za1 (l:=c1) (by omega),hl];simp[show off+1-a.size=off-a.size+1 by omega]
 |.slice e,xs,o,off,cs,bs,_,h,hs,hm=>by
  obtain⟨rfl,hz'⟩:=Ty.yf (t:= .slice e) hs;obtain⟨he,hz'⟩:=Ty.ye hz';injection he with he;subst he;subst hz';rw[zbf]at hm h;unfold bcM at h;rw[hm]at h;simp only[qoV,decide_true,if_true]at h;obtain⟨rfl,h2⟩:=h;refine⟨[],[],rfl,by omega,fun v' ys' b' x' hu ho=>?_⟩;have hx:ys'=x':=by
   have hu':Ty.whole (t:= .slice e) (.slice e) ys' 0=some x':=hu;rw[Ty.yi]at hu';injection hu'
  subst hx;unfold bcM;rw[hm];simp only[qft,za0,if_false];have hd:cs.drop (0+1)=[]:=za1 (by omega);exact⟨v',by rw[hd];simp,by simpa using ho⟩
 |.int _,_,_,_,_,_,_,_,hs,_=>by obtain⟨_,h⟩:=Ty.yf hs;obtain⟨h,_⟩:=Ty.ye h;cases h
 |.bool,_,_,_,_,_,_,_,hs,_=>by obtain⟨_,h⟩:=Ty.yf (t:= .bool) hs;obtain⟨h,_⟩:=Ty.ye h;cases h
 |.str,_,_,_,_,_,_,_,hs,_=>by obtain⟨_,h⟩:=Ty.yf (t:= .str) hs;obtain⟨h,_⟩:=Ty.ye h;cases h
 |.unit,_,_,_,_,_,_,_,hs,_=>by obtain⟨_,h⟩:=Ty.yf (t:= .unit) hs;obtain⟨h,_⟩:=Ty.ye h;cases h
 |.arr n e,_,_,_,_,_,hn,_,_,_=>by cases hn
 |.err,_,_,_,_,_,_,_,hs,_=>by obtain⟨_,h⟩:=Ty.yf (t:= .err) hs;obtain⟨h,_⟩:=Ty.ye h;cases h
 |.opt _,_,_,_,_,_,_,_,hs,_=>by obtain⟨_,h⟩:=Ty.yf (t:= .opt _) hs;obtain⟨h,_⟩:=Ty.ye h;cases h
 |.map _ _,_,_,_,_,_,_,_,hs,_=>by obtain⟨_,h⟩:=Ty.yf (t:= .map _ _) hs;obtain⟨h,_⟩:=Ty.ye h;cases h
theorem qqt {w:World}{F:Nat→Prop}{m:Msk}{k0:Nat×Nat}:(t:Ty)→{x:t.den}→{o off:Nat}→{cs:List Value}→{bs:List Nat}→{u:Ty}→{y:u.den}→{z:t.den}→{ds:List Value}→qcP w F (bcM m k0 t x o) cs bs→Rep w F u y ds→t.upd x off u y=some z→
  m.hits (o+off) (o+off+u.size)=false→off+u.size≤cs.length∧qcP w F (bcM m k0 t z o) (cs.take off++ds++cs.drop (off+u.size)) bs
 |.pair a b,x,o,off,cs,bs,u,y,z,ds,h,hy,hs,hm=>by
  cases hh:m.hits o (o+(a.size+b.size))with
  |false=>
   have e:∀z:(Ty.pair a b).den,bcM m k0 (.pair a b) z o=.val (.pair a b) z:=fun z=>qow _ _ _ hh;rw[e]at h;obtain⟨g1,g2⟩:=h.2.upd hy hs;rw[e];exact⟨g1,h.1,g2⟩
  |true=>
   have e:∀z:(Ty.pair a b).den,bcM m k0 (.pair a b) z o=.pair (bcM m k0 a z.1 o) (bcM m k0 b z.2 (o+a.size)):=fun z=>by
    conv=>lhs;unfold bcM
    rw[if_pos hh]
   rw[e]at h⊢
   simp only[Ty.upd]at hs;cases hz:Ty.whole (t:=u) (.pair a b) y off with
   |some z'=>
    obtain⟨rfl,hz'⟩:=Ty.yf hz;obtain⟨rfl,_⟩:=Ty.ye hz';rw[show o+0+(Ty.pair a b).size=o+(a.size+b.size)from rfl,zbf,hh]at hm;cases hm
   |none=>
    rw[hz]at hs;simp only at hs;obtain⟨c1,c2,b1,b2,rfl,rfl,h3,h4⟩:=h;have hl:=h3.length;rw[qha]at hl;have hd:=hy.length;split at hs
    ·cases hu:a.upd x.1 off u y with
     |none=>rw[hu]at hs;cases hs
     |some z1=>
      rw[hu]at hs;injection hs with hs;subst hs;obtain⟨g1,g2⟩:=qqt a h3 hy hu hm;exact⟨by rw[zag];omega,_,c2,b1,b2,qlj g1 hd,rfl,g2,h4⟩
    ·cases hu:b.upd x.2 (off-a.size) u y with
     |none=>rw[hu]at hs;cases hs
     |some z1=>
      rw[hu]at hs;injection hs with hs;subst hs;obtain⟨g1,g2⟩:=qqt b (off:=off-a.size) h4 hy hu (by rw[show o+a.size+(off-a.size)=o+off by omega];exact hm);refine⟨by rw[zag];omega,c1,_,b1,b2,qjF (by omega),rfl,h3,?_⟩;rw[hl];exact g2
 |.slice e,xs,o,off,cs,bs,u,y,z,ds,h,hy,hs,hm=>by
  obtain⟨rfl,hz'⟩:=Ty.yf (t:=u) hs;obtain⟨rfl,_⟩:=Ty.ye hz';rw[zbf]at hm;rw[qow _ _ _ hm]at h⊢
  obtain⟨g1,g2⟩:=h.2.upd hy hs;exact⟨g1,h.1,g2⟩
 |.int _,_,_,_,_,_,_,_,_,_,h,hy,hs,_=>(h.2.upd hy hs).imp id fun g=>⟨h.1,g⟩
 |.bool,_,_,_,_,_,_,_,_,_,h,hy,hs,_=>(h.2.upd hy hs).imp id fun g=>⟨h.1,g⟩
 |.str,_,_,_,_,_,_,_,_,_,h,hy,hs,_=>(h.2.upd hy hs).imp id fun g=>⟨h.1,g⟩
 |.unit,_,_,_,_,_,_,_,_,_,h,hy,hs,_=>(h.2.upd hy hs).imp id fun g=>⟨h.1,g⟩
 |.arr _ _,_,_,_,_,_,_,_,_,_,h,hy,hs,_=>(h.2.upd hy hs).imp id fun g=>⟨h.1,g⟩
 |.err,_,_,_,_,_,_,_,_,_,h,hy,hs,_=>(h.2.upd hy hs).imp id fun g=>⟨h.1,g⟩
 |.opt _,_,_,_,_,_,_,_,_,_,h,hy,hs,_=>(h.2.upd hy hs).imp id fun g=>⟨h.1,g⟩
 |.map _ _,_,_,_,_,_,_,_,_,_,h,hy,hs,_=>(h.2.upd hy hs).imp id fun g=>⟨h.1,g⟩
end Go.Vi
namespace Go.Vi
open Go.RowKit
theorem qdQ (us:List U):∀ {σ:St}{s:Nat},s∉us.map (·.s)→qt (qk σ us) s=qt σ s:=by
 induction us with
 |nil=>intro σ s _;rfl
 |cons u r ih=>
  intro σ s hs;rw[zaZ,zam,not_or]at hs;show qt (qk (qX σ u) r) s=_;rw[ih hs.2,qu _ _ hs.1]
theorem qcD (us:List U):∀ {σ:St}{u:U},(us.map (·.s)).Nodup→u∈us→u.s<σ.length→qt (qk σ us) u.s=((if u.bump then(qt σ u.s).1+1 else(qt σ u.s).1),u.a):=by
 induction us with
 |nil=>intro σ u _ hu;cases hu
 |cons v r ih=>
  intro σ u hn hu hlt;rw[zaZ,zax]at hn;show qt (qk (qX σ v) r) u.s=_;rcases zam.1 hu with rfl|hu
  ·rw[qdQ r hn.1,qS σ u hlt]
  ·have hne:u.s≠v.s:=fun e=>hn.1 (e▸zaR hu);rw[ih hn.2 hu (by rw[qal];exact hlt),qu _ _ hne]
theorem qac.multi {C:Ctx}{σ:St}{tm tm':Array Value}{w w':World}{own:Nat→List Nat}(h:qac C σ tm w own) (us:List U) (nb:Nat→List Nat) (hn:(us.map (·.s)).Nodup) (hlt:∀u∈us,u.s<σ.length)
  (htm:tm'.size=tm.size) (htms:∀s,s∉us.map (·.s)→tm'.getD s undef=tm.getD s undef)
  (hb:∀u∈us,u.bump=true∨(tm'.getD u.s undef=tm.getD u.s undef∧∀b,b∈own u.s→tm.getD u.s undef=ptr b 0→b∈nb u.s∧w'.heap[b]? =w.heap[b]?))
  (hk:qbc (fun k=>∃u∈us,k∈own u.s) w w')
  (hnb:∀u∈us,(∀b∈nb u.s,(w.heap.size≤b∧b<w'.heap.size)∨∃u0∈us,b∈own u0.s)∧(nb u.s).Nodup)
  (hap:∀u∈us,∀u'∈us,∀b,b∈nb u.s→b∈nb u'.s→u.s=u'.s)
  (hrep:∀X':Sit,X'.P=C.P→X'.pn=C.pn→X'.w=w'→(∀b,C.free w own b→X'.F b)→(∀b,(∃u∈us,b∈own u.s)→(∀u∈us,b∉nb u.s)→X'.F b)→(∀s,X'.ver s=(qt (qk σ us) s).1)→(∀s,X'.tm s=tm'.getD s undef)→
   ∀u∈us,qax X' u.a (tm'.getD u.s undef) (nb u.s))
  (hm:∀u∈us,∀m∈u.a.mentions,m.2≤(qt (qk σ us) m.1).1):
  ∃own',qac C (qk σ us) tm' w' own'∧(∀u∈us,own' u.s=nb u.s)∧(∀s,s∉us.map (·.s)→own' s=own s):=by
 classical
 let own':Nat→List Nat:=fun s=>if s∈us.map (·.s)then nb s else own s
 have oI:∀u∈us,own' u.s=nb u.s:=fun u hu=>by simp only[own',if_pos (zaR (f:=(·.s)) hu)]
 have oO:∀s,s∉us.map (·.s)→own' s=own s:=fun s hs=>by simp only[own',if_neg hs]
 have get:∀ {s},s∈us.map (·.s)→∃u∈us,u.s=s:=fun hs=>by
  obtain⟨u,hu,e⟩:=zaS.1 hs;exact⟨u,hu,e⟩
 refine⟨own',h.update (fun s=>s∈us.map (·.s)) (qO _ _) htm (fun s hs=>⟨qdQ us hs,htms s hs,oO s hs⟩) ?_ (hk.mono ?_) ?_ ?_ ?_ ?_ ?_,oI,oO⟩
 ·intro s hs;obtain⟨u,hu,rfl⟩:=get hs;rw[qcD us hn hu (hlt u hu)];rcases hb u hu with h1|⟨h1,h2⟩
  ·rw[if_pos h1];exact .inl (zbb _)
  ·by_cases hbp:u.bump=true
   ·rw[if_pos hbp];exact .inl (zbb _)
   ·rw[if_neg hbp];refine .inr ⟨rfl,h1,fun b hb hp=>?_⟩;rw[oI u hu];exact h2 b hb hp
 ·rintro k ⟨u,hu,hk⟩;exact⟨u.s,zaR hu,hk⟩
 ·intro s hs;obtain⟨u,hu,rfl⟩:=get hs;exact hlt u hu
 ·intro s hs;obtain⟨u,hu,rfl⟩:=get hs;rw[oI u hu];refine⟨fun b hbm=>?_,(hnb u hu).2⟩;rcases(hnb u hu).1 b hbm with h1|⟨u0,h0,h1⟩
  ·exact .inl h1
  ·exact .inr ⟨u0.s,zaR h0,h1⟩
 ·intro s s' b hs hs' hb1 hb2;obtain⟨u,hu,rfl⟩:=get hs;obtain⟨u',hu',rfl⟩:=get hs';rw[oI u hu]at hb1;rw[oI u' hu']at hb2;exact hap u hu u' hu' b hb1 hb2
 ·intro s hs;obtain⟨u,hu,rfl⟩:=get hs;rw[oI u hu,qcD us hn hu (hlt u hu)];refine hrep (sit C (qk σ us) tm' w' own') rfl rfl rfl (fun b hbf=>⟨hbf.1,zaE hbf.2.1 hk.size,fun s hs=>?_⟩) (fun b hbo hbn=>?_) (fun _=>rfl) (fun _=>rfl) u hu
  ·by_cases hm:s∈us.map (·.s)
   ·obtain⟨v,hv,rfl⟩:=get hm;rw[oI v hv]at hs;rcases(hnb v hv).1 b hs with h1|⟨u0,_,h1⟩
    ·have:=hbf.2.1;omega
    ·exact hbf.2.2 _ h1
   ·rw[oO s hm]at hs;exact hbf.2.2 _ hs
  ·obtain⟨v,hv,hbv⟩:=hbo;obtain⟨h1,h2⟩:=h.mine v.s b hbv;refine⟨.inr h1,zaE h2 hk.size,fun s hs=>?_⟩;by_cases hm:s∈us.map (·.s)
   ·obtain⟨v',hv',rfl⟩:=get hm;rw[oI v' hv']at hs;exact hbn v' hv' hs
   ·rw[oO s hm]at hs;exact hm (h.apart v.s s b hbv hs▸zaR hv)
 ·intro s hs m hmm;obtain⟨u,hu,rfl⟩:=get hs;rw[qcD us hn hu (hlt u hu)]at hmm;exact hm u hu m hmm
theorem qeU {w:World}{F:Nat→Prop}{t:Ty}{c:BC}{cs:List Value}{bs:List Nat}{x:t.den}(h:qaD w F c cs bs) (hs:c.size=t.size) (hg:BC.yl t c=some x):Rep w F t x cs:=by
 unfold BC.yl at hg;split at hg;case h_2=>cases hg
 rename_i y hy;injection hg with hg;subst hg;obtain⟨_,_,g3⟩:=h.get hy;have hl:=h.length;have:=g3 rfl;rwa [zbe,zas (by omega)]at this
theorem qsY {w:World}{F:Nat→Prop}{m:Msk}:(t:Ty)→{off:Nat}→{c:BC}→{cs:List Value}→{bs:List Nat}→{x:t.den}→qaD w F c cs bs→c.size=t.size→c.toM m t off=some x→
  ∃b1:List Nat,b1.Sublist bs∧qcP w F (bcM m (0,0) t x off) cs b1
 |.pair a b,off,c,cs,bs,x,h,hs,hx=>by
  unfold BC.toM at hx;split at hx
  ·rename_i hh;split at hx;case h_2=>cases hx
   rename_i ca cb;split at hx;case h_2=>cases hx
   rename_i xa xb ha hb;split at hx;case isFalse=>cases hx
   rename_i hsa;injection hx with hx;subst hx;obtain⟨c1,c2,b1,b2,rfl,rfl,h3,h4⟩:=h;have hs':ca.size+cb.size=a.size+b.size:=hs;obtain⟨p1,q1,r1⟩:=qsY a h3 hsa ha;obtain⟨p2,q2,r2⟩:=qsY b h4 (by omega) hb;refine⟨p1++p2,q1.append q2,?_⟩;unfold bcM;rw[if_pos hh];exact⟨c1,c2,p1,p2,rfl,rfl,r1,r2⟩
  ·rename_i hh;have:=qeU h hs hx;refine⟨[],List.nil_sublist _,?_⟩;rw[qow _ _ _ hh];exact⟨rfl,this⟩
 |.slice e,off,c,cs,bs,x,h,hs,hx=>by
  unfold BC.toM at hx;unfold bcM;split at hx
  ·rename_i et hat;split at hx;case h_2=>cases hx
   rename_i et' e' xs;split at hx;case isFalse=>cases hx
   rename_i hc;obtain⟨hc1,hc2⟩:=hc;subst hc1;obtain⟨e1,e2⟩:=Ty.ye hx;injection e1 with e1;subst e1;have e2:xs=x:=e2;subst e2;obtain⟨v,hv,ho⟩:=h;refine⟨bs,List.Sublist.refl _,?_⟩;simp only[qft,za0,if_false];exact⟨v,hv,ho.to0 hc2⟩
  ·exact⟨[],List.nil_sublist _,rfl,qeU h hs hx⟩
 |.int _,_,_,_,_,_,h,hs,hx=>⟨[],List.nil_sublist _,rfl,qeU h hs hx⟩
 |.bool,_,_,_,_,_,h,hs,hx=>⟨[],List.nil_sublist _,rfl,qeU (t:= .bool) h hs hx⟩
 |.str,_,_,_,_,_,h,hs,hx=>⟨[],List.nil_sublist _,rfl,qeU (t:= .str) h hs hx⟩
 |.unit,_,_,_,_,_,h,hs,hx=>⟨[],List.nil_sublist _,rfl,qeU (t:= .unit) h hs hx⟩
 |.arr _ _,_,_,_,_,_,h,hs,hx=>⟨[],List.nil_sublist _,rfl,qeU h hs hx⟩
 |.err,_,_,_,_,_,h,hs,hx=>⟨[],List.nil_sublist _,rfl,qeU (t:= .err) h hs hx⟩
 |.opt _,_,_,_,_,_,h,hs,hx=>⟨[],List.nil_sublist _,rfl,qeU h hs hx⟩
 |.map _ _,_,_,_,_,_,h,hs,hx=>⟨[],List.nil_sublist _,rfl,qeU h hs hx⟩
theorem qaD.remask {w:World}{F:Nat→Prop}(l:List Nat): {c:BC}→{cs:List Value}→qaD w F c cs []→qaD w F (c.remask l) cs []
 |.val _ _,_,h=>h
 |.hole _,_,h=>h
 |.pair a b,_,⟨c1,c2,b1,b2,h1,h2,h3,h4⟩=>by
  obtain⟨rfl,rfl⟩:=List.append_eq_nil_iff.1 h2.symm;exact⟨c1,c2,[],[],h1,rfl,h3.remask l,h4.remask l⟩
 |.own et e xs,cs,⟨v,hv,h⟩=>by
  cases xs with
  |cons x r=>exact⟨v,hv,h⟩
  |nil=>
   refine⟨v,hv,?_⟩;obtain⟨cells,bss,ho,_,hbs,_⟩:=h;rcases ho.2 with⟨h1,_⟩|⟨g,cap,cur,h1,_⟩
   ·rw[h1];exact q8.nil_ _ _ _ _
   ·rw[h1]at hbs;simp[Value.ownBlock]at hbs
theorem qho.cap {w:World}{F:Nat→Prop}{et:Nat}{e:Ty}{hl:Int×Nat×Nat}{xs:List e.den}{g n cap:Nat}{bs:List Nat}(h:qho w F et e hl xs (.slice (some ⟨g,0,none⟩) n cap) bs):n=xs.length:=by
 obtain⟨cells,ho⟩:=h.hdr;rcases ho.2 with⟨h,_⟩|⟨g',cap',cur,h,_⟩
 ·cases h
 ·injection h
theorem qhj {bss:List (List Nat)}{i:Nat}(h:i<bss.length):bss.flatten=(bss.take i).flatten++(bss[i]++(bss.drop (i+1)).flatten):=by
 conv=>lhs;rw[←zaK i bss]
 rw[List.flatten_append,zaO h,zaX]
theorem qiI {bss:List (List Nat)}{i:Nat}(h:i<bss.length) (b:List Nat):(bss.set i b).flatten=(bss.take i).flatten++(b++(bss.drop (i+1)).flatten):=by
 rw[qhj (bss:=bss.set i b) (i:=i) (by simpa using h)];rw[List.take_set_of_le (zay _),List.getElem_set_self,List.drop_set_of_lt (by omega)]
theorem qjb {i:Int}{o:Nat×Nat}(h:0≤i):qoP (i,o) i.toNat=o:=if_pos (by show i=(i.toNat:Int);omega)
theorem qmB {i:Int}{o:Nat×Nat}{j:Nat}(h:0≤i) (hne:i.toNat≠j):qoP (i,o) j=(0,0):=if_neg (by show ¬i=(j:Int);omega)
theorem qho.take {w:World}{F:Nat→Prop}{et:Nat}{e:Ty}{xs:List e.den}{g n cap:Nat}{bs:List Nat}{i:Int}{off et':Nat}{e':Ty}{ys:List e'.den}(hrow:qho w F et e (-1,0,0) xs (.slice (some ⟨g,0,none⟩) n cap) bs)
  (k2:0≤i) (k3:i<n) (hn:e.noArr=true) (hs:e.sub (qh xs i e.dflt) off (.slice e')=some ys) (hm:(etM et).at off=some et'):
  ∃hv b1 p q,w.cell? ⟨g,i.toNat*e.size+off,none⟩=some hv∧bs=g::(p++(b1++q))∧qar w F et' e' ys hv b1∧qho w F et e (i,off,off+1) xs (.slice (some ⟨g,0,none⟩) n cap) (g::(p++q)):=by
 have hnn:=hrow.cap;subst hnn;obtain⟨cells,bss,ho,hlb,hbs,hx⟩:=hrow;have hi:i.toNat<xs.length:=by omega
 rw[show qh xs i e.dflt=xs[i.toNat]from qeO (zaa hi)]at hs;have hib:i.toNat<bss.length:=by omega
 have hin:i.toNat*e.size+e.size≤xs.length*e.size:=by rw[←Nat.succ_mul];exact zaq _ hi
 have hcl:cells.length=xs.length*e.size:=ho.1;have hlt:=Ty.yp e hs;obtain⟨v,p,b1,q,g1,g2,g3,g4⟩:=qnY e (o:=0) hn (hx i.toNat _ _ (zaa hi) (zaa hib)) hs (by rw[zaM];exact hm);rw[zaM]at g4;refine⟨v,b1,(bss.take i.toNat).flatten++p,q++(bss.drop (i.toNat+1)).flatten,?_,?_,g3,cells,bss.set i.toNat (p++q),ho,by simpa using hlb,?_,fun j x b hj hb=>?_⟩
 ·have:=ho.cells (g:=g) rfl (i.toNat*e.size+off) v (by
   rw[zal,if_pos hlt,zan]at g1;exact g1)
  rwa [qL,zaM]at this
 ·rw[hbs,qhj hib,g2];simp[Value.ownBlock]
 ·rw[qiI hib];simp[Value.ownBlock]
 ·by_cases hji:i.toNat=j
  ·subst hji;rw[List.getElem?_set_self hib]at hb;injection hb with hb;subst hb;rw[zaa hi]at hj;injection hj with hj;subst hj;rw[qjb k2];exact g4
  ·rw[List.getElem?_set_ne hji]at hb;rw[qmB k2 hji];exact hx j x b hj hb
theorem qho.refill {w:World}{F:Nat→Prop}{et:Nat}{e:Ty}{xs:List e.den}{g n cap:Nat}{bs:List Nat}{i:Int}{off et':Nat}{e':Ty}{ys ys':List e'.den}{x':e.den}{hv:Value}{b':List Nat}
  (hrow:qho w F et e (i,off,off+1) xs (.slice (some ⟨g,0,none⟩) n cap) bs)
  (k2:0≤i) (k3:i<n) (hn:e.noArr=true) (hs:e.sub (qh xs i e.dflt) off (.slice e')=some ys) (hm:(etM et).at off=some et') (hu:e.upd (qh xs i e.dflt) off (.slice e') ys'=some x')
  (hc:w.cell? ⟨g,i.toNat*e.size+off,none⟩=some hv) (hr:qar w F et' e' ys' hv b'):
  ∃p q,bs=g::(p++q)∧qho w F et e (-1,0,0) (qbh xs i x') (.slice (some ⟨g,0,none⟩) n cap) (g::(p++(b'++q))):=by
 have hnn:=hrow.cap;subst hnn;obtain⟨cells,bss,ho,hlb,hbs,hx⟩:=hrow;have hi:i.toNat<xs.length:=by omega
 rw[show qh xs i e.dflt=xs[i.toNat]from qeO (zaa hi)]at hs hu;have hib:i.toNat<bss.length:=by omega
 have hin:i.toNat*e.size+e.size≤xs.length*e.size:=by rw[←Nat.succ_mul];exact zaq _ hi
 have hcl:cells.length=xs.length*e.size:=ho.1;have hlt:=Ty.yp e hs;have hx0:=hx i.toNat _ _ (zaa hi) (zaa hib);rw[qjb k2]at hx0;obtain⟨p,q,g1,g2,g3⟩:=qlp e (o:=0) (off:=off) hn (by rw[zaM];exact hx0) hs (by rw[zaM];exact hm);have g4:=g3 hv ys' b' x' hu hr;have hlx:(qbh xs i x').length=xs.length:=by simp[qbL]
 have hcell:((cells.drop (i.toNat*e.size)).take e.size)[off]? =some hv:=by
  have h1:=ho.cellAt (i.toNat*e.size+off) (by omega);rw[hc]at h1;rw[zal,if_pos hlt,zan];exact h1.symm
 have hsame:((cells.drop (i.toNat*e.size)).take e.size).take off++[hv]++((cells.drop (i.toNat*e.size)).take e.size).drop (off+1)=(cells.drop (i.toNat*e.size)).take e.size:=by
  generalize ((cells.drop (i.toNat*e.size)).take e.size)=c at hcell g2⊢
  obtain⟨h1,h2⟩:=zao.1 hcell;subst h2;rw[zaC];conv=>rhs;rw[←zaK off c,zaO h1]
  rfl
 rw[hsame]at g4;refine⟨(bss.take i.toNat).flatten++p,q++(bss.drop (i.toNat+1)).flatten,?_,cells,bss.set i.toNat (p++(b'++q)),by rw[hlx];exact ho,by rw[hlx];simpa using hlb,?_,fun j x b hj hb=>?_⟩
 ·rw[hbs,qhj hib,g1];simp[Value.ownBlock]
 ·rw[qiI hib];simp[Value.ownBlock]
 ·simp only[qbL]at hj;rw[qcc];by_cases hji:i.toNat=j
  ·subst hji;rw[List.getElem?_set_self hib]at hb;injection hb with hb;subst hb;rw[List.getElem?_set_self hi]at hj;injection hj with hj;subst hj;exact g4
  ·rw[List.getElem?_set_ne hji]at hb hj;have:=hx j x b hj hb;rwa [qmB k2 hji,←qcc (j:=j) (p:=(0,0))]at this
theorem qcU {b b' off off':Nat}(h:ptr b off=ptr b' off'):b=b'∧off=off':=by
 simp[ptr]at h;exact h
theorem qaD.row {w:World}{F:Nat→Prop}{et:Nat}{e:Ty}{xs:List e.den}: {c:BC}→{cs:List Value}→{bs:List Nat}→{off:Nat}→qaD w F c cs bs→c.row off=some (et,⟨e,xs⟩)→
  ∃v b1 b2 b3,cs[off]? =some v∧q8 w F et e xs v b2∧bs=b1++(b2++b3)∧∀ {w':World}{F':Nat→Prop}(n c':BC) (b2':List Nat),(∀b,F b→b<w.heap.size→F' b∧b<w'.heap.size∧w'.heap[b]? =w.heap[b]?)→
   (∀b,b∈b1∨b∈b3→b<w.heap.size→w'.heap[b]? =w.heap[b]?)→c.swap off n=some c'→qaD w' F' n [v] b2'→qaD w' F' c' cs (b1++(b2'++b3))
 |.own et' e' xs',cs,bs,off,⟨v,h1,h2⟩,hr=>by
  simp only[BC.row]at hr;split at hr
  ·rename_i h0;subst h0;injection hr with hr;injection hr with e1 e2;subst e1;injection e2 with e2 e3;subst e2;have e3:=eq_of_heq e3;subst e3;subst h1;refine⟨v,[],bs,[],rfl,h2,by simp,fun n c' b2' _ _ hsw hn=>?_⟩;simp only[BC.swap,if_true]at hsw;injection hsw with hsw;subst hsw;simpa using hn
  ·cases hr
 |.pair a b,cs,bs,off,⟨c1,c2,b1,b2,h1,h2,h3,h4⟩,hr=>by
  simp only[BC.row]at hr;have hl:=h3.length;split at hr
  ·rename_i hlt;obtain⟨v,p1,p2,p3,q1,q2,q3,q4⟩:=h3.row hr;refine⟨v,p1,p2,p3++b2,by rw[h1,zaP (by omega)];exact q1,q2,by rw[h2,q3];simp,fun n c' b2' hF hB hsw hn=>?_⟩;simp only[BC.swap,if_pos hlt,zaB]at hsw;obtain⟨z,z1,rfl⟩:=hsw;exact⟨c1,c2,p1++(b2'++p3),b2,h1,by simp,q4 n z b2' hF (fun x hx=>hB x (hx.imp id (fun hx=>zac _ hx))) z1 hn,h4.keep hF (fun x hx=>hB x (.inr (zab _ hx)))⟩
  ·rename_i hlt;obtain⟨v,p1,p2,p3,q1,q2,q3,q4⟩:=h4.row hr;refine⟨v,b1++p1,p2,p3,by rw[h1,zaL (by omega),hl];exact q1,q2,by rw[h2,q3];simp,fun n c' b2' hF hB hsw hn=>?_⟩;simp only[BC.swap,if_neg hlt,zaB]at hsw;obtain⟨z,z1,rfl⟩:=hsw;exact⟨c1,c2,b1,p1++(b2'++p3),h1,by simp,h3.keep hF (fun x hx=>hB x (.inl (zac _ hx))),q4 n z b2' hF (fun x hx=>hB x (hx.imp (fun hx=>zab _ hx) id)) z1 hn⟩
 |.val _ _,_,_,_,_,hr=>by cases hr
 |.hole _,_,_,_,_,hr=>by cases hr
theorem qac.holeIn {C:Ctx}{σ:St}{tm:Array Value}{w:World}{own:Nat→List Nat}(h:qac C σ tm w own) {s:Nat}{fo:Option Nat}{et:Nat}{e:Ty}{xs:List e.den}{g n cap:Nat}{i:Int}{off et':Nat}{e':Ty}{ys:List e'.den}
  (hr:(qt σ s).2.rowAt fo=some (et,⟨e,xs⟩)) (hv:qc6 (sit C σ tm w own) s fo (.slice (some ⟨g,0,none⟩) n cap)) (k2:0≤i) (k3:i<(n:Int)) (hn:e.noArr=true) (hs:e.sub (qh xs i e.dflt) off (.slice e')=some ys) (hm:(etM et).at off=some et'):
  s<σ.length∧∃(hv:Value) (bi nbS:List Nat),w.cell? ⟨g,i.toNat*e.size+off,none⟩=some hv∧qar w (C.free w own) et' e' ys hv bi∧(own s).Perm (bi++nbS)∧(∀b,b∈own s→tm.getD s undef=ptr b 0→b∈nbS)∧
   ∀(X':Sit) (t v0:Nat),X'.w=w→(∀b,C.free w own b→X'.F b)→X'.tm t=hv→qnf X' (qt σ s).2 fo i off t v0 (tm.getD s undef) nbS:=by
 have hat:=h.at_ s;have hlt:s<σ.length:=by
  apply Classical.byContradiction;intro hn;have:qt σ s=(0,.undef):=by simp[qt,List.getD,zaD (Nat.le_of_not_lt hn)]
  rw[this]at hr;cases hr
 refine⟨hlt,?_⟩;have hnd:=h.nodup s;generalize hg:(qt σ s).2=av at hat hr⊢
 cases av with
 |own et0 e0 xs0=>
  cases fo with
  |some _=>cases hr
  |none=>
   simp only[AV.rowAt]at hr;injection hr with hr;injection hr with e1 e2;subst e1;injection e2 with e2 e3;subst e2;have e3:=eq_of_heq e3;subst e3;have hv:tm.getD s undef=.slice (some ⟨g,0,none⟩) n cap:=hv;rw[hv]at hat⊢
   obtain⟨c,b1,p,q,q1,q2,q3,q4⟩:=qho.take hat k2 k3 hn hs hm;refine⟨c,b1,g::(p++q),q1,q3,?_,(fun b _ hp=>by cases hp),fun X' t v0 hw hF ht=>⟨et0,e0,xs0,g,n,cap,_,rfl,k2,k3,?_,fun _=>by rw[hw,ht];exact q1,rfl,rfl⟩⟩
   ·rw[q2];refine List.perm_iff_count.2 fun x=>?_;simp only[List.count_append,List.count_cons];omega
   ·rw[hw];exact q4.keep (fun b hb hlt=>⟨hF b hb,hlt,rfl⟩) (fun _ _ _=>rfl)
 |box c=>
  cases fo with
  |none=>cases hr
  |some o=>
   have hr:c.row o=some (et,⟨e,xs⟩):=hr;obtain⟨b,cs,bs',te,h1,h2,h3,h4⟩:=hat;have h1:tm.getD s undef=ptr b 0:=h1;have h2:w.heap[b]? =some (.cells cs.toArray te (0,0)):=h2;obtain⟨v',p1,p2,p3,r1,r2,r3,r4⟩:=h3.row hr;obtain⟨b',_,m2,m3⟩:=hv;have m2:tm.getD s undef=ptr b' 0:=m2;rw[h1]at m2;obtain⟨rfl,_⟩:=qcU m2;have hvv:v'=.slice (some ⟨g,0,none⟩) n cap:=by
    have:w.cell? ⟨b,o,none⟩=cs[o]? :=by simp[World.cell?,h2]
    have m3:w.cell? ⟨b,o,none⟩=some (.slice (some ⟨g,0,none⟩) n cap):=m3;rw[this,r1]at m3;injection m3
   subst hvv;obtain⟨hc,b1,p,q,q1,q2,q3,q4⟩:=qho.take r2 k2 k3 hn hs hm;have h4:own s=b::bs':=h4;refine⟨hc,b1,b::(p1++((g::(p++q))++p3)),q1,q3,?_,fun x _ hp=>?_,fun X' t v0 hw hF ht=>⟨et,e,xs,g,n,cap,g::(p++q),hr,k2,k3,?_,fun _=>by rw[hw,ht];exact q1,b,cs,te,p1,p3,h1,by rw[hw];exact h2,r1,?_,rfl⟩⟩
   ·rw[h4,r3,q2];refine List.perm_iff_count.2 fun x=>?_;simp only[List.count_append,List.count_cons];omega
   ·rw[h1]at hp;obtain⟨rfl,_⟩:=qcU hp;exact zai
   ·rw[hw];exact q4.keep (fun b hb hlt=>⟨hF b hb,hlt,rfl⟩) (fun _ _ _=>rfl)
   ·rw[hw];intro w2 F2 n' c' b2' f1 f2 f3 f4;exact r4 n' c' b2' (fun x hx hlt=>f1 x (hF x hx) hlt) f2 f3 f4
 |_=>cases hr
theorem qac.holRow {C:Ctx}{σ:St}{tm:Array Value}{w:World}{own:Nat→List Nat}(h:qac C σ tm w own) {s:Nat}{av:AV}{fo:Option Nat}{i:Int}{o1 t v0:Nat}{et:Nat}{e:Ty}{xs:List e.den}(hs:(qt σ s).2=.hol av fo i o1 t v0) (hr:av.rowAt fo=some (et,⟨e,xs⟩)):
  ∃(g n cap:Nat) (b1 b2 b3:List Nat),0≤i∧i<(n:Int)∧qho w (C.free w own) et e (i,o1,o1+1) xs (.slice (some ⟨g,0,none⟩) n cap) b2∧qc6 (sit C σ tm w own) s fo (.slice (some ⟨g,0,none⟩) n cap)∧
   ((qt σ t).1=v0→w.cell? ⟨g,i.toNat*e.size+o1,none⟩=some (tm.getD t undef))∧own s=b1++(b2++b3)∧(∀b,tm.getD s undef=ptr b 0→b∉b2)∧
   ∀(X':Sit) (m:BC) (b2':List Nat) (a':AV),qbc (fun k=>k∈b2) w X'.w→(∀b,C.free w own b→X'.F b)→qaD X'.w X'.F m [.slice (some ⟨g,0,none⟩) n cap] b2'→av.swapRow m fo=some a'→qax X' a' (tm.getD s undef) (b1++(b2'++b3))∧a'.mentions=[]:=by
 have hat:=h.at_ s;rw[hs]at hat;have hnd:=h.nodup s;obtain⟨et0,e0,xs0,g,n,cap,b2,h1,h2,h3,h4,h5,h6⟩:=hat;rw[hr]at h1;injection h1 with h1;injection h1 with h1 h1';subst h1;injection h1' with h1 h1';subst h1;have h1':=eq_of_heq h1';subst h1';cases av with
 |own et1 e1 xs1=>
  cases fo with
  |some _=>cases hr
  |none=>
   obtain⟨k1,k2⟩:=h6;have k1:tm.getD s undef=.slice (some ⟨g,0,none⟩) n cap:=k1;have k2:own s=b2:=k2;refine⟨g,n,cap,[],b2,[],h2,h3,h4,k1,h5,by simp[k2],(fun b hb=>by rw[k1]at hb;cases hb),fun X' m b2' a' hk hF hm hsw=>?_⟩;rw[k1];cases m with
   |own et2 e2 xs2=>
    simp only[AV.swapRow]at hsw;injection hsw with hsw;subst hsw;obtain⟨v',hv',hm⟩:=hm;injection hv' with hv';subst hv';have e0:([]:List Nat)++(b2'++[])=b2':=by simp
    rw[e0];exact⟨hm,rfl⟩
   |hole k=>
    simp only[AV.swapRow]at hsw;injection hsw with hsw;subst hsw;exact⟨trivial,rfl⟩
   |val _ _=>cases hsw
   |pair _ _=>cases hsw
 |box c=>
  cases fo with
  |none=>cases hr
  |some o=>
   obtain⟨b,cs,te,b1,b3,k1,k2,k3,k4,k5⟩:=h6;have k1:tm.getD s undef=ptr b 0:=k1;have k2:w.heap[b]? =some (.cells cs.toArray te (0,0)):=k2;have k5:own s=b::(b1++(b2++b3)):=k5;rw[k5]at hnd;have hnd0:=zax.1 hnd;have hnd1:=zah.1 hnd0.2;have hnd2:=zah.1 hnd1.2.1;have hb2:b∉b2:=fun hb=>hnd0.1 (zab _ (zac _ hb));refine⟨g,n,cap,b::b1,b2,b3,h2,h3,h4,⟨b,by show b∈own s;rw[k5];exact zai,k1,?_⟩,h5,by simp[k5],fun x hx=>?_,fun X' m b2' a' hk hF hm hsw=>?_⟩
   ·show w.cell? ⟨b,o,none⟩=_;simp[World.cell?,k2,k3]
   ·rw[k1]at hx;obtain⟨rfl,_⟩:=qcU hx;exact hb2
   ·simp only[AV.swapRow,zaB]at hsw;obtain⟨c',c1,rfl⟩:=hsw;refine⟨⟨b,cs,b1++(b2'++b3),te,k1,?_,k4 m c' b2' (fun x hx hlt=>?_) (fun x hx hlt=>hk.block x hlt fun hx2=>?_) c1 hm,rfl⟩,rfl⟩
    ·rw[hk.block b (zav.1 k2).1 hb2];exact k2
    ·refine⟨hF x hx,zaE hlt hk.size,hk.block x hlt fun hx2=>?_⟩;have hx:C.free w own x:=hx;exact hx.2.2 s (by rw[k5];exact zae _ (zab _ (zac _ hx2)))
    ·rcases hx with hx|hx
     ·exact hnd1.2.2 x hx x (zac _ hx2) rfl
     ·exact hnd2.2.2 x hx2 x hx rfl
 |_=>cases hr
end Go.Vi
namespace Go.Vi
open Go.RowKit
section
variable {C:Ctx}{E:Env}{σ:St}{a:Act}{w w':World}{own:Nat→List Nat}{o:Oper} [Tabbed E C]
theorem qI {us:List U}{f:Eff}{lk:Nat→Ent}(h:(okE us).run lk=some f):f=⟨us,[]⟩:=(Q.yc h).symm
theorem qd0 (a:Act) {d:Nat}(h:o.dst=some d) (v:Value):(a.put o.dst v).tmps=a.tmps.setIfInBounds d v:=by rw[h];rfl
theorem qnV (h:qac C σ a.tmps w own) {x1:Op1}{v:Value}(ho:qbB (sit C σ a.tmps w own) x1 v) (hw:∀m∈x1.a.mentions,m.2≤(qt σ m.1).1) (hs:∀s,x1.s=some s→x1.a≠ .undef→s<σ.length) {as:Bool}{f:Eff}(hpt:qt7 (sit C σ a.tmps w own)) (hpn:∀k∈E.pins,∃b,C.pn k=some b)
  (he:(qoM E.pins o as x1).run (qt σ)=some f) (hd:∀u∈f.upd,u.s<σ.length) (hr:(execOp a.eval o).run C.P w=.ok (.value v) w):qcW C o a w (qk σ f.upd):=by
 obtain⟨os,ov,oa⟩:=x1;have trans:∀(s d:Nat) (av av':AV),os=some s→oa=av→o.dst=some d→s≠d→f.upd=[⟨d,true,av⟩,⟨s,true,av'⟩]→av.mentions=[]→
   (∀X:Sit,X.ver d=(qt σ d).1+1→X.tm d=a.tmps.getD s undef→qax X av' (a.tmps.getD s undef) [])→(∀m∈av'.mentions,m=(d,(qt σ d).1+1))→qcW C o a w (qk σ f.upd):=by
  intro s d av av' h1 h2 h3 h4 h5 h6 h7 h8;subst h1;subst h2;obtain⟨e1,e2,e3⟩:=ho;rw[h5]at hd⊢
  refine qz hr ?_;rw[qd0 a h3,e1];exact h.transfer (hd ⟨s,true,av'⟩ (by simp)) (hd ⟨d,true,oa⟩ (by simp)) h4 (by have e4:=e3;rw[e1]at e4;exact e4) h6 h7 h8
 unfold qoM at he;split at he
 ·rename_i s et e xs h1 h2;simp only at h1 h2;subst h1;subst h2;split at he
  ·split at he
   ·rename_i d hdst;split at he
    ·cases he
    ·rename_i hne;rw[Q.yd]at he;have:=qI he;subst this;exact trans s d _ _ rfl rfl hdst hne rfl rfl (fun X h1 h2=>⟨rfl,fun _=>h2⟩) (fun m hm=>by simpa[AV.mentions]using hm)
   ·cases he
  ·have:=qI he;subst this;obtain⟨e1,e2,e3⟩:=ho;refine qz hr (h.dst0 hd ⟨rfl,fun _=>e1.symm⟩ (fun m hm=>?_));simp[AV.mentions]at hm;subst hm;exact Nat.le_of_eq e2
 ·rename_i s et e xs h1 h2;simp only at h1 h2;subst h1;subst h2;split at he
  ·split at he
   ·rename_i d hdst;split at he
    ·cases he
    ·rename_i hne;rw[Q.yd]at he;have:=qI he;subst this;exact trans s d _ _ rfl rfl hdst hne rfl rfl (fun X h1 h2=>⟨rfl,fun _=>h2⟩) (fun m hm=>by simpa[AV.mentions]using hm)
   ·cases he
  ·have:=qI he;subst this;obtain⟨e1,e2,e3⟩:=ho;refine qz hr (h.dst0 hd ⟨rfl,fun _=>e1.symm⟩ (fun m hm=>?_));simp[AV.mentions]at hm;subst hm;exact Nat.le_of_eq e2
 ·rename_i s c h1 h2;simp only at h1 h2;subst h1;subst h2;have hbox:∃b,v=ptr b 0:=by
   obtain⟨_,_,b,_,_,_,e,_⟩:=ho;exact⟨b,e⟩
  split at he
  ·rename_i hpin;have:=qI he;subst this;obtain⟨b,hb⟩:=hpn s (by simpa using hpin);have h1:=hpt s b hb;obtain⟨e1,_,_⟩:=ho;exact qz hr (h.dst0 hd ⟨rfl,b,hb,by rw[e1];exact h1⟩ (fun m hm=>by cases hm))
  split at he
  ·split at he
   ·rename_i d hdst;split at he
    ·cases he
    ·rename_i hne;rw[Q.yd]at he;have:=qI he;subst this;obtain⟨b,hb⟩:=hbox;have hv:a.tmps.getD s undef=ptr b 0:=by rw[←hb];exact ho.1.symm
     exact trans s d _ _ rfl rfl hdst hne rfl rfl (fun X h1 h2=>⟨rfl,fun _=>⟨b,by rw[h2,hv],hv⟩⟩) (fun m hm=>by simpa[AV.mentions]using hm)
   ·cases he
  ·have:=qI he;subst this;obtain⟨e1,e2,e3⟩:=ho;obtain⟨b,hb⟩:=hbox;refine qz hr (h.dst0 hd ⟨rfl,fun _=>⟨b,by rw[←e1,hb],hb⟩⟩ (fun m hm=>?_));simp[AV.mentions]at hm;subst hm;exact Nat.le_of_eq e2
 ·rename_i s c h1 h2;simp only at h1 h2;subst h1;subst h2;split at he
  ·rename_i d hdst;split at he
   ·cases he
   ·rename_i hne;have:=qI he;subst this;exact trans s d _ _ rfl rfl hdst hne rfl rfl (fun X h1 h2=>trivial) (fun m hm=>by cases hm)
  ·cases he
 ·rename_i s c h1 h2;simp only at h1 h2;subst h1;subst h2;split at he
  ·rename_i d hdst;split at he
   ·cases he
   ·rename_i hne;have:=qI he;subst this;exact trans s d _ _ rfl rfl hdst hne rfl rfl (fun X h1 h2=>trivial) (fun m hm=>by cases hm)
  ·cases he
 ·rename_i s bv i0 o0 t0 w0 h1 h2;simp only at h1 h2;subst h1;subst h2;split at he
  ·cases he
  ·have:=qI he;subst this;obtain⟨e1,e2,e3⟩:=ho;refine qz hr (h.dst0 hd ⟨rfl,fun _=>e1.symm⟩ (fun m hm=>?_));simp[AV.mentions]at hm;subst hm;exact Nat.le_of_eq e2
 ·rename_i et e xs h1 h2;simp only at h1 h2;subst h1;subst h2;have:=qI he;subst this;exact qz hr (h.dst0 hd ho (fun m hm=>by cases hm))
 ·rename_i s v0 h2;simp only at h2;subst h2;split at he
  ·rename_i hcond;simp only[zad,beq_iff_eq]at hcond;rw[Q.yd]at he;split at he
   ·rename_i hv;have:=qI he;subst this;have hu:a.tmps.getD s undef=v:=(ho.unowned rfl).2 hv;refine qz hr ⟨own,?_⟩;have e:(a.put o.dst v).tmps=a.tmps:=by
     rw[qd0 a hcond.2,←hu];apply Array.ext';rw[Array.toList_setIfInBounds];by_cases hl:s<a.tmps.size
     ·rw[zaA,zaF hl,Option.getD_some];exact List.set_getElem_self (by simpa using hl)
     ·exact List.set_eq_of_length_le (by simpa using Nat.le_of_not_lt hl)
    show qac C σ _ w own;rw[e];exact h
   ·cases he
  ·have:=qI he;subst this;exact qz hr (h.dst0 hd (ho.unowned rfl) hw)
 ·split at he
  ·rename_i hu;have:=qI he;subst this;exact qz hr (h.dst0 hd (ho.unowned hu) hw)
  ·cases he
theorem qeQ (h:qac C σ a.tmps w own) (hpt:qt7 (sit C σ a.tmps w own)) {x1:Op1}{v:Value}(ho:qbB (sit C σ a.tmps w own) x1 v) {s off:Nat}{v0:Option Nat}(hb:qhn x1=some (s,v0,off)) (hv:vOk (qt σ s).1 v0=true):∃b,a.tmps.getD s undef=ptr b 0∧v=ptr b off∧(v0=none→C.pn s=some b):=by
 obtain⟨os,ov,oa⟩:=x1;unfold qhn at hb;split at hb
 ·rename_i s' c h1 h2;simp only at h1 h2;subst h1;subst h2;injection hb with hb;injection hb with h3 h4;injection h4 with h4 h5;subst h3;subst h5;obtain⟨e1,_,b,_,_,_,e2,_⟩:=ho;exact⟨b,by rw[←e2];exact e1.symm,e2,fun h=>by rw[←h4]at h;cases h⟩
 ·rename_i s' _ _ _ _ _ _ h1 h2;simp only at h1 h2;subst h1;subst h2;injection hb with hb;injection hb with h3 h4;injection h4 with h4 h5;subst h3;subst h5;obtain⟨e1,_,_,_,_,_,_,_,_,_,_,_,_,_,b,_,_,_,_,e2,_⟩:=ho;exact⟨b,by rw[←e2];exact e1.symm,e2,fun h=>by rw[←h4]at h;cases h⟩
 ·rename_i s' v' off' h2;simp only at h2;subst h2;injection hb with hb;injection hb with h3 h4;injection h4 with h4 h5;subst h3;subst h4;subst h5;obtain⟨b,k1,k2⟩:=(ho.unowned rfl).2 (of_decide_eq_true hv);exact⟨b,k1,k2,fun h=>by cases h⟩
 ·rename_i k' off' h2;simp only at h2;subst h2;injection hb with hb;injection hb with h3 h4;injection h4 with h4 h5;subst h3;subst h4;subst h5;obtain⟨_,b,k1,k2⟩:=ho.unowned rfl;exact⟨b,hpt _ b k1,k2,fun _=>k1⟩
 ·cases hb
theorem qq5 {v0:Option Nat}{s off b:Nat}{v:Value}(h:qac C σ a.tmps w own) (hv:vOk (qt σ s).1 v0=true) (h1:a.tmps.getD s undef=ptr b 0) (h2:v=ptr b off) (h3:v0=none→C.pn s=some b):
  qax (sit C σ a.tmps w own) (qtO s off v0) v []∧∀m∈(qtO s off v0).mentions,m.2≤(qt σ m.1).1:=by
 cases v0 with
 |some v0=>
  refine⟨⟨rfl,fun _=>⟨b,h1,h2⟩⟩,fun m hm=>?_⟩;simp[qtO,AV.mentions]at hm;subst hm;exact Nat.le_of_eq (of_decide_eq_true hv).symm
 |none=>exact⟨⟨rfl,b,h3 rfl,h2⟩,fun m hm=>by cases hm⟩
theorem qac.box (h:qac C σ a.tmps w own) {s:Nat}{c:BC}(hc:(qt σ s).2=.box c):∃(b:Nat) (cs:List Value) (bs':List Nat) (te:Nat),a.tmps.getD s undef=ptr b 0∧w.heap[b]? =some (.cells cs.toArray te (0,0))∧qaD w (C.free w own) c cs bs'∧own s=b::bs':=by
 have:=h.at_ s;rw[hc]at this;exact this
theorem qfw {b:Nat}{cs:List Value}{te:Nat}(h:w.heap[b]? =some (.cells cs.toArray te (0,0))) (j:Nat):w.cell? ⟨b,j,none⟩=cs[j]? :=by simp[World.cell?,h]
theorem qf8 {b off n:Nat}{cs:List Value}{te:Nat}(h:w.heap[b]? =some (.cells cs.toArray te (0,0))):qfL w ⟨b,off,none⟩ ((cs.drop off).take n):=by
 intro j u hj;rw[qL,qfw h];rw[zal]at hj;split at hj
 ·rwa [zan]at hj
 ·cases hj
def Lay (P:Program):List Field→Ty→Nat→Prop
 |[],.unit,_=>True
 |f::fs,.pair a b,off=>f.offset=off∧(∀w,(sizeOf f.type).run P w=.ok a.size w)∧Lay P fs b (off+a.size)
 |_,_,_=>False
def Ty.struct:Ty→Bool
 |.unit=>true
 |.pair _ _=>true
 |_=>false
def qhU:Ty→TypeDesc→Bool
 |.int k,.int k'=>decide (k'=k)
 |.bool,.bool=>true
 |.str,.string=>true
 |_,_=>false
structure LsTy (P:Program) (t0 t1 t2:Nat):Prop where
 pair:TyB P t0 (.pair .bool (.pair .bool .unit))
 fst:TyB P t1 .bool
 snd:TyB P t2 .bool
 fields:∃fs f0 f1 i0 i1,P.underlying t0=some (.struct fs)∧fs[0]? =some f0∧fs[1]? =some f1∧f0.offset=0∧f1.offset=1∧P.info? f0.type=some i0∧i0.size≠0∧P.info? f1.type=some i1∧i1.size≠0
structure qa2 (E:Env) (P:Program):Prop where
 ty:∀t u,E.ty t=some u→TyB P t u
 elem:∀t e,E.ty t=some (.slice e)→ElemB P E t e
 dflt:∀t e,E.ty t=some (.slice e)→∃i z,P.info? (E.etid t)=some i∧i.zero=some z∧(e.agg=false→∀cs,z≠ .agg cs)∧∀w F,Rep w F e e.dflt z.cells.toList
 size:∀t e,(E.ty t=some (.slice e)∨∃n,E.ty t=some (.arr n e))→(sizeOf (E.etid t)).run P=fun w=>.ok e.size w
 arr:∀t n e,E.ty t=some (.arr n e)→P.underlying t=some (.array n (E.etid t))
 struct:∀t T,E.ty t=some T→T.struct=true→∃fs z i,P.underlying t=some (.struct fs)∧P.info? t=some i∧i.zero=some z∧(∀w F,Rep w F T T.dflt z.cells.toList)∧Lay P fs.toList T 0
 str:∀t,E.ty t=some .str→P.underlying t=some .string
 int:∀t k,E.ty t=some (.int k)→P.underlying t=some (.int k)
 bool:∀t,E.ty t=some .bool→P.underlying t=some .bool
 err:∀t,E.ty t=some .err→∃ms,P.underlying t=some (.interface ms)
 opt:∀t e,E.ty t=some (.opt e)→∃u,P.underlying t=some (.pointer u)
 map:∀t k v,E.ty t=some (.map k v)→∃kn vn d i z,P.underlying t=some (.map kn vn)∧P.underlying kn=some d∧qhU k d=true∧P.info? vn=some i∧i.zero=some z∧∀w F,qau w F v v.dflt z
 off:∀t f n,E.off t f=some n→∃fs fl,P.underlying t=some (.struct fs)∧fs[f]? =some fl∧fl.offset=n∧fl.type=E.fty t f∧∃i,P.info? fl.type=some i∧i.size≠0
 zero:∀t c,E.zero t=some c→∃i z,P.info? t=some i∧i.zero=some z∧∀w F,qaD w F c z.cells.toList []
 eq:∀t u,E.eqok t=true→E.ty t=some u→EqB P t u
 mixed:P.follows .mixedOrders=true
 lst:∀t0 t1 t2,E.lst=some (t0,t1,t2)→LsTy P t0 t1 t2
theorem qa2.elem' {E:Env}{P:Program}(hE:qa2 E P) {t:Nat}{e:Ty}(h:E.ty t=some (.slice e)):∃i z,P.underlying t=some (.slice (E.etid t))∧P.info? (E.etid t)=some i∧i.size=e.size∧i.zero=some z∧z.cells.size=e.size∧i.bytes=E.bytes (E.etid t)∧∀w F,Rep w F e e.dflt z.cells.toList:=by
 obtain⟨i,z,h1,h2,h3,h4,h5⟩:=(hE.elem t e h).info;obtain⟨i',z',k1,k2,_,k3⟩:=hE.dflt t e h;rw[h1]at k1;injection k1 with k1;subst k1;rw[h3]at k2;injection k2 with k2;subst k2;exact⟨i,z,(hE.elem t e h).under,h1,h2,h3,h4,h5,k3⟩
theorem qac.rowAt {tm:Array Value}(h:qac C σ tm w own) {s:Nat}{fo:Option Nat}{et:Nat}{e:Ty}{xs:List e.den}{v:Value}(hr:(qt σ s).2.rowAt fo=some (et,⟨e,xs⟩)) (hv:qc6 (sit C σ tm w own) s fo v):
  s<σ.length∧∃b1 b2 b3,q8 w (C.free w own) et e xs v b2∧own s=b1++(b2++b3)∧(∀b,tm.getD s undef=ptr b 0→b∉b2)∧
   ∀(W:World) (n:BC) (b2':List Nat) (a':AV),qbc (fun k=>k∈b2) w W→qaD W (C.free w own) n [v] b2'→(qt σ s).2.swapRow n fo=some a'→qax { sit C σ tm w own with w:=W } a' (tm.getD s undef) (b1++(b2'++b3))∧a'.mentions=[]:=by
 have hat:=h.at_ s;have hlt:s<σ.length:=by
  apply Classical.byContradiction;intro hn;have:qt σ s=(0,.undef):=by simp[qt,List.getD,zaD (Nat.le_of_not_lt hn)]
  rw[this]at hr;cases hr
 refine⟨hlt,?_⟩;have hnd:=h.nodup s;generalize hg:(qt σ s).2=g at hat hr⊢
 cases g with
 |own et' e' xs'=>
  cases fo with
  |some _=>cases hr
  |none=>
   simp only[AV.rowAt]at hr;injection hr with hr;injection hr with e1 e2;subst e1;injection e2 with e2 e3;subst e2;have e3:=eq_of_heq e3;subst e3;have hv:tm.getD s undef=v:=hv;rw[hv]at hat⊢
   refine⟨[],own s,[],hat,by simp,fun b hb=>?_,fun W n b2' a' hk hn hsw=>?_⟩
   ·obtain⟨cells,g1⟩:=hat.hdr;rcases g1.2 with⟨g2,_⟩|⟨g',cap,cur,g2,_⟩<;>(rw[g2]at hb;cases hb)
   ·cases n with
    |own et2 e2 xs2=>
     simp only[AV.swapRow]at hsw;injection hsw with hsw;subst hsw;obtain⟨v',hv',hn⟩:=hn;injection hv' with hv';subst hv';refine⟨?_,rfl⟩;have e0:([]:List Nat)++(b2'++[])=b2':=by simp
     rw[e0];exact hn
    |hole k=>
     simp only[AV.swapRow]at hsw;injection hsw with hsw;subst hsw;exact⟨trivial,rfl⟩
    |_=>cases hsw
 |box c=>
  cases fo with
  |none=>cases hr
  |some off=>
   simp only[AV.rowAt]at hr;obtain⟨b,cs,bs',te,k1,k2,k3,k4⟩:=hat;obtain⟨v',p1,p2,p3,q1,q2,q3,q4⟩:=k3.row hr;obtain⟨b',_,m2,m3⟩:=hv;have m2:tm.getD s undef=ptr b' 0:=m2;rw[k1]at m2;obtain⟨rfl,_⟩:=qcU m2;have hvv:v'=v:=by
    have:w.cell? ⟨b,off,none⟩=cs[off]? :=qfw k2 off;have m3:w.cell? ⟨b,off,none⟩=some v:=m3;rw[this,q1]at m3;injection m3
   subst hvv;have hb2:b∉p2:=fun hb=>by
    rw[k4,q3]at hnd;exact(zax.1 hnd).1 (zab _ (zac _ hb))
   refine⟨b::p1,p2,p3,q2,by rw[k4,q3];rfl,fun b0 hb0=>?_,fun W n b2' a' hk hn hsw=>?_⟩
   ·rw[k1]at hb0;obtain⟨rfl,_⟩:=qcU hb0;exact hb2
   ·simp only[AV.swapRow,zaB]at hsw;obtain⟨c',c1,rfl⟩:=hsw;have hin:∀x,x∈p2→x∈own s:=fun x hx=>by rw[k4,q3];exact zae _ (zab _ (zac _ hx))
    refine⟨⟨b,cs,p1++(b2'++p3),te,k1,?_,q4 n c' b2' (fun x hx hlt=>⟨hx,zaE hlt hk.size,hk.block x hlt fun hx2=>hx.2.2 s (hin x hx2)⟩) (fun x hx hlt=>hk.block x hlt fun hx2=>?_) c1 hn,rfl⟩,rfl⟩
    ·show W.heap[b]? =_;rw[hk.block b (zav.1 k2).1 hb2];exact k2
    ·rw[k4,q3]at hnd;have hnd:=(zax.1 hnd).2;rw[zah]at hnd;obtain⟨_,n2,n3⟩:=hnd;rcases hx with hx|hx
     ·exact n3 x hx x (zac _ hx2) rfl
     ·rw[zah]at n2;exact n2.2.2 x hx2 x hx rfl
 |_=>cases hr
theorem qg8 {X:Sit}{s v0 off:Nat}{u:Ty}{v:Value}{bs:List Nat}(h:qax X (.bref s v0 off u) v bs) (hag:u.agg=false) (hv:X.ver s=v0):qc6 X s (some off) v:=by
 obtain⟨b,h1,h2,h3⟩:=h.2 hv;refine⟨b,h1,h2,?_⟩;rcases h3 with⟨h3,_⟩|⟨_,h3⟩
 ·rw[hag]at h3;cases h3
 ·exact h3
theorem q8.cells {w:World}{F:Nat→Prop}{et:Nat}{e:Ty}{xs:List e.den}{g n cap:Nat}{bs:List Nat}(h:q8 w F et e xs (.slice (some ⟨g,0,none⟩) n cap) bs):
  ∃cells:List Value,cells.length=n*e.size∧xs.length=n∧(∀j x,cells[j]? =some x→w.cell? ((⟨g,0,none⟩:Addr).add j)=some x)∧
   ∀(i:Nat) (x:e.den) (off:Nat) (u:Ty) (y:u.den),xs[i]? =some x→e.sub x off u=some y→(etM et).hits off (off+u.size)=false→
    off+u.size≤((cells.drop (i*e.size)).take e.size).length∧Rep w F u y ((((cells.drop (i*e.size)).take e.size).drop off).take u.size):=by
 obtain⟨cells,bss,h1,h2,h3,h4⟩:=h;have hn:xs.length=n:=by
  rcases h1.2 with⟨h4,_⟩|⟨g',cap',cur,h4,_⟩
  ·cases h4
  ·injection h4 with _ h5 _;exact h5.symm
 rw[hn]at h1;refine⟨cells,h1.1,hn,h1.cells rfl,fun i x off u y hi hs hm=>?_⟩;have hib:i<bss.length:=by rw[h2];exact(zao.1 hi).1
 exact qnL e (o:=0) (h4 i x _ hi (zaa hib)) hs (by rw[zaM];exact hm)
theorem Rep.elem {w:World}{F:Nat→Prop}{n:Nat}{e:Ty}{xs:List e.den}{cs:List Value}(h:Rep w F (.arr n e) xs cs) {i:Nat}(hi:i<n):
  ∃x,xs[i]? =some x∧Rep w F e x ((cs.drop (i*e.size)).take e.size)∧i*e.size+e.size≤cs.length:=by
 obtain⟨hl,css,hcl,rfl,hx⟩:=h;have h1:xs[i]? =some (xs[i]'(by omega)):=zaa (by omega);have h2:css[i]? =some (css[i]'(by omega)):=zaa (by omega);obtain⟨g1,g2⟩:=qbO (qlr (by omega) hx) h2;exact⟨_,h1,by rw[g1];exact hx i _ _ h1 h2,g2⟩
theorem qqe (hpt:qt7 (sit C σ a.tmps w own)) {s off n:Nat}{v0:Option Nat}{e:Ty}{i:Int}{o2:Nat}{v:Value}(ho:qax (sit C σ a.tmps w own) (.parr s v0 off n e i o2) v []) (hv:vOk (qt σ s).1 v0=true):
  0≤i∧i<(n:Int)∧∃b,a.tmps.getD s undef=ptr b 0∧v=ptr b (off+i.toNat*e.size+o2)∧(v0=none→C.pn s=some b):=by
 obtain⟨_,h1,h2,h3⟩:=ho;refine⟨h1,h2,?_⟩;cases v0 with
 |some v0=>
  obtain⟨b,k1,k2⟩:=h3 (of_decide_eq_true hv);exact⟨b,k1,k2,fun h=>by cases h⟩
 |none=>
  obtain⟨b,k1,k2⟩:=h3;exact⟨b,hpt _ b k1,k2,fun _=>k1⟩
theorem qti {s off n:Nat}{v0:Option Nat}{e:Ty}{i:Int}{o2 b:Nat}{v:Value}(hv:vOk (qt σ s).1 v0=true) (i0:0≤i) (i1:i<(n:Int)) (h1:a.tmps.getD s undef=ptr b 0) (h2:v=ptr b (off+i.toNat*e.size+o2)) (h3:v0=none→C.pn s=some b):
  qax (sit C σ a.tmps w own) (.parr s v0 off n e i o2) v []∧∀m∈(AV.parr s v0 off n e i o2).mentions,m.2≤(qt σ m.1).1:=by
 cases v0 with
 |some v0=>
  refine⟨⟨rfl,i0,i1,fun _=>⟨b,h1,h2⟩⟩,fun m hm=>?_⟩;simp[AV.mentions]at hm;subst hm;exact Nat.le_of_eq (of_decide_eq_true hv).symm
 |none=>exact⟨⟨rfl,i0,i1,b,h3 rfl,h2⟩,fun m hm=>by cases hm⟩
theorem qc6.inj {X:Sit}{s:Nat}{fo:Option Nat}{v v':Value}(h:qc6 X s fo v) (h':qc6 X s fo v'):v=v':=by
 cases fo with
 |none=>exact(show X.tm s=v from h).symm.trans h'
 |some o=>
  obtain⟨b,_,h1,h2⟩:=h;obtain⟨b',_,h3,h4⟩:=h';rw[h1]at h3;obtain⟨rfl,_⟩:=qcU h3;rw[h2]at h4;injection h4
theorem quf (h:qac C σ a.tmps w own) {t s v0 sz off:Nat}{u:Ty}{fo:Option Nat}{i:Int}{v:Value}(hT:TyB C.P t u) (hp:qax (sit C σ a.tmps w own) (.prow s v0 fo sz i off) v []) (hv:(qt σ s).1=v0) {f:Eff}
  (he:(qwf o u s (qt σ s) fo sz i off).run (qt σ)=some f) (hd:∀u∈f.upd,u.s<σ.length) (hx:(execOp a.eval o).run C.P w=((Instr.loadAt t v).run C.P w).andThen fun v w'=>.ok (.value v) w'):qcW C o a w (qk σ f.upd):=by
 unfold qwf at he;split at he;case h_2=>cases he
 rename_i e' et e xs d hrow hdst;split at he;case isFalse=>cases he
 rename_i hcond;obtain⟨hsz,hds,hna⟩:=hcond;subst hsz;split at he;case h_2=>cases he
 rename_i et' ys hat hsub;split at he;case isFalse=>cases he
 rename_i hmk;rw[Q.yd]at he;have:=qI he;subst this;obtain⟨g,n,cap,k1,k2,k3,rfl⟩:=hp.2 hv;obtain⟨hsl,c,bi,nbS,q1,q2,q3,q4,q5⟩:=h.holeIn hrow k1 k2 k3 hna hsub hat;have hdl:d<σ.length:=hd ⟨d,true,.own et' e' ys⟩ (by simp);have hone:mkV (.slice e') [c]=c:=rfl;have hcell:qfL w ⟨g,i.toNat*e.size+off,none⟩ [c]:=by
  intro j x hj;cases j with
  |zero=>
   injection hj with hj;subst hj;have:(⟨g,i.toNat*e.size+off,none⟩:Addr).add 0=⟨g,i.toNat*e.size+off,none⟩:=by simp[Addr.add]
   rw[this];exact q1
  |succ j=>cases hj
 have hrun:(execOp a.eval o).run C.P w=.ok (.value c) w:=by
  rw[hx,show ptr g (i.toNat*e.size+off)=.pointer (some ⟨g,i.toNat*e.size+off,none⟩)from rfl,qci hT hcell rfl];rfl
 refine qz hrun ?_;rw[qd0 a hdst];have hnd:=h.nodup s;have hnd':(bi++nbS).Nodup:=q3.nodup_iff.1 hnd;have n1:=zah.1 hnd';have inS:∀b,b∈bi∨b∈nbS→b∈own s:=fun b hb=>q3.mem_iff.2 (zaj.2 hb);let nb:Nat→List Nat:=fun x=>if x=d then bi else nbS
 have nD:nb d=bi:=by simp[nb]
 have nS:nb s=nbS:=by simp[nb,Ne.symm hds]
 have mem:∀u:U,u∈([⟨s,false,.hol (qt σ s).2 fo i off d ((qt σ d).1+1)⟩,⟨d,true,.own et' e' ys⟩]:List U)→u=⟨s,false,.hol (qt σ s).2 fo i off d ((qt σ d).1+1)⟩∨u=⟨d,true,.own et' e' ys⟩:=fun u hu=>by simpa using hu
 have hnn:(([⟨s,false,.hol (qt σ s).2 fo i off d ((qt σ d).1+1)⟩,⟨d,true,.own et' e' ys⟩]:List U).map (·.s)).Nodup:=by simp[Ne.symm hds]
 have hvd:(qt (qk σ [⟨s,false,.hol (qt σ s).2 fo i off d ((qt σ d).1+1)⟩,⟨d,true,.own et' e' ys⟩]) d).1=(qt σ d).1+1:=by
  have:=qcD (σ:=σ) _ hnn (u:=⟨d,true,.own et' e' ys⟩) (by simp) hdl;rw[this];rfl
 refine Exists.elim (h.multi (tm':=a.tmps.setIfInBounds d c) (w':=w) [⟨s,false,.hol (qt σ s).2 fo i off d ((qt σ d).1+1)⟩,⟨d,true,.own et' e' ys⟩] nb hnn (fun u hu=>hd u hu) (by simp) (fun x hxx=>qah _ _ fun e=>hxx (by rw[e];simp)) (fun u hu=>?_) (qbc.refl _ _) (fun u hu=>?_) (fun u hu u' hu' b hb hb'=>?_) (fun X' hP hpn hw hF hF2 hver htm u hu=>?_) (fun u hu m hm=>?_)) fun own' hfin=>⟨own',hfin.1⟩
 ·rcases mem u hu with rfl|rfl
  ·refine .inr ⟨qah _ _ (Ne.symm hds),fun b hb hp=>⟨?_,rfl⟩⟩;show b∈nb s;rw[nS];exact q4 b hb hp
  ·exact .inl rfl
 ·rcases mem u hu with rfl|rfl
  ·simp only[nS];exact⟨fun b hb=>.inr ⟨⟨s,false,.hol (qt σ s).2 fo i off d ((qt σ d).1+1)⟩,by simp,inS b (.inr hb)⟩,n1.2.1⟩
  ·simp only[nD];exact⟨fun b hb=>.inr ⟨⟨s,false,.hol (qt σ s).2 fo i off d ((qt σ d).1+1)⟩,by simp,inS b (.inl hb)⟩,n1.1⟩
 ·rcases mem u hu with rfl|rfl<;>rcases mem u' hu' with rfl|rfl
  ·rfl
  ·simp only[nS]at hb;simp only[nD]at hb';exact(n1.2.2 b hb' b hb rfl).elim
  ·simp only[nS]at hb';simp only[nD]at hb;exact(n1.2.2 b hb b hb' rfl).elim
  ·rfl
 ·rcases mem u hu with rfl|rfl
  ·simp only[nS];rw[qah _ _ (Ne.symm hds)];exact q5 X' d ((qt σ d).1+1) hw hF (by rw[htm,qbd _ _ (by rw[h.size];exact hdl)])
  ·simp only[nD];rw[qbd _ _ (by rw[h.size];exact hdl)];show q8 X'.w X'.F et' e' ys c bi;rw[hw];exact(q2.to hmk).keep (fun b hb hlt=>⟨hF b hb,hlt,rfl⟩) (fun _ _ _=>rfl)
 ·rcases mem u hu with rfl|rfl
  ·have hm:m=(d,(qt σ d).1+1):=by simpa[AV.mentions]using hm
   subst hm;exact Nat.le_of_eq hvd.symm
  ·cases hm
theorem qho.flatCells {w:World}{F:Nat→Prop}{et:Nat}{e:Ty}{hl:Int×Nat×Nat}{xs:List e.den}{g n cap:Nat}{bs:List Nat}(h:qho w F et e hl xs (.slice (some ⟨g,0,none⟩) n cap) bs):
  ∃cells:List Value,cells.length=n*e.size∧xs.length=n∧(∀j x,cells[j]? =some x→w.cell? ((⟨g,0,none⟩:Addr).add j)=some x)∧
   ∀(i:Nat) (x:e.den) (off:Nat) (u:Ty) (y:u.den),xs[i]? =some x→e.sub x off u=some y→(etM et).hits off (off+u.size)=false→
    off+u.size≤((cells.drop (i*e.size)).take e.size).length∧Rep w F u y ((((cells.drop (i*e.size)).take e.size).drop off).take u.size):=by
 obtain⟨cells,bss,h1,h2,h3,h4⟩:=h;have hn:xs.length=n:=by
  rcases h1.2 with⟨h4,_⟩|⟨g',cap',cur,h4,_⟩
  ·cases h4
  ·injection h4 with _ h5 _;exact h5.symm
 rw[hn]at h1;refine⟨cells,h1.1,hn,h1.cells rfl,fun i x off u y hi hs hm=>?_⟩;have hib:i<bss.length:=by rw[h2];exact(zao.1 hi).1
 exact qnL e (o:=0) (h4 i x _ hi (zaa hib)) hs (by rw[zaM];exact hm)
theorem qsl {t:Nat}{u:Ty}(hT:TyB C.P t u) {g i off sz n:Nat}{cells:List Value}(g3:∀j x,cells[j]? =some x→w.cell? ((⟨g,0,none⟩:Addr).add j)=some x) (q1:off+u.size≤((cells.drop (i*sz)).take sz).length):
  (Instr.loadAt t (ptr g (i*sz+off))).run C.P w=.ok (mkV u ((((cells.drop (i*sz)).take sz).drop off).take u.size)) w:=by
 rw[show ptr g (i*sz+off)=.pointer (some ⟨g,i*sz+off,none⟩)from rfl];refine qci hT ?_ (by rw[zaf,zap];omega);intro j z hj;rw[qL];rw[zal]at hj;split at hj
 ·rw[zan,zal]at hj;split at hj
  ·rw[zan]at hj;have:=g3 _ _ hj;rw[qL,zaM]at this;rw[←this];congr 2;omega
  ·cases hj
 ·cases hj
theorem qqd (h:qac C σ a.tmps w own) {t s v0 sz off:Nat}{u:Ty}{fo:Option Nat}{i:Int}{v:Value}(hT:TyB C.P t u) (hp:qax (sit C σ a.tmps w own) (.prow s v0 fo sz i off) v []) (hv:(qt σ s).1=v0) {f:Eff}
  (he:(qoD o u fo sz i off (qt σ s).2).run (qt σ)=some f) (hd:∀u∈f.upd,u.s<σ.length) (hc:∀b∈f.chk,b=true) (hx:(execOp a.eval o).run C.P w=((Instr.loadAt t v).run C.P w).andThen fun v w'=>.ok (.value v) w'):qcW C o a w (qk σ f.upd):=by
 unfold qoD at he;split at he;case h_2=>cases he
 rename_i av fo' i' o1 t0 v1 hs;split at he;case isFalse=>cases he
 rename_i hfo;subst hfo;obtain⟨g,n,cap,k1,k2,k3,rfl⟩:=hp.2 hv;split at he
 ·rename_i hoff;obtain⟨rfl,hag⟩:=hoff;rw[Q.yd]at he;split at he;case isFalse=>cases he
  rename_i hver;split at he;case h_2=>cases he
  rename_i et e xs hrow;split at he;case isFalse=>cases he
  rename_i hsz;subst hsz;have:=Q.yc he;subst this;have hii:i=i':=by
   have:=hc (eqI i i') (by simp);simpa[qi8]using this
  subst hii;obtain⟨g',n',cap',b1,b2,b3,j1,j2,j3,j4,j5,j6,j7,j8⟩:=h.holRow hs hrow;have e1:=k1.inj j4;injection e1 with e1 e2 e3;injection e1 with e1;injection e1 with e1 _ _;subst e1;have hcell:=j5 hver;have hus:u.size=1:=by cases u<;>simp[Ty.agg]at hag<;>rfl
  have hrun:(execOp a.eval o).run C.P w=.ok (.value (a.tmps.getD t0 undef)) w:=by
   rw[hx,show ptr g (i.toNat*e.size+off)=.pointer (some ⟨g,i.toNat*e.size+off,none⟩)from rfl,qci hT (cs:=[a.tmps.getD t0 undef]) ?_ (by rw[hus];rfl)]
   ·simp[mkV,hag]
   ·intro j x hj;cases j with
    |zero=>
     injection hj with hj;subst hj;have:(⟨g,i.toNat*e.size+off,none⟩:Addr).add 0=⟨g,i.toNat*e.size+off,none⟩:=by simp[Addr.add]
     rw[this];exact hcell
    |succ j=>cases hj
  refine qz hrun (h.dst0 hd ⟨rfl,fun _=>rfl⟩ (fun m hm=>?_));have hm:m=(t0,v1):=by simpa[AV.mentions]using hm
  subst hm;exact Nat.le_of_eq hver.symm
 ·split at he;case h_2=>cases he
  rename_i et e xs hrow;split at he;case isFalse=>cases he
  rename_i hcond;obtain⟨hsz,hmk⟩:=hcond;subst hsz;split at he;case h_2=>cases he
  rename_i y hy;have:=qI he;subst this;obtain⟨g',n',cap',b1,b2,b3,j1,j2,j3,j4,j5,j6,j7,j8⟩:=h.holRow hs hrow;have e1:=k1.inj j4;injection e1 with e1 e2 e3;injection e1 with e1;injection e1 with e1 _ _;subst e1;subst e2;subst e3;obtain⟨cells,g1,g2,g3,g4⟩:=j3.flatCells;have hi:i.toNat<xs.length:=by omega
  rw[show qh xs i e.dflt=xs[i.toNat]from qeO (zaa hi)]at hy;obtain⟨q1,q2⟩:=g4 i.toNat xs[i.toNat] off _ y (zaa hi) hy hmk;refine qaZ h ?_ hd (.ofCells q2);rw[hx,qsl (n:=n) hT g3 q1];rfl
theorem qvb (h:qac C σ a.tmps w own) {s off:Nat}{u:Ty}{c:BC}{b:Nat}{cs:List Value}{bs':List Nat}{te:Nat}(hcs:(qt σ s).2=.box c) (h1:a.tmps.getD s undef=ptr b 0) (h2:w.heap[b]? =some (.cells cs.toArray te (0,0))) (h3:qaD w (C.free w own) c cs bs') (h4:own s=b::bs')
  (hrun:(execOp a.eval o).run C.P w=.ok (.value (mkV u ((cs.drop off).take u.size))) w) {q:Q Eff}(hq:qvR E o u s c off=some q) {f:Eff}(he:q.run (qt σ)=some f) (hd:∀u∈f.upd,u.s<σ.length):qcW C o a w (qk σ f.upd):=by
 unfold qvR at hq;split at hq;case h_2=>cases hq
 rename_i d et e xs hdst hrow;split at hq;case isFalse=>cases hq
 rename_i hcond;obtain⟨_,hds,hag⟩:=hcond;injection hq with hq;subst hq;rw[Q.yd]at he;have:=qI he;subst this;obtain⟨v,p1,p2,p3,r1,r2,r3,r4⟩:=h3.row hrow;have hus:u.size=1:=by cases u<;>simp[Ty.agg]at hag<;>rfl
 have hlt:off<cs.length:=(zao.1 r1).1;have hmk:mkV u ((cs.drop off).take u.size)=v:=by
  rw[mkV,if_neg (by simp[hag]),hus,zaO hlt];have:cs[off]=v:=(zao.1 r1).2;simp[this]
 rw[hmk]at hrun;have hsl:s<σ.length:=hd ⟨s,false,.bhl c off d ((qt σ d).1+1)⟩ (by simp);have hdl:d<σ.length:=hd ⟨d,true,.own et e xs⟩ (by simp);refine qz hrun ?_;rw[qd0 a hdst];have hnd:=h.nodup s;rw[h4,r3]at hnd;have n0:=zax.1 hnd;have n1:=zah.1 n0.2;have n2:=zah.1 n1.2.1;let nbS:List Nat:=b::(p1++p3);have hperm:(own s).Perm (p2++nbS):=by
  rw[h4,r3];refine List.perm_iff_count.2 fun x=>?_;simp only[nbS,List.count_append,List.count_cons];omega
 have hnn:(p2++nbS).Nodup:=hperm.nodup_iff.1 (h.nodup s);have m1:=zah.1 hnn;have inS:∀x,x∈p2∨x∈nbS→x∈own s:=fun x hx=>hperm.mem_iff.2 (zaj.2 hx);let nb:Nat→List Nat:=fun x=>if x=d then p2 else nbS
 have nD:nb d=p2:=by simp[nb]
 have nS:nb s=nbS:=by simp[nb,Ne.symm hds]
 have mem:∀u:U,u∈([⟨s,false,.bhl c off d ((qt σ d).1+1)⟩,⟨d,true,.own et e xs⟩]:List U)→u=⟨s,false,.bhl c off d ((qt σ d).1+1)⟩∨u=⟨d,true,.own et e xs⟩:=fun u hu=>by simpa using hu
 have hnl:(([⟨s,false,.bhl c off d ((qt σ d).1+1)⟩,⟨d,true,.own et e xs⟩]:List U).map (·.s)).Nodup:=by simp[Ne.symm hds]
 have hvd:(qt (qk σ [⟨s,false,.bhl c off d ((qt σ d).1+1)⟩,⟨d,true,.own et e xs⟩]) d).1=(qt σ d).1+1:=by
  have:=qcD (σ:=σ) _ hnl (u:=⟨d,true,.own et e xs⟩) (by simp) hdl;rw[this];rfl
 refine Exists.elim (h.multi (tm':=a.tmps.setIfInBounds d v) (w':=w) [⟨s,false,.bhl c off d ((qt σ d).1+1)⟩,⟨d,true,.own et e xs⟩] nb hnl (fun u hu=>hd u hu) (by simp) (fun x hxx=>qah _ _ fun e=>hxx (by rw[e];simp)) (fun u hu=>?_) (qbc.refl _ _) (fun u hu=>?_) (fun u hu u' hu' b hb hb'=>?_) (fun X' hP hpn hw hF hF2 hver htm u hu=>?_) (fun u hu m hm=>?_)) fun own' hfin=>⟨own',hfin.1⟩
 ·rcases mem u hu with rfl|rfl
  ·refine .inr ⟨qah _ _ (Ne.symm hds),fun x hx hp=>⟨?_,rfl⟩⟩;show x∈nb s;rw[nS];rw[h1]at hp;obtain⟨rfl,_⟩:=qcU hp;exact zai
  ·exact .inl rfl
 ·rcases mem u hu with rfl|rfl
  ·simp only[nS];exact⟨fun b hb=>.inr ⟨⟨s,false,.bhl c off d ((qt σ d).1+1)⟩,by simp,inS b (.inr hb)⟩,m1.2.1⟩
  ·simp only[nD];exact⟨fun b hb=>.inr ⟨⟨s,false,.bhl c off d ((qt σ d).1+1)⟩,by simp,inS b (.inl hb)⟩,m1.1⟩
 ·rcases mem u hu with rfl|rfl<;>rcases mem u' hu' with rfl|rfl
  ·rfl
  ·simp only[nS]at hb;simp only[nD]at hb';exact(m1.2.2 _ hb' _ hb rfl).elim
  ·simp only[nS]at hb';simp only[nD]at hb;exact(m1.2.2 _ hb _ hb' rfl).elim
  ·rfl
 ·rcases mem u hu with rfl|rfl
  ·simp only[nS];rw[qah _ _ (Ne.symm hds)];refine⟨b,cs,te,p1,p3,v,h1,by rw[hw];exact h2,r1,?_,rfl,fun _=>by rw[htm,qbd _ _ (by rw[h.size];exact hdl)]⟩;rw[hw];intro w2 F2 n' c' b2' f1 f2 f3 f4;exact r4 n' c' b2' (fun x hx hlt=>f1 x (hF x hx) hlt) f2 f3 f4
  ·simp only[nD];rw[qbd _ _ (by rw[h.size];exact hdl)];show q8 X'.w X'.F et e xs v p2;rw[hw];exact r2.keep (fun b hb hlt=>⟨hF b hb,hlt,rfl⟩) (fun _ _ _=>rfl)
 ·rcases mem u hu with rfl|rfl
  ·have hm:m=(d,(qt σ d).1+1):=by simpa[AV.mentions]using hm
   subst hm;exact Nat.le_of_eq hvd.symm
  ·cases hm
theorem quU (h:qac C σ a.tmps w own) {s off:Nat}{u:Ty}{c:BC}{b:Nat}{cs:List Value}{bs':List Nat}{te:Nat}(hcs:(qt σ s).2=.box c) (h1:a.tmps.getD s undef=ptr b 0) (h2:w.heap[b]? =some (.cells cs.toArray te (0,0))) (h3:qaD w (C.free w own) c cs bs') (h4:own s=b::bs')
  (hrun:(execOp a.eval o).run C.P w=.ok (.value (mkV u ((cs.drop off).take u.size))) w) {q:Q Eff}(hq:qwe E o u s c off=some q) {f:Eff}(he:q.run (qt σ)=some f) (hd:∀u∈f.upd,u.s<σ.length):qcW C o a w (qk σ f.upd):=by
 unfold qwe at hq;split at hq;case h_2=>cases hq
 rename_i d et e xs c' hdst hrow hsw;split at hq;case isFalse=>cases hq
 rename_i hcond;obtain⟨_,hds,hag⟩:=hcond;injection hq with hq;subst hq;have:=qI he;subst this;obtain⟨v,p1,p2,p3,r1,r2,r3,r4⟩:=h3.row hrow;have hus:u.size=1:=by cases u<;>simp[Ty.agg]at hag<;>rfl
 have hlt:off<cs.length:=(zao.1 r1).1;have hmk:mkV u ((cs.drop off).take u.size)=v:=by
  rw[mkV,if_neg (by simp[hag]),hus,zaO hlt];have:cs[off]=v:=(zao.1 r1).2;simp[this]
 rw[hmk]at hrun;have hsl:s<σ.length:=hd ⟨s,false,.box c'⟩ (by simp);have hdl:d<σ.length:=hd ⟨d,true,.own et e xs⟩ (by simp);refine qz hrun ?_;rw[qd0 a hdst];have hnd:=h.nodup s;rw[h4,r3]at hnd;have n0:=zax.1 hnd;have n1:=zah.1 n0.2;have n2:=zah.1 n1.2.1;let nbS:List Nat:=b::(p1++p3);have hperm:(own s).Perm (p2++nbS):=by
  rw[h4,r3];refine List.perm_iff_count.2 fun x=>?_;simp only[nbS,List.count_append,List.count_cons];omega
 have hnn:(p2++nbS).Nodup:=hperm.nodup_iff.1 (h.nodup s);have m1:=zah.1 hnn;have inS:∀x,x∈p2∨x∈nbS→x∈own s:=fun x hx=>hperm.mem_iff.2 (zaj.2 hx);let nb:Nat→List Nat:=fun x=>if x=d then p2 else nbS
 have nD:nb d=p2:=by simp[nb]
 have nS:nb s=nbS:=by simp[nb,Ne.symm hds]
 have mem:∀u:U,u∈([⟨s,false,.box c'⟩,⟨d,true,.own et e xs⟩]:List U)→u=⟨s,false,.box c'⟩∨u=⟨d,true,.own et e xs⟩:=fun u hu=>by simpa using hu
 have hnl:(([⟨s,false,.box c'⟩,⟨d,true,.own et e xs⟩]:List U).map (·.s)).Nodup:=by simp[Ne.symm hds]
 refine Exists.elim (h.multi (tm':=a.tmps.setIfInBounds d v) (w':=w) [⟨s,false,.box c'⟩,⟨d,true,.own et e xs⟩] nb hnl (fun u hu=>hd u hu) (by simp) (fun x hxx=>qah _ _ fun e=>hxx (by rw[e];simp)) (fun u hu=>?_) (qbc.refl _ _) (fun u hu=>?_) (fun u hu u' hu' b hb hb'=>?_) (fun X' hP hpn hw hF hF2 hver htm u hu=>?_) (fun u hu m hm=>?_)) fun own' hfin=>⟨own',hfin.1⟩
 ·rcases mem u hu with rfl|rfl
  ·refine .inr ⟨qah _ _ (Ne.symm hds),fun x hx hp=>⟨?_,rfl⟩⟩;show x∈nb s;rw[nS];rw[h1]at hp;obtain⟨rfl,_⟩:=qcU hp;exact zai
  ·exact .inl rfl
 ·rcases mem u hu with rfl|rfl
  ·simp only[nS];exact⟨fun b hb=>.inr ⟨⟨s,false,.box c'⟩,by simp,inS b (.inr hb)⟩,m1.2.1⟩
  ·simp only[nD];exact⟨fun b hb=>.inr ⟨⟨s,false,.box c'⟩,by simp,inS b (.inl hb)⟩,m1.1⟩
 ·rcases mem u hu with rfl|rfl<;>rcases mem u' hu' with rfl|rfl
  ·rfl
  ·simp only[nS]at hb;simp only[nD]at hb';exact(m1.2.2 _ hb' _ hb rfl).elim
  ·simp only[nS]at hb';simp only[nD]at hb;exact(m1.2.2 _ hb _ hb' rfl).elim
  ·rfl
 ·rcases mem u hu with rfl|rfl
  ·simp only[nS];rw[qah _ _ (Ne.symm hds)];refine⟨b,cs,p1++([]++p3),te,h1,by rw[hw];exact h2,?_,by simp[nbS]⟩;rw[hw];exact r4 (.hole 1) c' [] (fun x hx hlt=>⟨hF x hx,hlt,rfl⟩) (fun _ _ _=>rfl) hsw ⟨rfl,rfl⟩
  ·simp only[nD];rw[qbd _ _ (by rw[h.size];exact hdl)];show q8 X'.w X'.F et e xs v p2;rw[hw];exact r2.keep (fun b hb hlt=>⟨hF b hb,hlt,rfl⟩) (fun _ _ _=>rfl)
 ·rcases mem u hu with rfl|rfl
  ·cases hm
  ·cases hm
theorem qux (h:qac C σ a.tmps w own) {s off:Nat}{u:Ty}{c:BC}{b:Nat}{cs:List Value}{bs':List Nat}(h3:qaD w (C.free w own) c cs bs') (h4:own s=b::bs')
  (hrun:(execOp a.eval o).run C.P w=.ok (.value (mkV u ((cs.drop off).take u.size))) w) {q:Q Eff}(hq:qv7 E o u s c off=some q) {f:Eff}(he:q.run (qt σ)=some f) (hd:∀u∈f.upd,u.s<σ.length):qcW C o a w (qk σ f.upd):=by
 unfold qv7 at hq;split at hq;case h_2=>cases hq
 rename_i d hdst;split at hq;case isFalse=>cases hq
 rename_i hcond;obtain⟨_,hds,hag,rfl,hsz⟩:=hcond;injection hq with hq;subst hq;have:=qI he;subst this;have hlen:=h3.length;rw[zbe,zas (by omega),mkV,if_pos hag]at hrun;have hdl:d<σ.length:=hd ⟨d,true,.agg c⟩ (by simp);refine qz hrun ?_;rw[qd0 a hdst];have hnd:=h.nodup s;rw[h4]at hnd;have n0:=zax.1 hnd;let nb:Nat→List Nat:=fun x=>if x=d then bs' else[]
 have nD:nb d=bs':=by simp[nb]
 have nS:nb s=[]:=by simp[nb,Ne.symm hds]
 have mem:∀u:U,u∈([⟨s,true,.undef⟩,⟨d,true,.agg c⟩]:List U)→u=⟨s,true,.undef⟩∨u=⟨d,true,.agg c⟩:=fun u hu=>by simpa using hu
 have hnl:(([⟨s,true,.undef⟩,⟨d,true,.agg c⟩]:List U).map (·.s)).Nodup:=by simp[Ne.symm hds]
 refine Exists.elim (h.multi (tm':=a.tmps.setIfInBounds d (.agg cs.toArray)) (w':=w) [⟨s,true,.undef⟩,⟨d,true,.agg c⟩] nb hnl (fun u hu=>hd u hu) (by simp) (fun x hxx=>qah _ _ fun e=>hxx (by rw[e];simp)) (fun u hu=>?_) (qbc.refl _ _) (fun u hu=>?_) (fun u hu u' hu' b hb hb'=>?_) (fun X' hP hpn hw hF hF2 hver htm u hu=>?_) (fun u hu m hm=>?_)) fun own' hfin=>⟨own',hfin.1⟩
 ·rcases mem u hu with rfl|rfl
  ·exact .inl rfl
  ·exact .inl rfl
 ·rcases mem u hu with rfl|rfl
  ·simp only[nS];exact⟨fun b hb=>(by cases hb),zaH⟩
  ·simp only[nD];exact⟨fun b hb=>.inr ⟨⟨s,true,.undef⟩,by simp,by show b∈own s;rw[h4];exact zae _ hb⟩,n0.2⟩
 ·rcases mem u hu with rfl|rfl<;>rcases mem u' hu' with rfl|rfl
  ·rfl
  ·simp only[nS]at hb;cases hb
  ·simp only[nS]at hb';cases hb'
  ·rfl
 ·rcases mem u hu with rfl|rfl
  ·trivial
  ·simp only[nD];rw[qbd _ _ (by rw[h.size];exact hdl)];refine⟨cs,rfl,?_⟩;rw[hw];exact h3.keep (fun b hb hlt=>⟨hF b hb,hlt,rfl⟩) (fun _ _ _=>rfl)
 ·rcases mem u hu with rfl|rfl<;>cases hm
theorem quG (hE:qa2 E C.P) (h:qac C σ a.tmps w own) (hpt:qt7 (sit C σ a.tmps w own)) {t:Nat}{x1:Op1}{p:Value}(ho:qbB (sit C σ a.tmps w own) x1 p) {f:Eff}
  (he:(qwh E o t x1).run (qt σ)=some f) (hd:∀u∈f.upd,u.s<σ.length) (hck:∀b∈f.chk,b=true) (hx:(execOp a.eval o).run C.P w=((Instr.loadAt t p).run C.P w).andThen fun v w'=>.ok (.value v) w'):qcW C o a w (qk σ f.upd):=by
 unfold qwh at he;split at he
 ·cases he
 rename_i u hu;have hT:=hE.ty t u hu;split at he
 ·rename_i s v0 off hb;rw[Q.yd]at he;split at he
  ·rename_i hv;split at he
   ·rename_i c hc;obtain⟨b,hp,rfl,_⟩:=qeQ h hpt ho hb hv;obtain⟨b',cs,bs',te,h1,h2,h3,h4⟩:=h.box hc;rw[hp]at h1;obtain⟨rfl,_⟩:=qcU h1;have run:∀y fl,c.get off u=some (y,fl)→(execOp a.eval o).run C.P w=.ok (.value (mkV u ((cs.drop off).take u.size))) w:=fun y fl hg=>by
     obtain⟨g1,_,_⟩:=h3.get hg;rw[hx,show ptr b off=.pointer (some ⟨b,off,none⟩)from rfl,qci hT (qf8 (n:=u.size) h2) (by rw[zaf,zap];omega)];rfl
    split at he
    ·rename_i y hg;have:=qI he;subst this;obtain⟨g1,_,g3⟩:=h3.get hg;exact qaZ h (run _ _ hg) hd (.ofCells (g3 rfl))
    ·rename_i y hg;split at he
     ·rename_i q hq;exact qux h h3 h4 (run _ _ hg) hq he hd
     split at he
     ·rename_i q hq;exact qvb h hc hp h2 h3 h4 (run _ _ hg) hq he hd
     split at he
     ·rename_i q hq;exact quU h hc hp h2 h3 h4 (run _ _ hg) hq he hd
     have:=qI he;subst this;obtain⟨g1,_,_⟩:=h3.get hg;refine qz (run _ _ hg) (h.dst0 hd ⟨rfl,fun _=>⟨b,?_,hp,?_⟩⟩ (fun m hm=>?_))
     ·show b∈own s;rw[h4];exact zai
     ·have hl:((cs.drop off).take u.size).length=u.size:=by rw[zaf,zap];omega
      cases hag:u.agg with
      |true=>exact .inl ⟨hag,_,by simp[mkV,hag],hl,qf8 h2⟩
      |false=>
       have hs:u.size=1:=by cases u<;>simp[Ty.agg]at hag<;>rfl
       refine .inr ⟨hag,?_⟩;show w.cell? _=_;have hlt:off<cs.length:=by omega
       rw[qfw h2,mkV,if_neg (by simp[hag]),hs,zaO hlt,zaa hlt];rfl
     ·simp[AV.mentions]at hm;subst hm;exact zay _
    ·cases he
   ·rename_i c o1 i0 oo t0 w0 hc;split at he;case isFalse=>cases he
    rename_i hcnd;obtain⟨rfl,hag⟩:=hcnd;have:=qI he;subst this;obtain⟨b,hp,rfl,_⟩:=qeQ h hpt ho hb hv;have hat:=h.at_ s;rw[hc]at hat;obtain⟨et,e,xs,g,n,cap,b2,_,_,_,_,_,b',cs,te,b1,b3,h1,h2,h3,_,h4⟩:=hat;have h1:a.tmps.getD s undef=ptr b' 0:=h1;have h2:w.heap[b']? =some (.cells cs.toArray te (0,0)):=h2;have h4:own s=b'::(b1++(b2++b3)):=h4;rw[hp]at h1;obtain⟨rfl,_⟩:=qcU h1;have hs:u.size=1:=by cases u<;>simp[Ty.agg]at hag<;>rfl
    have hlt:off<cs.length:=(zao.1 h3).1;have run:(execOp a.eval o).run C.P w=.ok (.value (mkV u ((cs.drop off).take u.size))) w:=by
     rw[hx,show ptr b off=.pointer (some ⟨b,off,none⟩)from rfl,qci hT (qf8 (n:=u.size) h2) (by rw[zaf,zap];omega)];rfl
    refine qz run (h.dst0 hd ⟨rfl,fun _=>⟨b,?_,hp,.inr ⟨hag,?_⟩⟩⟩ (fun m hm=>?_))
    ·show b∈own s;rw[h4];exact zai
    ·show w.cell? _=_;rw[qfw h2,mkV,if_neg (by simp[hag]),hs,zaO hlt,zaa hlt];rfl
    ·simp[AV.mentions]at hm;subst hm;exact zay _
   ·cases he
  ·cases he
 ·split at he
  ·rename_i s v0 fo sz i off hxa;rw[Q.yd]at he;split at he
   ·rename_i hv;split at he
    ·rename_i et e xs hown;split at he
     ·rename_i hsz;obtain⟨hsz,hmk⟩:=hsz;subst hsz;split at he
      ·rename_i y hs;have:=qI he;subst this;obtain⟨_,hp⟩:=hxa▸ho.unowned (by rw[hxa];rfl);obtain⟨g,n,cap,k1,k2,k3,rfl⟩:=hp hv;obtain⟨_,b1,b2,b3,hrow,_⟩:=h.rowAt hown k1;obtain⟨cells,g1,g2,g3,g4⟩:=hrow.cells;have hi:i.toNat<xs.length:=by rw[g2];omega
       rw[show qh xs i e.dflt=xs[i.toNat]from qeO (zaa hi)]at hs;obtain⟨q1,q2⟩:=g4 i.toNat xs[i.toNat] off _ y (zaa hi) hs hmk;refine qaZ h ?_ hd (.ofCells q2);rw[hx,show ptr g (i.toNat*e.size+off)=.pointer (some ⟨g,i.toNat*e.size+off,none⟩)from rfl,qci hT (cs:=(((cells.drop (i.toNat*e.size)).take e.size).drop off).take u.size) ?_ (by rw[zaf,zap];omega)]
       ·rfl
       ·intro j z hj;rw[qL];rw[zal]at hj;split at hj
        ·rw[zan,zal]at hj;split at hj
         ·rw[zan]at hj;have:=g3 _ _ hj;rw[qL,zaM]at this;rw[←this];congr 2;omega
         ·cases hj
        ·cases hj
      ·cases he
     ·exact quf h hT ⟨rfl,(hxa▸ho.unowned (by rw[hxa];rfl)).2⟩ hv he hd hx
    ·exact qqd h hT ⟨rfl,(hxa▸ho.unowned (by rw[hxa];rfl)).2⟩ hv he hd hck hx
   ·cases he
  ·rename_i t' x off hxa;split at he
   ·rename_i y hs;have:=qI he;subst this;obtain⟨_,ad,cs,rfl,g1,g2,g3,g4⟩:=hxa▸ho.unowned (by rw[hxa];rfl);obtain⟨k1,k2⟩:=g4.sub hs;refine qaZ h ?_ hd (.ofCells k2);rw[hx,qci hT (cs:=(cs.drop off).take u.size) ?_ (by rw[zaf,zap];omega)]
    ·rfl
    ·intro j z hj;rw[qbj];refine g3 _ _ ?_;rw[zal]at hj;split at hj
     ·rwa [zan]at hj
     ·cases hj
   ·cases he
  ·rename_i s v0 off n e i o2 hxa;rw[Q.yd]at he;split at he;case isFalse=>cases he
   rename_i hv;split at he;case h_2=>cases he
   rename_i c hc;split at he;case h_2=>cases he
   rename_i xs hg;split at he;case h_2=>cases he
   rename_i y hs;have:=qI he;subst this;obtain⟨i0,i1,b,hp,rfl,_⟩:=qqe hpt (hxa▸ho.unowned (by rw[hxa];rfl)) hv;obtain⟨b',cs,bs',te,h1,h2,h3,h4⟩:=h.box hc;rw[hp]at h1;obtain⟨rfl,_⟩:=qcU h1;obtain⟨g1,_,g3⟩:=h3.get hg;obtain⟨x,k1,k2,k3⟩:=(g3 rfl).elem (i:=i.toNat) (by omega);rw[qeO k1]at hs;obtain⟨q1,q2⟩:=k2.sub hs;have hlen:=k2.length;refine qaZ h ?_ hd (.ofCells q2);rw[hx,show ptr b (off+i.toNat*e.size+o2)=.pointer (some ⟨b,off+i.toNat*e.size+o2,none⟩)from rfl,qci hT (cs:=((((((cs.drop off).take (Ty.arr n e).size).drop (i.toNat*e.size)).take e.size).drop o2).take u.size)) ?_ (by rw[zaf,zap];omega)]
   ·rfl
   ·intro j z hj;rw[qL,qfw h2];rw[zal]at hj;split at hj;case isFalse=>cases hj
    rw[zan,zal]at hj;split at hj;case isFalse=>cases hj
    rw[zan,zal]at hj;split at hj;case isFalse=>cases hj
    rw[zan]at hj;rw[←hj];congr 1;omega
  ·cases he
end
end Go.Vi
namespace Go.Vi
open Go.RowKit
theorem BC.freeze_freeze:(c:BC)→c.freeze.freeze=c.freeze
 |.val _ _=>rfl
 |.own _ _ _=>rfl
 |.pair a b=>by simp[BC.freeze,BC.freeze_freeze a,BC.freeze_freeze b]
 |.hole _=>rfl
theorem qoH.freeze_freeze:(c:qoH)→c.freeze.freeze=c.freeze
 |.val _ _=>rfl
 |.own _ _ _=>rfl
 |.gone=>rfl
 |.nz _ _=>rfl
 |.agg c=>by simp[qoH.freeze,BC.freeze_freeze]
theorem AV.freeze_freeze (a:AV):a.freeze.freeze=a.freeze:=by
 cases a<;>simp[AV.freeze,BC.freeze_freeze,qoH.freeze_freeze]
section
variable {C:Ctx}{tm:Array Value}{w:World}
theorem qlx (σ:St) (s x:Nat):qt (qX σ ⟨s,false,(qt σ s).2.freeze⟩) x=if x=s then((qt σ s).1,(qt σ s).2.freeze)else qt σ x:=by
 by_cases hx:x=s
 ·subst hx;by_cases hs:x<σ.length
  ·rw[qS σ ⟨x,false,_⟩ hs];simp
  ·have h1:qX σ ⟨x,false,(qt σ x).2.freeze⟩=σ:=by simp only[qX];exact List.set_eq_of_length_le (by omega)
   have h2:qt σ x=(0,.undef):=by simp[qt,List.getD,zaD (show σ.length≤x by omega)]
   rw[h1,h2];simp[AV.freeze]
 ·rw[qu _ _ hx];simp[hx]
theorem qfc (σ:St) (s:Nat):∀(ow:List Nat),(qcb ow).run (qt (qX σ ⟨s,false,(qt σ s).2.freeze⟩))=(qcb ow).run (qt σ)
 |[]=>rfl
 |x::r=>by
  simp only[qcb,Q.yd,Q.ym,qfc σ s r];have:(qt (qX σ ⟨s,false,(qt σ s).2.freeze⟩) x).2.freeze=(qt σ x).2.freeze:=by
   rw[qlx];split
   ·rename_i e;subst e;exact AV.freeze_freeze _
   ·rfl
  rw[this];rfl
theorem qdg:∀(ow:List Nat) {σ:St}{own:Nat→List Nat}{us:List U},qac C σ tm w own→(qcb ow).run (qt σ)=some us→
  ∃own',qac C (qk σ us) tm w own'∧(∀s,(qt (qk σ us) s).1=(qt σ s).1)∧(∀s,s∉ow→own' s=own s∧qt (qk σ us) s=qt σ s)∧(∀b,FW (sit C σ tm w own) ow b→C.free w own' b)
 |[],σ,own,us,h,he=>by
  have:=Q.yc he;subst this;exact⟨own,h,fun _=>rfl,fun _ _=>⟨rfl,rfl⟩,fun b hb=>qnm hb⟩
 |s::r,σ,own,us,h,he=>by
  simp only[qcb,Q.yd]at he;obtain⟨us',h1,h2⟩:=Q.yb he;have:=Q.yc h2;subst this;obtain⟨own1,g1,g2,g3,g4⟩:=h.freeze s;obtain⟨own',k1,k2,k3,k4⟩:=qdg r g1 (us:=us') (by rw[qfc];exact h1);refine⟨own',k1,fun x=>(k2 x).trans ?_,fun x hx=>?_,?_⟩
  ·rw[qlx];split
   ·rename_i e;rw[e]
   ·rfl
  ·have hxs:x≠s:=fun e=>hx (e▸zai);obtain⟨m1,m2⟩:=k3 x fun hm=>hx (zae _ hm);exact⟨m1.trans (g2 x hxs),m2.trans (qu _ _ hxs)⟩
  ·rintro b (hb|⟨s',hs',hb,hp⟩)
   ·exact k4 b (.inl (g4 b (.inl hb)))
   ·rcases zam.1 hs' with rfl|hs'
    ·exact k4 b (.inl (g4 b (.inr ⟨s',zat.2 rfl,hb,hp⟩)))
    ·by_cases he:s'=s
     ·subst he;exact k4 b (.inl (g4 b (.inr ⟨s',zat.2 rfl,hb,hp⟩)))
     ·exact k4 b (.inr ⟨s',hs',by show b∈own1 s';rw[g2 s' he];exact hb,hp⟩)
end
section
variable {w:World}{F:Nat→Prop}
def qaM (cs:List Value) (off:Nat) (ds:List Value):List Value:=cs.take off++ds++cs.drop (off+ds.length)
theorem qd5 {cs ds:List Value}(h:cs.length=ds.length):qaM cs 0 ds=ds:=by
 rw[qaM,List.take_zero,List.nil_append,za1 (by omega),zar]
theorem qjc {c1 c2 ds:List Value}{off:Nat}(h:off+ds.length≤c1.length):qaM (c1++c2) off ds=qaM c1 off ds++c2:=qlj h rfl
theorem qif {c1 c2 ds:List Value}{off:Nat}(h:c1.length≤off):qaM (c1++c2) off ds=c1++qaM c2 (off-c1.length) ds:=qjF h
theorem qei {cs ds:List Value}{off:Nat}(h:off+ds.length≤cs.length):(qaM cs off ds).length=cs.length:=by
 simp only[qaM,zag,zaf,zap];omega
theorem qcj {cs ds:List Value}{off:Nat}(h:off+ds.length≤cs.length) (j:Nat):(qaM cs off ds)[j]? =if j<off then cs[j]? else if j<off+ds.length then ds[j-off]? else cs[j]? :=by
 unfold qaM;by_cases h1:j<off
 ·rw[if_pos h1,zaC,zaP (by rw[zaf];omega),zal,if_pos h1]
 ·rw[if_neg h1];by_cases h2:j<off+ds.length
  ·rw[if_pos h2,zaP (by rw[zag,zaf];omega),zaL (by rw[zaf];omega),zaf];congr 1;omega
  ·rw[if_neg h2,zaL (by rw[zag,zaf];omega),zan,zag,zaf];congr 1;omega
theorem qmk {cs ds:List Value}{p n q:Nat}(h1:p+n≤cs.length) (h2:q+ds.length≤n):qaM cs p (qaM ((cs.drop p).take n) q ds)=qaM cs (p+q) ds:=by
 have hl:((cs.drop p).take n).length=n:=by rw[zaf,zap];omega
 have hs:(qaM ((cs.drop p).take n) q ds).length=n:=by rw[qei (by omega),hl]
 apply List.ext_getElem?;intro j;have e1:=qcj (cs:=cs) (ds:=qaM ((cs.drop p).take n) q ds) (off:=p) (by omega) j;have e2:=qcj (cs:=cs) (ds:=ds) (off:=p+q) (by omega) j;have e3:=qcj (cs:=(cs.drop p).take n) (ds:=ds) (off:=q) (by omega) (j-p);have e4:((cs.drop p).take n)[j-p]? =if j-p<n then cs[p+(j-p)]? else none:=by
  rw[zal];split
  ·rw[zan]
  ·rfl
 rw[e1,e2,hs,e3,e4];by_cases a1:j<p
 ·rw[if_pos a1,if_pos (by omega)]
 ·rw[if_neg a1];have ep:p+(j-p)=j:=by omega
  rw[ep];by_cases a2:j<p+n
  ·rw[if_pos a2,if_pos (show j-p<n by omega)];by_cases a3:j-p<q
   ·rw[if_pos a3,if_pos (by omega)]
   ·rw[if_neg a3,if_neg (show ¬j<p+q by omega)];by_cases a4:j-p<q+ds.length
    ·rw[if_pos a4,if_pos (by omega)];congr 1;omega
    ·rw[if_neg a4,if_neg (by omega)]
  ·rw[if_neg a2,if_neg (by omega),if_neg (by omega)]
theorem Rep.setElem {n:Nat}{e:Ty}{xs:List e.den}{cs ds:List Value}(h:Rep w F (.arr n e) xs cs) {i:Nat}(hi:i<n) {y:e.den}(hy:Rep w F e y ds):Rep w F (.arr n e) (qbh xs (i:Int) y) (qaM cs (i*e.size) ds):=by
 obtain⟨hl,css,hcl,rfl,hx⟩:=h;have hall:=qlr (by omega) hx;have hdl:=hy.length;have hc:css[i]? =some (css[i]'(by omega)):=zaa (by omega);obtain⟨k1,k2⟩:=qbO hall hc;refine⟨by simp[qbL,hl],css.set i ds,by simp[hcl],?_,?_⟩
 ·rw[qlR hall (by omega),qaM,hdl]
 ·intro j x' c' hj hc';simp only[qbL,zaJ]at hj;by_cases he:i=j
  ·subst he;rw[List.getElem?_set_self (by omega)]at hj hc';injection hj with hj;injection hc' with hc';subst hj;subst hc';exact hy
  ·rw[List.getElem?_set_ne he]at hj hc';exact hx j x' c' hj hc'
theorem qaD.ofVal {t:Ty}{x:t.den}{cs:List Value}(h:Rep w F t x cs):qaD w F (.val t x) cs []:=⟨rfl,h⟩
theorem qaD.putVal {new:BC}{ds:List Value}{b2:List Nat}(hn:qaD w F new ds b2): {t:Ty}→{x:t.den}→{cs:List Value}→{off:Nat}→{c':BC}→Rep w F t x cs→BC.putVal t x off new=some c'→
  off+ds.length≤cs.length∧qaD w F c' (qaM cs off ds) b2
 |.pair a b,x,cs,off,c',⟨c1,c2,hc,h1,h2⟩,he=>by
  subst hc;have l1:=h1.length;have l2:=h2.length;have ln:=hn.length;simp only[BC.putVal]at he;split at he
  ·split at he
   ·rename_i hlt hz;injection he with he;subst he;obtain⟨rfl,hs⟩:=hz;refine⟨by rw[zag];omega,?_⟩;rw[qjc (by omega),qd5 (by omega)];exact⟨ds,c2,b2,[],rfl,by simp,hn,.ofVal h2⟩
   ·simp only[zaB]at he;obtain⟨z,hz,rfl⟩:=he;obtain⟨g1,g2⟩:=qaD.putVal hn h1 hz;refine⟨by rw[zag];omega,?_⟩;rw[qjc g1];exact⟨_,c2,b2,[],rfl,by simp,g2,.ofVal h2⟩
  ·split at he
   ·rename_i hge hz;injection he with he;subst he;obtain⟨rfl,hs⟩:=hz;refine⟨by rw[zag];omega,?_⟩;rw[qif (by omega),show a.size-c1.length=0 by omega,qd5 (by omega)];exact⟨c1,ds,[],b2,rfl,by simp,.ofVal h1,hn⟩
   ·simp only[zaB]at he;obtain⟨z,hz,rfl⟩:=he;obtain⟨g1,g2⟩:=qaD.putVal hn h2 hz;refine⟨by rw[zag];omega,?_⟩;rw[qif (by omega),l1];exact⟨c1,_,[],b2,rfl,by simp,.ofVal h1,g2⟩
 |.int _,_,_,_,_,_,he=>by simp[BC.putVal]at he
 |.bool,_,_,_,_,_,he=>by simp[BC.putVal]at he
 |.str,_,_,_,_,_,he=>by simp[BC.putVal]at he
 |.err,_,_,_,_,_,he=>by simp[BC.putVal]at he
 |.opt _,_,_,_,_,_,he=>by simp[BC.putVal]at he
 |.map _ _,_,_,_,_,_,he=>by simp[BC.putVal]at he
 |.unit,_,_,_,_,_,he=>by simp[BC.putVal]at he
 |.slice _,_,_,_,_,_,he=>by simp[BC.putVal]at he
 |.arr _ _,_,_,_,_,_,he=>by simp[BC.putVal]at he
theorem qaD.put {new:BC}{ds:List Value}{b2:List Nat}(hn:qaD w F new ds b2): {c:BC}→{cs:List Value}→{bs:List Nat}→{off:Nat}→{c':BC}→qaD w F c cs bs→c.put off new=some c'→
  off+ds.length≤cs.length∧∃bs',qaD w F c' (qaM cs off ds) bs'∧(∀b∈bs',b∈bs∨b∈b2)∧((bs++b2).Nodup→bs'.Nodup)
 |.val t x,cs,bs,off,c',h,he=>by
  have ln:=hn.length;have lc:=h.2.length;simp only[BC.put]at he;split at he
  ·rename_i u y;simp only[zaB]at he;obtain⟨z,hz,rfl⟩:=he;obtain⟨hb2,hy⟩:=hn;subst hb2;obtain⟨g1,g2⟩:=h.2.upd hy hz;have ly:=hy.length;rw[←ly]at g1 g2;exact⟨g1,[],⟨rfl,g2⟩,(fun b hb=>by cases hb),fun _=>zaH⟩
  ·split at he
   ·rename_i hz;injection he with he;subst he;obtain⟨rfl,hs⟩:=hz;rw[qd5 (by omega)];exact⟨by omega,b2,hn,fun b hb=>.inr hb,fun hnd=>(zah.1 hnd).2.1⟩
   ·obtain⟨g1,g2⟩:=qaD.putVal hn h.2 he;exact⟨g1,b2,g2,fun b hb=>.inr hb,fun hnd=>(zah.1 hnd).2.1⟩
 |.own et e xs,cs,bs,off,c',h,he=>by
  have ln:=hn.length;obtain⟨v,rfl,h⟩:=h;simp only[BC.put]at he;split at he
  ·rename_i hz;injection he with he;subst he;obtain⟨rfl,hs⟩:=hz;rw[qd5 (by simp;omega)];exact⟨by simp;omega,b2,hn,fun b hb=>.inr hb,fun hnd=>(zah.1 hnd).2.1⟩
  ·cases he
 |.pair a b,cs,bs,off,c',h,he=>by
  have ln:=hn.length;have lc:=h.length;obtain⟨c1,c2,b1,b1',rfl,rfl,h1,h2⟩:=h;have l1:=h1.length;have l2:=h2.length;simp only[BC.put]at he;split at he
  ·rename_i hz;injection he with he;subst he;obtain⟨rfl,hs⟩:=hz;have lc:(c1++c2).length=ds.length:=by rw[zag];omega
   rw[qd5 lc];exact⟨by omega,b2,hn,fun b hb=>.inr hb,fun hnd=>(zah.1 hnd).2.1⟩
  ·split at he
   ·simp only[zaB]at he;obtain⟨z,hz,rfl⟩:=he;obtain⟨g1,bs',g2,g3,g4⟩:=qaD.put hn h1 hz;refine⟨by rw[zag];omega,bs'++b1',?_,?_,?_⟩
    ·rw[qjc g1];exact⟨_,c2,bs',b1',rfl,rfl,g2,h2⟩
    ·intro x hx;rcases zaj.1 hx with hx|hx
     ·exact(g3 x hx).imp (zac _) id
     ·exact .inl (zab _ hx)
    ·intro hnd;obtain⟨n1,n2,n3⟩:=zah.1 hnd;obtain⟨n4,n5,n6⟩:=zah.1 n1;refine zah.2 ⟨g4 (zah.2 ⟨n4,n2,fun x hx y hy=>n3 x (zac _ hx) y hy⟩),n5,fun x hx y hy=>?_⟩;rcases g3 x hx with hx|hx
     ·exact n6 x hx y hy
     ·exact fun e=>n3 y (zab _ hy) x hx e.symm
   ·simp only[zaB]at he;obtain⟨z,hz,rfl⟩:=he;obtain⟨g1,bs',g2,g3,g4⟩:=qaD.put hn h2 hz;refine⟨by rw[zag];omega,b1++bs',?_,?_,?_⟩
    ·rw[qif (by omega),l1];exact⟨c1,_,b1,bs',rfl,rfl,h1,g2⟩
    ·intro x hx;rcases zaj.1 hx with hx|hx
     ·exact .inl (zac _ hx)
     ·exact(g3 x hx).imp (zab _) id
    ·intro hnd;obtain⟨n1,n2,n3⟩:=zah.1 hnd;obtain⟨n4,n5,n6⟩:=zah.1 n1;refine zah.2 ⟨n4,g4 (zah.2 ⟨n5,n2,fun x hx y hy=>n3 x (zab _ hx) y hy⟩),fun x hx y hy=>?_⟩;rcases g3 y hy with hy|hy
     ·exact n6 x hx y hy
     ·exact n3 x (zac _ hx) y hy
 |.hole n,cs,bs,off,c',h,he=>by
  have ln:=hn.length;have hl:cs.length=n:=h.2;simp only[BC.put]at he;split at he
  ·rename_i hz;injection he with he;subst he;obtain⟨rfl,hs⟩:=hz;rw[qd5 (by omega)];exact⟨by omega,b2,hn,fun b hb=>.inr hb,fun hnd=>(zah.1 hnd).2.1⟩
  ·cases he
theorem qaD.oneCell_own {et:Nat}{e:Ty}{xs:List e.den}{cs:List Value}{bs:List Nat}(h:qaD w F (.own et e xs) cs bs):∀v∈cs,v.oneCell'=true:=by
 obtain⟨v,rfl,h⟩:=h;intro u hu;simp at hu;subst hu;exact h.oneCell
theorem qaD.oneCell: {c:BC}→{cs:List Value}→{bs:List Nat}→c.sound=true→qaD w F c cs bs→∀v∈cs,v.oneCell'=true
 |.val _ _,_,_,_,h=>h.2.oneCell
 |.own _ _ _,_,_,_,h=>h.oneCell_own
 |.pair _ _,_,_,hs,⟨c1,c2,_,_,rfl,_,h1,h2⟩=>fun v hv=>by
  simp only[BC.sound,zad]at hs;rcases zaj.1 hv with hv|hv
  ·exact h1.oneCell hs.1 v hv
  ·exact h2.oneCell hs.2 v hv
 |.hole _,_,_,hs,_=>by simp[BC.sound]at hs
theorem qfA {b:Nat}{cur:Array Value}(new:Array Value) {te:Nat}(h:w.heap[b]? =some (.cells cur te (0,0))):qbc (fun k=>k=b) w (w.setRow b new):=
 ⟨rfl,rfl,rfl,by simp,fun k _ hk=>setRow_other w b k new hk⟩
end
section
variable {C:Ctx}{E:Env}{σ:St}{a:Act}{w w':World}{own:Nat→List Nat}{o:Oper} [Tabbed E C]
theorem qhJ (h:qac C σ a.tmps w own) {t:Ty}{x1:Op1}{v:Value}(ho:qbB (sit C σ a.tmps w own) x1 v) {n:BC×List Nat×List U}(he:(qhY t x1).run (qt σ)=some n) (h0:n.2.1=[]):
  ∃bs,qaD w (C.free w own) n.1 v.cells.toList bs∧v.cells.toList.length=t.size∧(∀u∈v.cells.toList,u.oneCell'=true)∧
   ((n.2.2=[]∧bs=[])∨∃s,n.2.2=[⟨s,true,.undef⟩]∧bs=own s):=by
 obtain⟨os,ov,oa⟩:=x1;unfold qhY at he;split at he
 ·rename_i s et e xs h1 h2;simp only at h1 h2;subst h1;subst h2;split at he
  ·rename_i ht;subst ht;have:=Q.yc he;subst this;obtain⟨e1,e2,e3⟩:=ho;have e3:q8 w (C.free w own) et e xs v (own s):=e3;have hc:v.cells= #[v]:=by
    obtain⟨cells,ho⟩:=e3.hdr;rcases ho.2 with⟨rfl,_⟩|⟨g,cap,cur,rfl,_⟩<;>rfl
   rw[hc];exact⟨own s,⟨v,rfl,e3⟩,rfl,fun u hu=>by simp at hu;subst hu;exact e3.oneCell,.inr ⟨s,rfl,rfl⟩⟩
  ·cases he
 ·rename_i et e xs h1 h2;simp only at h1 h2;subst h1;subst h2;split at he
  ·rename_i ht;subst ht;have:=Q.yc he;subst this;have e3:q8 w (C.free w own) et e xs v []:=ho;have hc:v.cells= #[v]:=by
    obtain⟨cells,ho⟩:=e3.hdr;rcases ho.2 with⟨rfl,_⟩|⟨g,cap,cur,rfl,_⟩<;>rfl
   rw[hc];exact⟨[],⟨v,rfl,e3⟩,rfl,fun u hu=>by simp at hu;subst hu;exact e3.oneCell,.inl ⟨rfl,rfl⟩⟩
  ·cases he
 ·rename_i s c h1 h2;simp only at h1 h2;subst h1;subst h2;split at he
  ·rename_i ht;have:=Q.yc he;subst this;obtain⟨e1,e2,cs,e4,e3⟩:=ho;have hc:v.cells.toList=cs:=by rw[e4];simp[Value.cells]
   rw[hc];exact⟨own s,e3,e3.length.trans ht.1,e3.oneCell ht.2,.inr ⟨s,rfl,rfl⟩⟩
  ·cases he
 ·obtain⟨r,h1,h2⟩:=Q.yb he;have hv:=qc8 h ho h1;have:=Q.yc h2;subst this;simp only at h0;rw[h0]at hv;have hr:=hv.1;exact⟨[],⟨rfl,hr.keep fun b hb hs=>⟨qnm hb,hs,rfl⟩⟩,hr.length,hr.oneCell,.inl ⟨rfl,rfl⟩⟩
theorem qgC {τ:St}(hr:(execOp a.eval o).run C.P w=.ok .skip w') (h:∃own',qac C τ (a.put o.dst undef).tmps w' own'):qcW C o a w τ:=by
 intro K Q hK;obtain⟨own',h⟩:=h;unfold Oper.wp;rw[hr];exact hK _ _ own' (qfG o a _) h
theorem qjW (cons:List Nat):∀(σ:St),(∀s∈cons,s<σ.length)→
  (∀s,s∉cons→qt (qk σ (cons.map fun s=>⟨s,true,.undef⟩)) s=qt σ s)∧(∀s∈cons,(qt σ s).1<(qt (qk σ (cons.map fun s=>⟨s,true,.undef⟩)) s).1∧(qt (qk σ (cons.map fun s=>⟨s,true,.undef⟩)) s).2=.undef):=by
 induction cons with
 |nil=>intro σ _;exact⟨fun _ _=>rfl,fun s hs=>by cases hs⟩
 |cons c r ih=>
  intro σ hl;have hc:c<σ.length:=hl c zai;obtain⟨h1,h2⟩:=ih (qX σ ⟨c,true,.undef⟩) (fun s hs=>by rw[qal];exact hl s (zae _ hs));have e:qk σ ((c::r).map fun s=>⟨s,true,.undef⟩)=qk (qX σ ⟨c,true,.undef⟩) (r.map fun s=>⟨s,true,.undef⟩):=rfl;rw[e];have eC:qt (qX σ ⟨c,true,.undef⟩) c=((qt σ c).1+1,.undef):=qS σ ⟨c,true,.undef⟩ hc;refine⟨fun s hs=>?_,fun s hs=>?_⟩
  ·rw[h1 s (fun hm=>hs (zae _ hm)),qu _ _ (fun e=>hs (by rw[e];exact zai))]
  ·by_cases hr:s∈r
   ·obtain⟨h3,h4⟩:=h2 s hr;refine⟨Nat.lt_of_le_of_lt ?_ h3,h4⟩;by_cases hsc:s=c
    ·subst hsc;rw[eC];exact Nat.le_succ _
    ·rw[qu _ _ hsc];exact zay _
   ·have hsc:s=c:=(zam.1 hs).resolve_right hr;subst hsc;rw[h1 s hr,eC];exact⟨zbb _,rfl⟩
theorem qac.mut {tm:Array Value}(h:qac C σ tm w own) {d:Nat}(hd:d<σ.length) (cons:List Nat) (hcons:∀s∈cons,s<σ.length∧s≠d) (hk:qbc (fun k=>k∈own d∨∃s∈cons,k∈own s) w w') {av:AV}{v:Value}{bs:List Nat}
  (hb:∀b∈bs,(w.heap.size≤b∧b<w'.heap.size)∨b∈own d∨∃s∈cons,b∈own s) (hnd:bs.Nodup) (hrep:qax { sit C σ tm w own with w:=w' } av v bs) (hm:av.mentions=[]):
  ∃own',qac C (qk σ (cons.map (fun s=>⟨s,true,.undef⟩)++[⟨d,true,av⟩])) (tm.setIfInBounds d v) w' own':=by
 obtain⟨c1,c2⟩:=qjW cons σ (fun s hs=>(hcons s hs).1);have hdc:d∉cons:=fun hm=>(hcons d hm).2 rfl;rw[qbC];generalize hτ:qk σ (cons.map fun s=>⟨s,true,.undef⟩)=τ at c1 c2;have hlen:τ.length=σ.length:=by rw[←hτ,qO]
 have eD:qt (qk τ [⟨d,true,av⟩]) d=((qt σ d).1+1,av):=by
  show qt (qX τ ⟨d,true,av⟩) d=_;rw[qS τ ⟨d,true,av⟩ (by rw[hlen];exact hd),c1 d hdc];rfl
 have eN:∀s,s≠d→qt (qk τ [⟨d,true,av⟩]) s=qt τ s:=fun s hs=>qu τ ⟨d,true,av⟩ hs;let own':Nat→List Nat:=fun x=>if x=d then bs else if x∈cons then[]else own x
 have oD:own' d=bs:=by simp[own']
 have oC:∀s∈cons,own' s=[]:=fun s hs=>by simp[own',hs,(hcons s hs).2]
 refine⟨own',h.update (fun x=>x=d∨x∈cons) (by rw[qO,hlen]) (by simp) ?_ ?_ (hk.mono ?_) ?_ ?_ ?_ ?_ ?_⟩
 ·intro x hx;have h1:x≠d:=fun e=>hx (.inl e);have h2:x∉cons:=fun e=>hx (.inr e);exact⟨by rw[eN x h1,c1 x h2],qah tm _ h1,by simp[own',h1,h2]⟩
 ·rintro x (rfl|hx)
  ·rw[eD];exact .inl (zbb _)
  ·rw[eN x (hcons x hx).2];exact .inl (c2 x hx).1
 ·rintro k (hk|⟨s,hs,hk⟩)
  ·exact⟨d,.inl rfl,hk⟩
  ·exact⟨s,.inr hs,hk⟩
 ·rintro x (rfl|hx)
  ·exact hd
  ·exact(hcons x hx).1
 ·rintro x (rfl|hx)
  ·rw[oD];refine⟨fun b hbm=>?_,hnd⟩;rcases hb b hbm with h1|h1|⟨s,hs,h1⟩
   ·exact .inl h1
   ·exact .inr ⟨x,.inl rfl,h1⟩
   ·exact .inr ⟨s,.inr hs,h1⟩
  ·rw[oC x hx];exact⟨(fun b hb=>by cases hb),zaH⟩
 ·rintro x y b (rfl|hx) (rfl|hy) hb1 hb2
  ·rfl
  ·rw[oC y hy]at hb2;cases hb2
  ·rw[oC x hx]at hb1;cases hb1
  ·rw[oC x hx]at hb1;cases hb1
 ·rintro x (rfl|hx)
  ·rw[eD,oD,qbd tm v (by rw[h.size];exact hd)];refine qax.keep (X:= { sit C σ tm w own with w:=w' }) (X':=sit C _ _ w' own') ⟨rfl,rfl⟩ (fun x hx hlt=>?_) (fun _ _ _=>rfl) (fun m hmm=>by rw[hm]at hmm;cases hmm) hrep;have hx':C.free w own x:=hx;refine⟨⟨hx'.1,zaE hx'.2.1 hk.size,fun s hs=>?_⟩,hlt,rfl⟩;have hs:x∈own' s:=hs;simp only[own']at hs;split at hs
   ·rcases hb x hs with h1|h1|⟨s0,_,h1⟩
    ·have:=hx'.2.1;omega
    ·exact hx'.2.2 _ h1
    ·exact hx'.2.2 _ h1
   ·split at hs
    ·cases hs
    ·exact hx'.2.2 _ hs
  ·rw[eN x (hcons x hx).2,(c2 x hx).2];trivial
 ·rintro x (rfl|hx) m hmm
  ·rw[eD,hm]at hmm;cases hmm
  ·rw[eN x (hcons x hx).2,(c2 x hx).2]at hmm;cases hmm
theorem qrc (tm:Array Value) {d:Nat}(h:d<tm.size):tm.setIfInBounds d (tm.getD d undef)=tm:=by
 apply Array.ext
 ·simp
 ·intro i h1 h2;by_cases hi:d=i
  ·subst hi;simp[Array.getD,h]
  ·rw[Array.getElem_setIfInBounds_ne (h:=hi)]
theorem qnx {cells ds:List Value}{i sz off:Nat}(h1:off+ds.length≤sz) (h2:i*sz+sz≤cells.length):
  ((qaM cells (i*sz+off) ds).drop (i*sz)).take sz=qaM ((cells.drop (i*sz)).take sz) off ds:=by
 apply List.ext_getElem?;intro k;rw[qcj (by rw[zaf,zap];omega),zal,zan,qcj (by omega)];by_cases hk:k<sz
 ·rw[if_pos hk];by_cases c1:k<off
  ·rw[if_pos (by omega),if_pos c1,zal,if_pos hk,zan]
  ·rw[if_neg (by omega),if_neg c1];by_cases c2:k<off+ds.length
   ·rw[if_pos (by omega),if_pos c2];congr 1;omega
   ·rw[if_neg (by omega),if_neg c2,zal,if_pos hk,zan]
 ·rw[if_neg hk,if_neg (by omega),if_neg (by omega),zal,if_neg hk]
theorem qmm {cells ds:List Value}{i j sz off:Nat}(h1:off+ds.length≤sz) (h2:i*sz+sz≤cells.length) (hne:i≠j):
  ((qaM cells (i*sz+off) ds).drop (j*sz)).take sz=(cells.drop (j*sz)).take sz:=by
 apply List.ext_getElem?;intro k;rw[zal,zal];split
 ·rename_i hk;rw[zan,zan,qcj (by omega)];rcases Nat.lt_or_gt_of_ne hne with hlt|hgt
  ·have:i*sz+sz≤j*sz:=by rw[←Nat.succ_mul];exact zaq _ hlt
   rw[if_neg (by omega),if_neg (by omega)]
  ·have:j*sz+sz≤i*sz:=by rw[←Nat.succ_mul];exact zaq _ hgt
   rw[if_pos (by omega)]
 ·rfl
theorem qjX {P:Program}{w:World}{t:Nat}{u:Ty}{et sz g n cap p:Nat}{v:Value}{cells:List Value}(hT:TyB P t u) (ho:w.ownsRow 0 et sz (.slice (some ⟨g,0,none⟩) n cap) n cells)
  (hl:v.cells.toList.length=u.size) (hp:p+u.size≤n*sz) (h1:∀x∈v.cells.toList,x.oneCell'=true):
  ∃W,(Instr.storeAt t (ptr g p) v).run P w=.ok () W∧qbc (fun k=>k=g) w W∧W.ownsRow 0 et sz (.slice (some ⟨g,0,none⟩) n cap) n (qaM cells p v.cells.toList):=by
 obtain⟨r4,r5⟩:=ho;rcases r5 with⟨r6,_⟩|⟨g',cap',cur,r6,_,r7,r8,r9,r10,r11⟩
 ·cases r6
 injection r6 with r6 r6n r6c;injection r6 with r6;injection r6 with r6;subst r6;subst r6c;have hcz:cur.toList.length=cur.size:=zaI;have hcur:n*sz≤cur.size:=by rw[r10];exact zaq _ r8
 have hrun:=qjg (w:=w) hT (v:=v) (off:=p) r7 hl (by omega) h1;refine⟨_,hrun,?_⟩;rw[←hl];have hsp:(cur.toList.take p++v.cells.toList++cur.toList.drop (p+v.cells.toList.length)).toArray=(qaM cur.toList p v.cells.toList).toArray:=rfl;rw[hsp];refine⟨qfA _ r7,by rw[qei (by omega)];exact r4,.inr ⟨g,cap,_,rfl,za6 _,setRow_heap w g _ _ et _ r7,r8,r9,?_,?_⟩⟩
 ·rw[List.size_toArray,qei (by omega)];simpa using r10
 ·show(qaM cur.toList p v.cells.toList).take (n*sz)=qaM cells p v.cells.toList;apply List.ext_getElem?;intro k;rw[zal,qcj (by omega),qcj (by omega),←r11,zal];by_cases hk:k<n*sz
  ·simp only[if_pos hk]
  ·rw[if_neg hk,if_neg (show ¬k<p by omega),if_neg (show ¬k<p+v.cells.toList.length by omega),if_neg hk]
theorem qho.store {P:Program}{w:World}{F:Nat→Prop}{t:Nat}{u:Ty}{et:Nat}{e:Ty}{hl:Int×Nat×Nat}{xs:List e.den}{g n cap:Nat}{bs:List Nat}{i:Int}{off:Nat}{v:Value}{y0:u.den}{y:e.den}(hT:TyB P t u) (hrow:qho w F et e hl xs (.slice (some ⟨g,0,none⟩) n cap) bs) (hnd:bs.Nodup)
  (hF0:∀x,F x→x≠g) (k2:0≤i) (k3:i<n) (hm:(etM et).hits off (off+u.size)=false) (hy:e.upd (qh xs i e.dflt) off u y0=some y) (hrc:Rep w F u y0 v.cells.toList):
  ∃W,(Instr.storeAt t (ptr g (i.toNat*e.size+off)) v).run P w=.ok () W∧qbc (fun k=>k=g) w W∧qho W F et e hl (qbh xs i y) (.slice (some ⟨g,0,none⟩) n cap) bs:=by
 have hn:=hrow.cap;subst hn;obtain⟨cells,bss,ho,hlb,hbs,hx⟩:=hrow;have hi:i.toNat<xs.length:=by omega
 rw[show qh xs i e.dflt=xs[i.toNat]from qeO (zaa hi)]at hy;have hib:i.toNat<bss.length:=by omega
 have hrl:=hrc.length;have hin:i.toNat*e.size+e.size≤xs.length*e.size:=by rw[←Nat.succ_mul];exact zaq _ hi
 have hcl:cells.length=xs.length*e.size:=ho.1;obtain⟨u1,u2⟩:=qqt e (o:=0) (hx i.toNat _ _ (zaa hi) (zaa hib)) hrc hy (by rw[zaM];exact hm);have hel:((cells.drop (i.toNat*e.size)).take e.size).length=e.size:=by rw[zaf,zap];omega
 rw[hel]at u1;obtain⟨W,w1,w2,w3⟩:=qjX hT ho (p:=i.toNat*e.size+off) hrl (by omega) hrc.oneCell;have hgb:bs=g::bss.flatten:=hbs;have hgn:g∉bss.flatten:=by rw[hgb]at hnd;exact(zax.1 hnd).1
 have hF:∀x,F x→x<w.heap.size→F x∧x<W.heap.size∧W.heap[x]? =w.heap[x]? :=fun x hx hlt=>⟨hx,zaE hlt w2.size,w2.block x hlt fun e=>hF0 x hx e⟩;have hB:∀b∈bss,∀k∈b,k<w.heap.size→W.heap[k]? =w.heap[k]? :=fun b hb k hk hlt=>w2.block k hlt fun e=>hgn (e▸List.mem_flatten.2 ⟨b,hb,hk⟩);have hlx:(qbh xs i y).length=xs.length:=by simp[qbL]
 refine⟨W,w1,w2,qaM cells (i.toNat*e.size+off) v.cells.toList,bss,by rw[hlx];exact w3,by rw[hlx];exact hlb,hbs,fun j x b hj hb=>?_⟩;simp only[qbL]at hj;by_cases hji:i.toNat=j
 ·subst hji;rw[List.getElem?_set_self hi]at hj;injection hj with hj;subst hj;rw[zaa hib]at hb;injection hb with hb;subst hb;rw[qnx (by omega) (by omega)];rw[←hrl]at u2;exact u2.keep hF (hB _ (zau hib))
 ·rw[List.getElem?_set_ne hji]at hj;rw[qmm (by omega) (by omega) hji];exact(hx j x b hj hb).keep hF (hB b (zaU hb))
theorem qho.put {P:Program}{w:World}{F:Nat→Prop}{t et:Nat}{e:Ty}{xs:List e.den}{g n cap:Nat}{bs:List Nat}{i:Int}{off et':Nat}{e':Ty}{ys ys':List e'.den}{x':e.den}{v':Value}{b':List Nat}
  (hT:TyB P t (.slice e')) (hrow:qho w F et e (i,off,off+1) xs (.slice (some ⟨g,0,none⟩) n cap) bs) (hnd:bs.Nodup) (hF0:∀x,F x→x≠g)
  (k2:0≤i) (k3:i<n) (hn:e.noArr=true) (hs:e.sub (qh xs i e.dflt) off (.slice e')=some ys) (hm:(etM et).at off=some et') (hu:e.upd (qh xs i e.dflt) off (.slice e') ys'=some x')
  (hr:qar w F et' e' ys' v' b') (hgb:g∉b'):
  ∃W p q,(Instr.storeAt t (ptr g (i.toNat*e.size+off)) v').run P w=.ok () W∧qbc (fun k=>k=g) w W∧bs=g::(p++q)∧qho W F et e (-1,0,0) (qbh xs i x') (.slice (some ⟨g,0,none⟩) n cap) (g::(p++(b'++q))):=by
 have hnn:=hrow.cap;subst hnn;obtain⟨cells,bss,ho,hlb,hbs,hx⟩:=hrow;have hi:i.toNat<xs.length:=by omega
 rw[show qh xs i e.dflt=xs[i.toNat]from qeO (zaa hi)]at hs hu;have hib:i.toNat<bss.length:=by omega
 have hin:i.toNat*e.size+e.size≤xs.length*e.size:=by rw[←Nat.succ_mul];exact zaq _ hi
 have hcl:cells.length=xs.length*e.size:=ho.1;have hlt:=Ty.yp e hs;have hone:v'.cells.toList=[v']:=by rw[cells_one (hr.rep.2.2 rfl)]
 obtain⟨W,w1,w2,w3⟩:=qjX hT ho (p:=i.toNat*e.size+off) (v:=v') (by rw[hone];rfl) (by show i.toNat*e.size+off+1≤_;omega) (by rw[hone];intro x hx;rw[zat.1 hx];exact qar.oneCell hr);rw[hone]at w3;have hgb0:bs=g::bss.flatten:=hbs;have hgn:g∉bss.flatten:=by rw[hgb0]at hnd;exact(zax.1 hnd).1
 have hF:∀x,F x→x<w.heap.size→F x∧x<W.heap.size∧W.heap[x]? =w.heap[x]? :=fun x hx hlt=>⟨hx,zaE hlt w2.size,w2.block x hlt fun e=>hF0 x hx e⟩;have hB:∀b∈bss,∀k∈b,k<w.heap.size→W.heap[k]? =w.heap[k]? :=fun b hb k hk hlt=>w2.block k hlt fun e=>hgn (e▸List.mem_flatten.2 ⟨b,hb,hk⟩);have hr':qar W F et' e' ys' v' b':=hr.keep hF fun b hb hlt=>w2.block b hlt fun e=>hgb (e▸hb);have hx0:=(hx i.toNat _ _ (zaa hi) (zaa hib)).keep hF (hB _ (zau hib));rw[qjb k2]at hx0;obtain⟨p,q,g1,g2,g3⟩:=qlp e (o:=0) (off:=off) hn (by rw[zaM];exact hx0) hs (by rw[zaM];exact hm);have g4:=g3 v' ys' b' x' hu hr';have hlx:(qbh xs i x').length=xs.length:=by simp[qbL]
 refine⟨W,(bss.take i.toNat).flatten++p,q++(bss.drop (i.toNat+1)).flatten,w1,w2,?_,qaM cells (i.toNat*e.size+off) [v'],bss.set i.toNat (p++(b'++q)),by rw[hlx];exact w3,by rw[hlx];simpa using hlb,?_,fun j x b hj hb=>?_⟩
 ·rw[hbs,qhj hib,g1];simp[Value.ownBlock]
 ·rw[qiI hib];simp[Value.ownBlock]
 ·simp only[qbL]at hj;rw[qcc];by_cases hji:i.toNat=j
  ·subst hji;rw[List.getElem?_set_self hib]at hb;injection hb with hb;subst hb;rw[List.getElem?_set_self hi]at hj;injection hj with hj;subst hj;rw[qnx (by show off+1≤_;omega) (by omega)];exact g4
  ·rw[List.getElem?_set_ne hji]at hb hj;have:=(hx j x b hj hb).keep hF (hB b (zaU hb));rw[qmB k2 hji]at this;rw[qmm (by show off+1≤_;omega) (by omega) hji];exact this
theorem qac.mut2 {tm:Array Value}(h:qac C σ tm w own) {d s0:Nat}(hd:d<σ.length) (hs0:s0<σ.length) (hne:s0≠d) {b1 b2 b3:List Nat}(ho:own s0=b1++(b2++b3)) (hk:qbc (fun k=>k∈own d∨k∈b2) w w') {av av0:AV}{v:Value}{bs:List Nat}
  (hb:∀b∈bs,(w.heap.size≤b∧b<w'.heap.size)∨b∈own d∨b∈b2) (hnd:bs.Nodup) (hrep:qax { sit C σ tm w own with w:=w' } av v bs) (hm:av.mentions=[]) (hrep0:qax { sit C σ tm w own with w:=w' } av0 (tm.getD s0 undef) (b1++b3)) (hm0:av0.mentions=[]):
  ∃own',qac C (qk σ [⟨s0,true,av0⟩,⟨d,true,av⟩]) (tm.setIfInBounds d v) w' own':=by
 have eD:qt (qk σ [⟨s0,true,av0⟩,⟨d,true,av⟩]) d=((qt σ d).1+1,av):=by
  show qt (qX (qX σ ⟨s0,true,av0⟩) ⟨d,true,av⟩) d=_;rw[qS _ ⟨d,true,av⟩ (by rw[qal];exact hd),qu _ _ (show d≠s0 from fun e=>hne e.symm)];rfl
 have eS:qt (qk σ [⟨s0,true,av0⟩,⟨d,true,av⟩]) s0=((qt σ s0).1+1,av0):=by
  show qt (qX (qX σ ⟨s0,true,av0⟩) ⟨d,true,av⟩) s0=_;rw[qu _ _ hne,qS σ ⟨s0,true,av0⟩ hs0];rfl
 have eO:∀x,x≠s0→x≠d→qt (qk σ [⟨s0,true,av0⟩,⟨d,true,av⟩]) x=qt σ x:=fun x h1 h2=>by
  show qt (qX (qX σ ⟨s0,true,av0⟩) ⟨d,true,av⟩) x=_;rw[qu _ _ h2,qu _ _ h1]
 let own':Nat→List Nat:=fun x=>if x=d then bs else if x=s0 then b1++b3 else own x
 have oD:own' d=bs:=by simp[own']
 have oS:own' s0=b1++b3:=by simp[own',hne]
 have hns:=h.nodup s0;rw[ho]at hns;have n1:=zah.1 hns;have n2:=zah.1 n1.2.1;have sub0:∀b,b∈b1++b3→b∈own s0:=fun b hb=>by
  rw[ho];rcases zaj.1 hb with hb|hb
  ·exact zac _ hb
  ·exact zab _ (zab _ hb)
 have not2:∀b,b∈b1++b3→b∉b2:=fun b hb hb2=>by
  rcases zaj.1 hb with hb|hb
  ·exact n1.2.2 b hb b (zac _ hb2) rfl
  ·exact n2.2.2 b hb2 b hb rfl
 have dis:∀b,b∈bs→b∈b1++b3→False:=fun b h1 h2=>by
  rcases hb b h1 with h3|h3|h3
  ·have:=(h.mine s0 b (sub0 b h2)).2;omega
  ·exact hne (h.apart s0 d b (sub0 b h2) h3)
  ·exact not2 b h2 h3
 have keep:∀ {av1:AV}{v1:Value}{bs1:List Nat},av1.mentions=[]→qax { sit C σ tm w own with w:=w' } av1 v1 bs1→qax (sit C (qk σ [⟨s0,true,av0⟩,⟨d,true,av⟩]) (tm.setIfInBounds d v) w' own') av1 v1 bs1:=by
  intro av1 v1 bs1 hm1 hr1;refine qax.keep (X:= { sit C σ tm w own with w:=w' }) (X':=sit C _ _ w' own') ⟨rfl,rfl⟩ (fun x hx hlt=>?_) (fun _ _ _=>rfl) (fun m hmm=>by rw[hm1]at hmm;cases hmm) hr1;have hx':C.free w own x:=hx;refine⟨⟨hx'.1,zaE hx'.2.1 hk.size,fun s hs=>?_⟩,hlt,rfl⟩;have hs:x∈own' s:=hs;simp only[own']at hs;split at hs
  ·rcases hb x hs with h1|h1|h1
   ·have:=hx'.2.1;omega
   ·exact hx'.2.2 _ h1
   ·exact hx'.2.2 s0 (by rw[ho];exact zab _ (zac _ h1))
  ·split at hs
   ·exact hx'.2.2 s0 (sub0 x hs)
   ·exact hx'.2.2 _ hs
 refine⟨own',h.update (fun x=>x=s0∨x=d) (qO _ _) (by simp) ?_ ?_ (hk.mono ?_) ?_ ?_ ?_ ?_ ?_⟩
 ·intro x hx;have h1:x≠s0:=fun e=>hx (.inl e);have h2:x≠d:=fun e=>hx (.inr e);exact⟨eO x h1 h2,qah tm _ h2,by simp[own',h1,h2]⟩
 ·rintro x (rfl|rfl)
  ·rw[eS];exact .inl (zbb _)
  ·rw[eD];exact .inl (zbb _)
 ·rintro k (hk|hk)
  ·exact⟨d,.inr rfl,hk⟩
  ·exact⟨s0,.inl rfl,by rw[ho];exact zab _ (zac _ hk)⟩
 ·rintro x (rfl|rfl)<;>assumption
 ·rintro x (rfl|rfl)
  ·rw[oS];exact⟨fun b hbm=>.inr ⟨x,.inl rfl,sub0 b hbm⟩,zah.2 ⟨n1.1,n2.2.1,fun b hb b' hb'=>n1.2.2 b hb b' (zab _ hb')⟩⟩
  ·rw[oD];refine⟨fun b hbm=>?_,hnd⟩;rcases hb b hbm with h1|h1|h1
   ·exact .inl h1
   ·exact .inr ⟨x,.inr rfl,h1⟩
   ·exact .inr ⟨s0,.inl rfl,by rw[ho];exact zab _ (zac _ h1)⟩
 ·rintro x y b (rfl|rfl) (rfl|rfl) hb1 hb2
  ·rfl
  ·rw[oS]at hb1;rw[oD]at hb2;exact(dis b hb2 hb1).elim
  ·rw[oD]at hb1;rw[oS]at hb2;exact(dis b hb1 hb2).elim
  ·rfl
 ·rintro x (rfl|rfl)
  ·rw[eS,oS,qah tm _ hne];exact keep hm0 hrep0
  ·rw[eD,oD,qbd tm v (by rw[h.size];exact hd)];exact keep hm hrep
 ·rintro x (rfl|rfl) m hmm
  ·rw[eS,hm0]at hmm;cases hmm
  ·rw[eD,hm]at hmm;cases hmm
theorem qac.mutK {tm:Array Value}(h:qac C σ tm w own) {s:Nat}(hs:s<σ.length) {b1 b2 b3:List Nat}(ho:own s=b1++(b2++b3)) (hptr:∀b,tm.getD s undef=ptr b 0→b∉b2) (hk:qbc (fun k=>k∈b2) w w') {av:AV}
  (hrep:qax { sit C σ tm w own with w:=w' } av (tm.getD s undef) (own s)) (hm:av.mentions=[]):qac C (qk σ [⟨s,false,av⟩]) tm w' own:=by
 have eS:qt (qk σ [⟨s,false,av⟩]) s=((qt σ s).1,av):=qS σ ⟨s,false,av⟩ hs;refine h.update (fun x=>x=s) (qO _ _) rfl ?_ ?_ (hk.mono ?_) ?_ ?_ ?_ ?_ ?_
 ·intro x hx;exact⟨qu σ ⟨s,false,av⟩ hx,rfl,rfl⟩
 ·rintro x rfl;rw[eS];exact .inr ⟨rfl,rfl,fun b hb hp=>⟨hb,hk.block b (h.mine x b hb).2 (hptr b hp)⟩⟩
 ·intro k hk;exact⟨s,rfl,by rw[ho];exact zab _ (zac _ hk)⟩
 ·rintro x rfl;exact hs
 ·rintro x rfl;exact⟨fun b hb=>.inr ⟨x,rfl,hb⟩,h.nodup x⟩
 ·rintro x y b rfl rfl _ _;rfl
 ·rintro x rfl;rw[eS];refine qax.keep (X:= { sit C σ tm w own with w:=w' }) (X':=sit C _ _ w' own) ⟨rfl,rfl⟩ (fun x hx hlt=>?_) (fun _ _ _=>rfl) (fun m hmm=>by rw[hm]at hmm;cases hmm) hrep;have hx':C.free w own x:=hx;exact⟨⟨hx'.1,zaE hx'.2.1 hk.size,hx'.2.2⟩,hlt,rfl⟩
 ·rintro x rfl m hmm;rw[eS,hm]at hmm;cases hmm
theorem qhp {av a':AV}{m:BC}{fo:Option Nat}(h:av.swapRow m fo=some a'):a'.mentions=[]:=by
 unfold AV.swapRow at h;split at h
 ·split at h
  ·injection h with h;subst h;rfl
  ·injection h with h;subst h;rfl
  ·cases h
 ·split at h
  ·rw[zaB]at h;obtain⟨c,_,rfl⟩:=h;rfl
  ·cases h
 ·cases h
theorem qvX (h:qac C σ a.tmps w own) {t s v0 sz off:Nat}{u:Ty}{fo fo':Option Nat}{i i':Int}{o1 t0 v1:Nat}{av:AV}{x1:Op1}{v p:Value}(hT:TyB C.P t u) (hp:qax (sit C σ a.tmps w own) (.prow s v0 fo sz i off) p []) (hs:(qt σ s).2=.hol av fo' i' o1 t0 v1)
  (ho:qbB (sit C σ a.tmps w own) x1 v) (hdst:o.dst=none) {f:Eff}(he:(putE u x1 s v0 fo sz i off (qt σ s) av fo' i' o1).run (qt σ)=some f) (hd:∀u∈f.upd,u.s<σ.length) (hc:∀b∈f.chk,b=true)
  (hx:(execOp a.eval o).run C.P w=((Instr.storeAt t p v).run C.P w).andThen fun _ w'=>.ok .skip w'):qcW C o a w (qk σ f.upd):=by
 have hput:(a.put o.dst undef).tmps=a.tmps:=by rw[hdst];rfl
 obtain⟨xs1,xv,xa⟩:=x1;unfold putE at he;split at he;case h_2=>cases he
 rename_i e' sx et' e'' ys et e xs h1 h2 hrow;simp only at h1 h2;subst h1;subst h2;split at he;case isFalse=>cases he
 rename_i hcond;obtain⟨hv,hfo,hoff,hne,hsz,hna,hat,hmk,hsub⟩:=hcond;subst hfo;subst hoff;subst hsz;obtain⟨y0,hsub⟩:=Option.isSome_iff_exists.1 hsub;split at he;case h_2=>cases he
 rename_i ys' hys;split at he;case h_2=>cases he
 rename_i y hy;split at he;case h_2=>cases he
 rename_i a' hsw;have:=Q.yc he;subst this;obtain⟨hee,hyy⟩:=Ty.ye hys;injection hee with hee;subst hee;have hyy:ys=ys':=hyy;subst hyy;have hii:i=i':=by
  have:=hc (eqI i i') (by simp);simpa[qi8]using this
 subst hii;obtain⟨hv2,hv3,hr⟩:=ho;have hr:qar w (C.free w own) et' e'' ys v (own sx):=q8.to0 hmk hr;obtain⟨g',n',cap',k1,k2,k3,rfl⟩:=hp.2 hv;obtain⟨g,n,cap,b1,b2,b3,j1,j2,j3,j4,j5,j6,j7,j8⟩:=h.holRow hs hrow;have e1:=k1.inj j4;injection e1 with e1 e2 e3;injection e1 with e1;injection e1 with e1 _ _;subst e1;subst e2;subst e3;have hnds:=h.nodup s;rw[j6]at hnds;have hb2n:b2.Nodup:=(zah.1 (zah.1 hnds).2.1).1;have hgb2:g'∈b2:=by
  obtain⟨_,_,_,_,e2,_⟩:=j3;rw[e2];simp[Value.ownBlock]
 have hb2s:∀b∈b2,b∈own s:=fun b hb=>by rw[j6];exact zab _ (zac _ hb)
 have hgs:g'∈own s:=hb2s _ hgb2;obtain⟨W,p,q,w1,w2,w3,w4⟩:=qho.put hT j3 hb2n (fun x hx e=>hx.2.2 s (e▸hgs)) k2 k3 hna hsub hat hy hr (fun hm=>hne (h.apart sx s g' hm hgs));rw[w1]at hx;refine qgC hx ?_;rw[hput];have hsl:s<σ.length:=hd ⟨s,false,a'⟩ (by simp);have hsx:sx<σ.length:=hd ⟨sx,true,.undef⟩ (by simp);let nbS:List Nat:=b1++((g'::(p++(own sx++q)))++b3);have hperm:nbS.Perm (own s++own sx):=by
  rw[j6,w3];refine List.perm_iff_count.2 fun x=>?_;simp only[nbS,List.count_append,List.count_cons];omega
 have hnn:(own s++own sx).Nodup:=zah.2 ⟨h.nodup s,h.nodup sx,fun b hb b' hb' e=>by subst e;exact hne (h.apart sx s b hb' hb)⟩;let nb:Nat→List Nat:=fun x=>if x=s then nbS else[]
 have nS:nb s=nbS:=by simp[nb]
 have nX:nb sx=[]:=by simp[nb,hne]
 have mem:∀u:U,u∈([⟨s,false,a'⟩,⟨sx,true,.undef⟩]:List U)→u=⟨s,false,a'⟩∨u=⟨sx,true,.undef⟩:=fun u hu=>by simpa using hu
 refine Exists.elim (h.multi (tm':=a.tmps) (w':=W) [⟨s,false,a'⟩,⟨sx,true,.undef⟩] nb (by simp[Ne.symm hne]) (fun u hu=>hd u hu) rfl (fun _ _=>rfl) (fun u hu=>?_) (w2.mono fun k hk=>⟨⟨s,false,a'⟩,by simp,by rw[hk];exact hgs⟩) (fun u hu=>?_) (fun u hu u' hu' b hb hb'=>?_) (fun X' hP hpn hw hF hF2 hver htm u hu=>?_) (fun u hu m hm=>?_)) fun own' hfin=>⟨own',hfin.1⟩
 ·rcases mem u hu with rfl|rfl
  ·refine .inr ⟨rfl,fun b hb hp=>⟨?_,?_⟩⟩
   ·show b∈nb s;rw[nS];exact hperm.mem_iff.2 (zac _ hb)
   ·exact w2.block b (h.mine s b hb).2 fun e=>j7 b hp (by rw[e];exact hgb2)
  ·exact .inl rfl
 ·rcases mem u hu with rfl|rfl
  ·simp only[nS];refine⟨fun b hb=>?_,hperm.nodup_iff.2 hnn⟩;rcases zaj.1 (hperm.mem_iff.1 hb)with hb|hb
   ·exact .inr ⟨⟨s,false,a'⟩,by simp,hb⟩
   ·exact .inr ⟨⟨sx,true,.undef⟩,by simp,hb⟩
  ·simp only[nX];exact⟨(fun b hb=>by cases hb),zaH⟩
 ·rcases mem u hu with rfl|rfl<;>rcases mem u' hu' with rfl|rfl
  ·rfl
  ·simp only[nX]at hb';cases hb'
  ·simp only[nX]at hb;cases hb
  ·rfl
 ·rcases mem u hu with rfl|rfl
  ·simp only[nS];refine(j8 X' (.own et e (qbh xs i y)) (g'::(p++(own sx++q))) a' ?_ hF ⟨_,rfl,?_⟩ hsw).1
   ·rw[hw];exact w2.mono fun k hk=>by rw[hk];exact hgb2
   ·rw[hw];exact qho.keep (fun b hb hlt=>⟨hF b hb,hlt,rfl⟩) (fun _ _ _=>rfl) w4
  ·trivial
 ·rcases mem u hu with rfl|rfl
  ·rw[qhp hsw]at hm;cases hm
  ·cases hm
theorem qsV (hE:qa2 E C.P) (h:qac C σ a.tmps w own) (hpt:qt7 (sit C σ a.tmps w own)) {t:Nat}{p1 x1:Op1}{p v:Value}(hp:qbB (sit C σ a.tmps w own) p1 p) (ho:qbB (sit C σ a.tmps w own) x1 v) (hdst:o.dst=none) {f:Eff}
  (he:(qtM E t p1 x1).run (qt σ)=some f) (hd:∀u∈f.upd,u.s<σ.length) (hck:∀b∈f.chk,b=true) (hx:(execOp a.eval o).run C.P w=((Instr.storeAt t p v).run C.P w).andThen fun _ w'=>.ok .skip w'):qcW C o a w (qk σ f.upd):=by
 have hput:(a.put o.dst undef).tmps=a.tmps:=by rw[hdst];rfl
 unfold qtM at he;split at he
 ·cases he
 rename_i u hu;have hT:=hE.ty t u hu;split at he
 ·rename_i s v0 off hb;obtain⟨n,h1,h2⟩:=Q.yb he;split at h2
  ·rename_i hcond;simp only[zad,List.isEmpty_iff,za8]at hcond;obtain⟨hc1,hc2⟩:=hcond;rw[Q.yd]at h2;split at h2
   ·rename_i hv;split at h2
    ·rename_i c hc;split at h2
     ·rename_i c' hput';have:=qI h2;subst this;obtain⟨b,hpb,rfl,_⟩:=qeQ h hpt hp hb hv;obtain⟨b',cs,bs',te,k1,k2,k3,k4⟩:=h.box hc;rw[hpb]at k1;obtain⟨rfl,_⟩:=qcU k1;obtain⟨b2,q1,q2,q3,q4⟩:=qhJ h ho h1 hc1;obtain⟨g1,bn,g2,g3,g4⟩:=qaD.put q1 k3 hput';have hrun:=qjg (w:=w) hT (v:=v) (off:=off) k2 q2 (by simp;omega) q3;rw[hrun]at hx;refine qgC hx ?_;rw[hput];have hnd:=h.nodup s;rw[k4]at hnd;have hsplice:(cs.toArray.toList.take off++v.cells.toList++cs.toArray.toList.drop (off+u.size)).toArray=(qaM cs off v.cells.toList).toArray:=by
       rw[qaM,q2]
      rw[hsplice];generalize hW:w.setRow b (qaM cs off v.cells.toList).toArray=W;have hkept:qbc (fun k=>k=b) w W:=by rw[←hW];exact qfA _ k2
      have hheap:W.heap[b]? =some (.cells (qaM cs off v.cells.toList).toArray te (0,0)):=by rw[←hW];exact setRow_heap w b _ _ te _ k2
      have hsl:s<σ.length:=hd ⟨s,true,.box c'⟩ (by simp);have hbs:b∈own s:=by rw[k4];exact zai
      have fin:∀cons:List Nat,n.2.2=cons.map (fun s=>⟨s,true,.undef⟩)→(∀s'∈cons,s'<σ.length∧s'≠s)→(∀x∈b2,∃s'∈cons,x∈own s')→b∉b2→(bs'++b2).Nodup→
        ∃own',qac C (qk σ (n.2.2++[⟨s,true,.box c'⟩])) a.tmps W own':=by
       intro cons e1 e2 e3 e4 e5;have hbn:b∉bn:=fun hbm=>by
        rcases g3 b hbm with hbm|hbm
        ·exact(zax.1 hnd).1 hbm
        ·exact e4 hbm
       have key:=h.mut hsl cons e2 (w':=W) (hkept.mono fun k hk=>.inl (by rw[hk];exact hbs)) (av:= .box c') (v:=a.tmps.getD s undef) (bs:=b::bn)
        (fun x hx=>by
         rcases zam.1 hx with rfl|hx
         ·exact .inr (.inl hbs)
         ·rcases g3 x hx with hx|hx
          ·exact .inr (.inl (by rw[k4];exact zae _ hx))
          ·exact .inr (.inr (e3 x hx)))
        (zax.2 ⟨hbn,g4 e5⟩)
        ⟨b,_,bn,te,hpb,hheap,g2.keep (fun x hx hlt=>⟨hx,zaE hlt hkept.size,hkept.block x hlt fun e=>hx.2.2 s (by rw[e];exact hbs)⟩) (fun x hx hlt=>hkept.block x hlt fun e=>hbn (by rw[←e];exact hx)),rfl⟩ rfl
       rw[qrc a.tmps (by rw[h.size];exact hsl),←e1]at key;exact key
      rcases q4 with⟨e1,e2⟩|⟨s',e1,e2⟩
      ·subst e2;exact fin [] (by rw[e1];rfl) (fun _ hx=>by cases hx) (fun _ hx=>by cases hx) (by simp) (by simpa using(zax.1 hnd).2)
      ·subst e2;have hne:s'≠s:=by
        intro e;rw[e1,e]at hc2;simp at hc2
       have hdis:∀x,x∈own s'→x∉own s:=fun x hx hx'=>hne (h.apart s' s x hx hx');refine fin [s'] (by rw[e1];rfl) (fun x hx=>?_) (fun x hx=>⟨s',by simp,hx⟩) (fun hbm=>hdis b hbm hbs) (zah.2 ⟨(zax.1 hnd).2,h.nodup s',fun x hx y hy e=>?_⟩)
       ·simp at hx;subst hx;exact⟨hd ⟨x,true,.undef⟩ (by rw[e1];simp),hne⟩
       ·subst e;exact hdis x hy (by rw[k4];exact zae _ hx)
     ·cases h2
    ·cases h2
   ·cases h2
  ·cases h2
 ·split at he
  ·rename_i s v0 fo sz i off hpa;rw[Q.yd]at he;split at he
   ·rename_i av fo' i' o1 t0 v1 hs;exact qvX h hT (hpa▸hp.unowned (by rw[hpa];rfl)) hs ho hdst he hd hck hx
   obtain⟨r,h1,h2⟩:=Q.yb he;split at h2
   ·cases h2
   rename_i hcond;have hns:s∉r.2:=by simpa using hcond
   obtain⟨fz,h3,h4⟩:=Q.yb h2;clear h2;rw[Q.yd]at h4;split at h4;case isFalse=>cases h4
   rename_i hv;split at h4;case h_2=>cases h4
   rename_i et e xs hown;split at h4;case isFalse=>cases h4
   rename_i hsz;obtain⟨hsz,hmk⟩:=hsz;subst hsz;split at h4;case h_2=>cases h4
   rename_i y hy;split at h4;case h_2=>cases h4
   rename_i a' hsw;have:=qI h4;subst this;obtain⟨own1,f1,_,f3,f4⟩:=qdg r.2 h h3;obtain⟨f5,f6⟩:=f3 s hns;obtain⟨_,hpp⟩:=hpa▸hp.unowned (by rw[hpa];rfl);obtain⟨g,n,cap,k1,k2,k3,rfl⟩:=hpp hv;have k1':qc6 (sit C (qk σ fz) a.tmps w own1) s fo (.slice (some ⟨g,0,none⟩) n cap):=by
    cases fo with
    |none=>exact k1
    |some o=>
     obtain⟨b,m1,m2⟩:=k1;exact⟨b,by show b∈own1 s;rw[f5];exact m1,m2⟩
   obtain⟨hsl,b1,b2,b3,q1,q2,q3,q4⟩:=f1.rowAt (by rw[f6];exact hown) k1';have hrv:=qc8 h ho h1;have hrc:Rep w (C.free w own1) u r.1 v.cells.toList:=hrv.1.keep fun b hb hs=>⟨f4 b hb,hs,rfl⟩;have hg:g∈b2:=by
    obtain⟨_,_,_,_,e2,_⟩:=q1;rw[e2];simp[Value.ownBlock]
   have hgs:g∈own1 s:=by rw[q2];exact zab _ (zac _ hg)
   have hnd2:b2.Nodup:=by
    have h0:=f1.nodup s;rw[q2]at h0;exact(zah.1 (zah.1 h0).2.1).1
   obtain⟨W,hrun,hkept,hrow'⟩:=qho.store hT q1 hnd2 (fun x hx e=>hx.2.2 s (by rw[e];exact hgs)) k2 k3 hmk hy hrc;rw[hrun]at hx;refine qgC hx ?_;rw[hput];have hkept2:qbc (fun k=>k∈b2) w W:=hkept.mono fun k hk=>by rw[hk];exact hg
   obtain⟨g1,g2⟩:=q4 W (.own et e (qbh xs i y)) b2 a' hkept2 ⟨_,rfl,hrow'⟩ (by rw[f6];exact hsw);rw[qbC];exact⟨own1,f1.mutK hsl q2 q3 hkept2 (by rw[q2];exact g1) g2⟩
  ·rename_i s v0 off n e i o2 hpa;obtain⟨r,h1,h2⟩:=Q.yb he;split at h2;case isFalse=>cases h2
   rename_i hcond;rw[List.isEmpty_iff]at hcond;rw[Q.yd]at h2;split at h2;case isFalse=>cases h2
   rename_i hv;split at h2;case h_2=>cases h2
   rename_i c hc;split at h2;case h_2=>cases h2
   rename_i xs hg;split at h2;case h_2=>cases h2
   rename_i y hy;split at h2;case h_2=>cases h2
   rename_i c' hput';have:=qI h2;subst this;obtain⟨i0,i1,b,hpb,rfl,_⟩:=qqe hpt (hpa▸hp.unowned (by rw[hpa];rfl)) hv;obtain⟨b',cs,bs',te,k1,k2,k3,k4⟩:=h.box hc;rw[hpb]at k1;obtain⟨rfl,_⟩:=qcU k1;have hrv:=qc8 h ho h1;rw[hcond]at hrv;have hrc:Rep w (C.free w own) u r.1 v.cells.toList:=hrv.1.keep fun b hb hs=>⟨qnm hb,hs,rfl⟩;obtain⟨g1,_,g3⟩:=k3.get hg;have hreg:=g3 rfl;have hregl:=hreg.length;obtain⟨x,m1,m2,m3⟩:=hreg.elem (i:=i.toNat) (by omega);rw[qeO m1]at hy;obtain⟨u1,u2⟩:=m2.upd hrc hy;have hml:=m2.length;have hvl:=hrc.length;have hnew:=hreg.setElem (i:=i.toNat) (by omega) u2;have hi:((i.toNat:Nat):Int)=i:=by omega
   rw[hi]at hnew;have hinner:List.take o2 (List.take e.size (List.drop (i.toNat*e.size) (List.take (Ty.arr n e).size (List.drop off cs))))++v.cells.toList++List.drop (o2+u.size) (List.take e.size (List.drop (i.toNat*e.size) (List.take (Ty.arr n e).size (List.drop off cs))))=qaM (List.take e.size (List.drop (i.toNat*e.size) (List.take (Ty.arr n e).size (List.drop off cs)))) o2 v.cells.toList:=by
    rw[qaM,hvl]
   rw[hinner,qmk (by omega) (by omega)]at hnew;obtain⟨p1',bn,p2,p3,p4⟩:=qaD.put (b2:=[]) (qaD.ofVal hnew) k3 hput';rw[qmk (p:=off) (n:=(Ty.arr n e).size) (q:=i.toNat*e.size+o2) (ds:=v.cells.toList) (by omega) (by omega)]at p2;have hrun:=qjg (w:=w) hT (v:=v) (off:=off+i.toNat*e.size+o2) k2 hvl (by simp;omega) (fun z hz=>hrc.oneCell z hz);rw[hrun]at hx;refine qgC hx ?_;rw[hput];have hnd:=h.nodup s;rw[k4]at hnd;have hsplice:(cs.toArray.toList.take (off+i.toNat*e.size+o2)++v.cells.toList++cs.toArray.toList.drop (off+i.toNat*e.size+o2+u.size)).toArray=(qaM cs (off+(i.toNat*e.size+o2)) v.cells.toList).toArray:=by
    rw[qaM,hvl,Nat.add_assoc]
   rw[hsplice];generalize hW:w.setRow b (qaM cs (off+(i.toNat*e.size+o2)) v.cells.toList).toArray=W;have hkept:qbc (fun k=>k=b) w W:=by rw[←hW];exact qfA _ k2
   have hheap:W.heap[b]? =some (.cells (qaM cs (off+(i.toNat*e.size+o2)) v.cells.toList).toArray te (0,0)):=by rw[←hW];exact setRow_heap w b _ _ te _ k2
   have hsl:s<σ.length:=hd ⟨s,true,.box c'⟩ (by simp);have hbs:b∈own s:=by rw[k4];exact zai
   have hbn:b∉bn:=fun hbm=>by
    rcases p3 b hbm with hbm|hbm
    ·exact(zax.1 hnd).1 hbm
    ·cases hbm
   have key:=h.mut hsl [] (fun _ hx=>by cases hx) (w':=W) (hkept.mono fun k hk=>.inl (by rw[hk];exact hbs)) (av:= .box c') (v:=a.tmps.getD s undef) (bs:=b::bn)
    (fun x hx=>by
     rcases zam.1 hx with rfl|hx
     ·exact .inr (.inl hbs)
     ·rcases p3 x hx with hx|hx
      ·exact .inr (.inl (by rw[k4];exact zae _ hx))
      ·cases hx)
    (zax.2 ⟨hbn,p4 (by simpa using(zax.1 hnd).2)⟩)
    ⟨b,_,bn,te,hpb,hheap,p2.keep (fun x hx hlt=>⟨hx,zaE hlt hkept.size,hkept.block x hlt fun e=>hx.2.2 s (by rw[e];exact hbs)⟩) (fun x hx hlt=>hkept.block x hlt fun e=>hbn (by rw[←e];exact hx)),rfl⟩ rfl
   rw[qrc a.tmps (by rw[h.size];exact hsl)]at key;exact key
  ·cases he
end
end Go.Vi
namespace Go.Vi
open Go.RowKit
section
variable {C:Ctx}{E:Env}{σ:St}{a:Act}{w w':World}{own:Nat→List Nat}{o:Oper} [Tabbed E C]
theorem qac.newBox (h:qac C σ a.tmps w own) {d:Nat}(hd:d<σ.length) (cons:List Nat) (hcons:∀s∈cons,s<σ.length∧s≠d) {c:BC}{cs:List Value}{bs:List Nat}{te:Nat}(hc:qaD w (C.free w own) c cs bs)
  (hb:∀b∈bs,∃s∈cons,b∈own s) (hnd:bs.Nodup):∃own',qac C (qk σ (cons.map (fun s=>⟨s,true,.undef⟩)++[⟨d,true,.box c⟩])) (a.tmps.setIfInBounds d (ptr w.heap.size 0)) (w.alloc (.cells cs.toArray te)) own':=by
 have hlt:∀b∈bs,b<w.heap.size:=fun b hbm=>by
  obtain⟨s,_,hs⟩:=hb b hbm;exact(h.mine s b hs).2
 have hold:∀k,k<w.heap.size→(w.alloc (.cells cs.toArray te)).heap[k]? =w.heap[k]? :=fun k hk=>qdc w _ _ hk;refine h.mut hd cons hcons ((qbc.alloc (fun _=>False) w (.cells cs.toArray te)).mono fun _ h=>h.elim) (bs:=w.heap.size::bs) (fun b hbm=>?_) (zax.2 ⟨fun hm=>by have:=hlt _ hm;omega,hnd⟩) ?_ rfl
 ·rcases zam.1 hbm with rfl|hbm
  ·exact .inl ⟨zay _,by simp⟩
  ·exact .inr (.inr (hb b hbm))
 ·exact⟨w.heap.size,cs,bs,te,rfl,heap_alloc_new w _,hc.keep (fun b hb hlt=>⟨hb,by simp;omega,hold b hlt⟩) (fun b _ hlt=>hold b hlt),rfl⟩
theorem qv0 (h:qac C σ a.tmps w own) {t:Nat}{x1:Op1}{v:Value}(ho:qbB (sit C σ a.tmps w own) x1 v) {f:Eff}(he:(boxE E o t x1).run (qt σ)=some f) (hd:∀u∈f.upd,u.s<σ.length)
  (hx:(execOp a.eval o).run C.P w=.ok (.value (ptr w.heap.size 0)) (w.alloc (.cells v.cells t))):qcW C o a w (qk σ f.upd):=by
 unfold boxE at he;split at he
 ·rename_i u d hu hdst;obtain⟨c,h1,h2⟩:=Q.yb he;split at h2
  ·rename_i hcond;simp only[zad,List.isEmpty_iff,za8]at hcond;obtain⟨hc1,hc2⟩:=hcond;have:=qI h2;subst this;obtain⟨b2,q1,q2,q3,q4⟩:=qhJ h ho h1 hc1;refine qz hx ?_;rw[qd0 a hdst];have hv:v.cells.toList.toArray=v.cells:=by simp
   rcases q4 with⟨e1,e2⟩|⟨s',e1,e2⟩
   ·subst e2;have:=h.newBox (d:=d) (hd ⟨d,true,.box c.1⟩ (by simp)) [] (fun _ hs=>by cases hs) (te:=t) q1 (fun _ hb=>by cases hb) zaH;rw[hv]at this;rw[e1];exact this
   ·subst e2;have hne:s'≠d:=by
     intro e;rw[e1,e]at hc2;simp at hc2
    have:=h.newBox (d:=d) (hd ⟨d,true,.box c.1⟩ (by simp)) [s'] (fun s hs=>by
     simp at hs;subst hs;exact⟨hd ⟨s,true,.undef⟩ (by rw[e1];simp),hne⟩) (te:=t) q1 (fun b hb=>⟨s',by simp,hb⟩) (h.nodup s')
    rw[hv]at this;rw[e1];exact this
  ·cases h2
 ·cases he
theorem qsB (hE:qa2 E C.P) (h:qac C σ a.tmps w own) {t:Nat}{c:BC}(hc:E.zero t=some c) (hd:∀u∈qbp o (.box c),u.s<σ.length) {z:Value}{i:TypeInfo}(hi:C.P.info? t=some i) (hz:i.zero=some z)
  (hx:(execOp a.eval o).run C.P w=.ok (.value (ptr w.heap.size 0)) (w.alloc (.cells z.cells t))):qcW C o a w (qk σ (qbp o (.box c))):=by
 obtain⟨i',z',h1,h2,h3⟩:=hE.zero t c hc;rw[hi]at h1;injection h1 with h1;subst h1;rw[hz]at h2;injection h2 with h2;subst h2;refine qz hx ?_;unfold qbp at *
 cases hdst:o.dst with
 |none=>exact⟨own,h.world (qbc.alloc _ _ _)⟩
 |some d=>
  rw[hdst]at hd;have:=h.newBox (d:=d) (hd ⟨d,true,.box c⟩ (by simp)) [] (fun _ hs=>by cases hs) (te:=t) (h3 w _) (fun _ hb=>by cases hb) zaH;simpa[Act.put]using this
theorem quw (h:qac C σ a.tmps w own) (hpt:qt7 (sit C σ a.tmps w own)) {n:Nat}{x1:Op1}{p:Value}(ho:qbB (sit C σ a.tmps w own) x1 p) (hw:∀m∈x1.a.mentions,m.2≤(qt σ m.1).1) {f:Eff}(he:(qvS o n x1).run (qt σ)=some f) (hd:∀u∈f.upd,u.s<σ.length)
  (hx:∀ad,p=.pointer (some ad)→(execOp a.eval o).run C.P w=.ok (.value (.pointer (some (ad.add n)))) w):qcW C o a w (qk σ f.upd):=by
 unfold qvS at he;split at he
 ·rename_i s v0 b0 hb;rw[Q.yd]at he;split at he
  ·rename_i hv;have:=qI he;subst this;obtain⟨b,h1,rfl,h2⟩:=qeQ h hpt ho hb hv;obtain⟨q1,q2⟩:=qq5 (off:=b0+n) (v:= .pointer (some ((⟨b,b0,none⟩:Addr).add n))) h hv h1 (by rw[qL];rfl) h2;exact qz (hx _ rfl) (h.dst0 hd q1 q2)
  ·cases he
 ·split at he
  ·rename_i s v0 fo sz i b hxa;rw[Q.yd]at he;split at he
   ·rename_i hv;have:=qI he;subst this;have hp:=ho.unowned (by rw[hxa];rfl);rw[hxa]at hp hw;obtain⟨g,k,cap,k1,k2,k3,rfl⟩:=hp.2 hv;refine qz (hx _ rfl) (h.dst0 hd ⟨rfl,fun _=>⟨g,k,cap,k1,k2,k3,?_⟩⟩ hw);rw[qL,Nat.add_assoc];rfl
   ·cases he
  ·rename_i t x b hxa;have:=qI he;subst this;have hp:=ho.unowned (by rw[hxa];rfl);rw[hxa]at hp;obtain⟨_,ad,cs,rfl,g1⟩:=hp;refine qz (hx _ rfl) (h.dst0 hd ⟨rfl,ad,cs,?_,g1⟩ (fun m hm=>by cases hm));rw[qbj]
  ·rename_i s v0 b k e i o2 hxa;rw[Q.yd]at he;split at he;case isFalse=>cases he
   rename_i hv;have:=qI he;subst this;obtain⟨i0,i1,bb,h1,rfl,h2⟩:=qqe hpt (hxa▸ho.unowned (by rw[hxa];rfl)) hv;obtain⟨q1,q2⟩:=qti (C:=C) (w:=w) (own:=own) (off:=b) (o2:=o2+n) (v:= .pointer (some ((⟨bb,b+i.toNat*e.size+o2,none⟩:Addr).add n))) hv i0 i1 h1 (by rw[qL,Nat.add_assoc];rfl) h2;exact qz (hx _ rfl) (h.dst0 hd q1 q2)
  ·cases he
end
end Go.Vi
namespace Go.Vi
open Go.RowKit
theorem qdS (k:IntKind) (n:Int):k.has (k.wrap n):=by
 cases k<;>simp[IntKind.has,IntKind.wrap,IntKind.bits,IntKind.signed,IntKind.min,IntKind.max]<;>omega
theorem qnt (k:IntKind):k.min≤0:=by cases k<;>decide
theorem qnk (k:IntKind):0≤k.max:=by cases k<;>decide
theorem qvd {k:IntKind}{x y:Int}(h:k.has x) (hy:y≠0):k.has (x.tmod y):=by
 have h1:=qnt k;have h2:=qnk k;obtain⟨h3,h4⟩:=h;by_cases hx:0≤x
 ·have e1:0≤x.tmod y:=Int.tmod_nonneg y hx;have e2:x.tmod y≤x:=by
   have:=Int.natAbs_tmod x y;have h5:(x.natAbs%y.natAbs)≤x.natAbs:=Nat.mod_le _ _;omega
  exact⟨by omega,by omega⟩
 ·have h5:(x.natAbs%y.natAbs)≤x.natAbs:=Nat.mod_le _ _;have:=Int.natAbs_tmod x y;have e1:x.tmod y≤0:=by
   have:=Int.tmod_nonneg y (show 0≤ -x by omega);rw[Int.neg_tmod]at this;omega
  exact⟨by omega,by omega⟩
theorem quk {k:IntKind}{x:Int}(h:k.has x) (n:Nat):k.has (x.fdiv (2^n)):=by
 have h1:=qnt k;have h2:=qnk k;obtain⟨h3,h4⟩:=h;have hp:(0:Int)<2^n:=by exact Int.pow_pos (by decide)
 have hp1:(1:Int)≤2^n:=hp;have e:x.fdiv (2^n)=x/2^n:=by rw[Int.fdiv_eq_ediv_of_nonneg _ (Int.le_of_lt hp)]
 rw[e];by_cases hx:0≤x
 ·have e1:0≤x/2^n:=Int.ediv_nonneg hx (Int.le_of_lt hp);have e2:x/2^n≤x:=Int.ediv_le_self _ hx;exact⟨by omega,by omega⟩
 ·have e1:x/2^n<0:=Int.ediv_neg_of_neg_of_pos (by omega) hp;have e2:x≤x/2^n:=by
   rw[Int.le_ediv_iff_mul_le hp];have:x*2^n≤x*1:=Int.mul_le_mul_of_nonpos_left (by omega) hp1;omega
  exact⟨by omega,by omega⟩
def qcT (c:List Bool):Prop:=∀b∈c,b=true
section
variable {P:Program}{w:World}{F:Nat→Prop}
theorem qu4 {op:BinOp}{k k':IntKind}{x y:Int}(hx:k.has x) (hy:k'.has y) (hk:(qlW op||decide (k=k'))=true) (hc:qcT (qp7 op k x y).2) (t:Nat):
  ∃v,(binOp op t (.int k x) (.int k' y)).run P w=.ok v w∧∃u z,(qp7 op k x y).1=.val u z∧qau w F u z v:=by
 by_cases hs:qlW op=true
 ·cases op<;>simp[qlW]at hs
  ·have h0:0≤y:=by simpa[qp7,qcT,qbQ]using hc
   exact⟨.int k (qkK k x y),by simp[binOp,Op.shift,show ¬y<0 by omega,qoC],.int k,_,rfl,qau.ofInt _ _ (by rw[qoC];exact qdS _ _)⟩
  ·have h0:0≤y:=by simpa[qp7,qcT,qbQ]using hc
   exact⟨.int k (qgY k x y),by simp[binOp,Op.shift,show ¬y<0 by omega,qlw],.int k,_,rfl,qau.ofInt _ _ (by rw[qlw];exact quk hx _)⟩
 ·have hkk:k=k':=by simpa[hs]using hk
  subst hkk;cases op<;>simp[qlW]at hs
  ·exact⟨.int k (qQ k x y),by simp[binOp,Op.intArith,qjJ],.int k,_,rfl,qau.ofInt _ _ (by rw[qjJ];exact qdS _ _)⟩
  ·exact⟨.int k (qR k x y),by simp[binOp,Op.intArith,qiq],.int k,_,rfl,qau.ofInt _ _ (by rw[qiq];exact qdS _ _)⟩
  ·exact⟨.int k (qj4 k x y),by simp[binOp,Op.intArith,qer],.int k,_,rfl,qau.ofInt _ _ (by rw[qer];exact qdS _ _)⟩
  ·have h0:y≠0:=by simpa[qp7,qcT,qmv]using hc
   exact⟨.int k (qpI k x y),by simp[binOp,Op.intDiv,h0,qj3],.int k,_,rfl,qau.ofInt _ _ (by rw[qj3];exact qdS _ _)⟩
  ·have h0:y≠0:=by simpa[qp7,qcT,qmv]using hc
   exact⟨.int k (irem x y),by simp[binOp,Op.intDiv,h0,qqN],.int k,_,rfl,qau.ofInt _ _ (by rw[qqN];exact qvd hx h0)⟩
  ·exact⟨.int k (qvo k x y),by simp[binOp,Op.intBits,qom],.int k,_,rfl,qau.ofInt _ _ (by rw[qom];exact qdS _ _)⟩
  ·exact⟨.int k (bor k x y),by simp[binOp,Op.intBits,qtH],.int k,_,rfl,qau.ofInt _ _ (by rw[qtH];exact qdS _ _)⟩
  ·exact⟨.int k (qiw k x y),by simp[binOp,Op.intBits,qll],.int k,_,rfl,qau.ofInt _ _ (by rw[qll];exact qdS _ _)⟩
  ·exact⟨.int k (qoA k x y),by simp[binOp,Op.intBits,qlT],.int k,_,rfl,qau.ofInt _ _ (by rw[qlT];exact qdS _ _)⟩
  ·exact⟨.bool (eqI x y),by simp[binOp,Op.intCmp,qi8],.bool,_,rfl,qau.ofBool _ _ _⟩
  ·exact⟨.bool (neI x y),by simp[binOp,Op.intCmp,qmv],.bool,_,rfl,qau.ofBool _ _ _⟩
  ·exact⟨.bool (ltI x y),by simp[binOp,Op.intCmp,qbz],.bool,_,rfl,qau.ofBool _ _ _⟩
  ·exact⟨.bool (leI x y),by simp[binOp,Op.intCmp,qbQ],.bool,_,rfl,qau.ofBool _ _ _⟩
  ·exact⟨.bool (ltI y x),by simp[binOp,Op.intCmp,qbz],.bool,_,rfl,qau.ofBool _ _ _⟩
  ·exact⟨.bool (leI y x),by simp[binOp,Op.intCmp,qbQ],.bool,_,rfl,qau.ofBool _ _ _⟩
theorem quQ {op:BinOp}{x y:List UInt8}(hx:x.length≤maxLen) (hy:y.length≤maxLen) {r:AV×List Bool}(hr:qvD op x y=some r) (hc:qcT r.2) (t:Nat):
  ∃v,(binOp op t (.string ⟨x.toArray⟩) (.string ⟨y.toArray⟩)).run P w=.ok v w∧∃u z,r.1=.val u z∧qau w F u z v:=by
 cases op<;>simp only[qvD]at hr<;>cases hr
 ·have h0:x.length+y.length≤140737488355328:=by
   have:=hc _ (zat.2 rfl);simp[qhZ,qp]at this;omega
  refine⟨.string ⟨(qeT x y).toArray⟩,?_,.str,_,rfl,qau.ofStr _ _ (by simp[qbi,maxLen];omega)⟩;rw[qbi];rw[show binOp .add t (.string ⟨x.toArray⟩) (.string ⟨y.toArray⟩)=Op.stringOp .add ⟨x.toArray⟩ ⟨y.toArray⟩from by simp[binOp]];rw[run_string_add_sum w _ _ (by show x.toArray.size+y.toArray.size≤_;simp;omega)];rw[ByteArray.mk_append_mk]
 all_goals
  refine⟨_,?_,.bool,_,rfl,qau.ofBool _ _ _⟩
  simp[binOp,Op.stringOp,qp4,qpi]
end
end Go.Vi
namespace Go.Vi
open Go.RowKit
section
variable {C:Ctx}{E:Env}{σ:St}{tm:Array Value}{a:Act}{w w':World}{own:Nat→List Nat}{o:Oper} [Tabbed E C]
theorem qau.flat {F F':Nat→Prop}{t:Ty}{x:t.den}{v:Value}(hf:t.flat=true) (h:qau w F t x v):qau w' F' t x v:=⟨Rep.flat hf h.1,h.2⟩
theorem qhO (h:qac C σ a.tmps w own) {t:Ty}{x:t.den}{v:Value}{ow:List Nat}{us:List U}(hr:(execOp a.eval o).run C.P w=.ok (.value v) w)
  (hus:(if t.flat then Q.ret []else qcb ow).run (qt σ)=some us) (hd:∀u∈us++qbp o (.val t x),u.s<σ.length) (hv:qau w (FW (sit C σ a.tmps w own) ow) t x v):
  qcW C o a w (qk σ (us++qbp o (.val t x))):=by
 by_cases hf:t.flat=true
 ·rw[if_pos hf]at hus;have:=Q.yc hus;subst this;exact qaZ h hr hd (hv.flat hf)
 ·rw[if_neg hf]at hus;obtain⟨own',k1,k2,k3,k4⟩:=qdg ow h hus;rw[qbC];exact qaZ k1 hr (fun u hu=>by rw[qO];exact hd u (zab _ hu)) (hv.mono fun b hb _=>k4 b hb)
variable {p:qg3}
theorem qaz (h:qac C σ a.tmps w own) (hp:qbV (sit C σ a.tmps w own) p) {tid:Nat}{x:Operand}{o1:Op1}(ho:(opd E p tid x).run (qt σ)=some o1):qbB (sit C σ a.tmps w own) o1 (a.eval x):=
 opd_ok (ds:=a.defers) h hp ho
def plainV (v:Value):Prop:=(∃k n,v=.int k n)∨(∃s,v=.string s)∨∃b,v=.bool b
theorem qik {op:BinOp}{t:Nat}{x y:Operand}{a b:Value}{P:Program}(h1:plainV a):(eqGuard op t x y a b).run P w=.ok () w:=by
 rcases h1 with⟨_,_,rfl⟩|⟨_,rfl⟩|⟨_,rfl⟩<;>cases op<;>simp[eqGuard]
theorem qfK (d:Nat) {P:Program}{t e:Nat}(a:Option Addr) (l c:Nat) (h:P.underlying t=some (.slice e)):(Op.equalIn (d+1) t (.slice a l c) (.slice none 0 0)).run P w=.ok a.isNone w:=by
 cases a<;>simp[Op.equalIn,run_underlying h]
theorem qov {P:Program}{t e:Nat}(a:Option Addr) (l c:Nat) (h:P.underlying t=some (.slice e)) (op:BinOp) (hop:op=.eql∨op=.neq):
  (binOp op t (.slice a l c) (.slice none 0 0)).run P w=.ok (.bool (if qgh op then a.isNone else !a.isNone)) w:=by
 rcases hop with rfl|rfl
 ·simp only[binOp];simp[Op.equal,Op.maxDepth,qfK 9999 a l c h,qgh]
 ·simp only[binOp];simp[Op.equal,Op.maxDepth,qfK 9999 a l c h,qgh]
theorem qm5 (hE:qa2 E C.P) (h:qac C σ a.tmps w own) (hp:qbV (sit C σ a.tmps w own) p) {op:BinOp}{t:Nat}{x y:Operand}{b:TypeId}(hop:o.op=.binOp op t x y b) {f:Eff}(hn:qsp op y=true) {e0:Ty}(hty:E.ty t=some (.slice e0))
  (he:(((opd E p t x).bind fun x=>(match x.a with
   |.nz _ xs=>okE (qbp o (.val .bool (bif qgh op then eqI (qs xs) 0 else !(eqI (qs xs) 0))))
   |_=>(qmM x).bind fun x=>(match x with
    |⟨.slice _,xs,_⟩=>okE (qbp o (.amb (qgh op) (eqI (qs xs) 0)))
    |_=>.fail))).run (qt σ))=some f) (hd:∀u∈f.upd,u.s<σ.length):qcW C o a w (qk σ f.upd):=by
 obtain⟨x1,hx,he⟩:=Q.yb he;have ho1:=qaz h hp hx;have hu:=(hE.elem t e0 hty).under;obtain⟨hyo,hopc⟩:y=.const (.slice none 0 0)∧(op=.eql∨op=.neq):=by
  unfold qsp at hn;split at hn
  ·exact⟨rfl,.inl rfl⟩
  ·exact⟨rfl,.inr rfl⟩
  ·cases hn
 have hya:a.eval y=.slice none 0 0:=by rw[hyo];rfl
 have key:∀ {F:Nat→Prop}{e:Ty}{xs:List e.den},qau w F (.slice e) xs (a.eval x)→∃ad l c,a.eval x=.slice ad l c∧(ad=none→xs=[])∧(execOp a.eval o).run C.P w=.ok (.value (.bool (if qgh op then ad.isNone else !ad.isNone))) w:=by
  intro F e xs rx;obtain⟨ad,l,c,hv,hl⟩:∃ad l c,a.eval x=.slice ad l c∧(ad=none→xs=[]):=by
   rcases qau.slice rx with⟨k4,k5⟩|⟨ad,cap,k4,k5,k6,k7⟩
   ·exact⟨none,0,0,k4,fun _=>k5⟩
   ·exact⟨some ad,_,_,k4,fun h=>by cases h⟩
  have hg:(eqGuard op t x y (a.eval x) (a.eval y)).run C.P w=.ok () w:=by
   rw[hv,hya];rcases hopc with rfl|rfl<;>simp[eqGuard]
  refine⟨ad,l,c,hv,hl,?_⟩;unfold execOp;rw[hop];simp only[Sem.run_bind,hg,Result.andThen_ok];rw[hv,hya,qov ad l c hu op hopc];rfl
 split at he
 ·rename_i e xs hxa;have:=qI he;subst this;have hnz:qax (sit C σ a.tmps w own) (.nz e xs) (a.eval x) []:=by
   have:=ho1.unowned (by rw[hxa];rfl);rwa [hxa]at this
  obtain⟨_,rx,hnil⟩:=hnz;obtain⟨ad,l,c,hv,hl,hr⟩:=key rx;refine qz hr (h.dst0 hd ?_ (fun m hm=>by cases hm));have e1:ad.isNone=eqI (qs xs) 0:=by
   rw[qi8,qp];cases xs with
   |nil=>
    have:=hnil rfl;rw[hv]at this;injection this with h1;subst h1;rfl
   |cons x0 xs0=>
    cases ad with
    |none=>have:=hl rfl;cases this
    |some ad=>
     symm;simp only[Option.isNone_some,beq_eq_false_iff_ne,zba];omega
  have e2:(if qgh op=true then ad.isNone else !ad.isNone)=(bif qgh op then eqI (qs xs) 0 else !(eqI (qs xs) 0)):=by
   rw[e1];cases qgh op<;>rfl
  rw[e2];exact⟨rfl,qau.ofBool _ _ _⟩
 ·obtain⟨xr,hxr,he⟩:=Q.yb he;have rx:=qd2 h ho1 hxr;split at he;case h_2=>cases he
  rename_i e xs ow;have:=qI he;subst this;obtain⟨ad,l,c,hv,hl,hr⟩:=key rx;refine qz hr (h.dst0 hd ⟨rfl,_,rfl,fun hb=>?_⟩ (fun m hm=>by cases hm));have hnone:ad=none:=by
   rcases hopc with rfl|rfl
   ·simpa[qgh]using hb
   ·simpa[qgh]using hb
  have hxs:xs=[]:=hl hnone;rw[hxs,qi8,qp];rfl
theorem qol {P:Program}{w:World}{t:TypeId}{ms:Array (String×TypeId)}(hu:P.underlying t=some (.interface ms)) {b:Bool}{v:Value}(h:(b=true∧v=.nilIface)∨(b=false∧∃t x,v=.iface t x)):(Op.equal t v .nilIface).run P w=.ok b w:=by
 have key:∀d,(Op.equalIn (d+1) t v .nilIface).run P w=.ok b w:=fun d=>by
  rcases h with⟨rfl,rfl⟩|⟨rfl,tt,x,rfl⟩<;>simp[Op.equalIn,run_underlying hu]
 exact key 9999
theorem qmU (hE:qa2 E C.P) (h:qac C σ a.tmps w own) (hp:qbV (sit C σ a.tmps w own) p) {op:BinOp}{t:Nat}{x y:Operand}{b:TypeId}(hop:o.op=.binOp op t x y b) {f:Eff}(hn:qqq op y=true) (hty:E.ty t=some .err)
  (he:(((opd E p t x).bind fun x=>(qmM x).bind fun x=>(match x with
   |⟨.err,b,_⟩=>okE (qbp o (.val .bool (bif qgh op then b else !b)))
   |_=>.fail)).run (qt σ))=some f) (hd:∀u∈f.upd,u.s<σ.length):qcW C o a w (qk σ f.upd):=by
 obtain⟨x1,hx,he⟩:=Q.yb he;obtain⟨xr,hxr,he⟩:=Q.yb he;have rx:=qd2 h (qaz h hp hx) hxr;split at he;case h_2=>cases he
 rename_i bb ow;have:=qI he;subst this;obtain⟨ms,hu⟩:=hE.err t hty;obtain⟨hyo,hopc⟩:y=.const .nilIface∧(op=.eql∨op=.neq):=by
  unfold qqq at hn;split at hn
  ·exact⟨rfl,.inl rfl⟩
  ·exact⟨rfl,.inr rfl⟩
  ·cases hn
 have hya:a.eval y=.nilIface:=by rw[hyo];rfl
 have hv:=qau.err rx;have hg:(eqGuard op t x y (a.eval x) (a.eval y)).run C.P w=.ok () w:=by
  rw[hya,hyo];rcases hv with⟨_,hv⟩|⟨_,tt,xx,hv⟩<;>rw[hv]<;>rcases hopc with rfl|rfl<;>simp[eqGuard]
 have hq:=qol (w:=w) hu hv;refine qz (v:= .bool (bif qgh op then bb else !bb)) ?_ (h.dst0 hd ⟨rfl,qau.ofBool _ _ _⟩ (fun m hm=>by cases hm));unfold execOp;rw[hop];simp only[Sem.run_bind,hg,Result.andThen_ok];rw[hya];rcases hv with⟨_,hv⟩|⟨_,tt,xx,hv⟩<;>rw[hv]at hq⊢ <;>rcases hopc with rfl|rfl<;>simp[binOp,hq,qgh]
theorem qn5 {P:Program}{w:World}{t u:TypeId}(hu:P.underlying t=some (.pointer u)) (q:Option Addr):(Op.equal t (.pointer q) (.pointer none)).run P w=.ok q.isNone w:=by
 have key:∀d,(Op.equalIn (d+1) t (.pointer q) (.pointer none)).run P w=.ok q.isNone w:=fun d=>by
  cases q<;>simp[Op.equalIn,run_underlying hu]
 exact key 9999
theorem qm1 (hE:qa2 E C.P) (h:qac C σ a.tmps w own) (hp:qbV (sit C σ a.tmps w own) p) {op:BinOp}{t:Nat}{x y:Operand}{b:TypeId}(hop:o.op=.binOp op t x y b) {f:Eff}(hn:qqb op y=true) {e0:Ty}(hty:E.ty t=some (.opt e0))
  (he:(((opd E p t x).bind fun x=>(qmM x).bind fun x=>(match x with
   |⟨.opt _,z,_⟩=>okE (qbp o (.val .bool (bif qgh op then !(qx z)else qx z)))
   |_=>.fail)).run (qt σ))=some f) (hd:∀u∈f.upd,u.s<σ.length):qcW C o a w (qk σ f.upd):=by
 obtain⟨x1,hx,he⟩:=Q.yb he;obtain⟨xr,hxr,he⟩:=Q.yb he;have rx:=qd2 h (qaz h hp hx) hxr;split at he;case h_2=>cases he
 rename_i ee z ow;have:=qI he;subst this;obtain⟨ms,hu⟩:=hE.opt t e0 hty;obtain⟨hyo,hopc⟩:y=.const (.pointer none)∧(op=.eql∨op=.neq):=by
  unfold qqb at hn;split at hn
  ·exact⟨rfl,.inl rfl⟩
  ·exact⟨rfl,.inr rfl⟩
  ·cases hn
 have hya:a.eval y=.pointer none:=by rw[hyo];rfl
 obtain⟨q,hv,hq⟩:∃q,a.eval x=.pointer q∧qx z=q.isSome:=by
  rw[qgL];rcases qau.opt rx with⟨k1,k2⟩|⟨y2,ad,cs,k1,k2,_⟩
  ·exact⟨none,k2,by have k1:z=none:=k1;rw[k1];rfl⟩
  ·exact⟨some ad,k2,by have k1:z=some y2:=k1;rw[k1];rfl⟩
 have hg:(eqGuard op t x y (a.eval x) (a.eval y)).run C.P w=.ok () w:=by
  rw[hya,hyo,hv];rcases hopc with rfl|rfl<;>simp[eqGuard]
 have hqq:=qn5 (w:=w) hu q;refine qz (v:= .bool (bif qgh op then !(qx z)else qx z)) ?_ (h.dst0 hd ⟨rfl,qau.ofBool _ _ _⟩ (fun m hm=>by cases hm));unfold execOp;rw[hop];simp only[Sem.run_bind,hg,Result.andThen_ok];rw[hya,hv,hq];rcases hopc with rfl|rfl<;>cases q<;>simp[binOp,hqq,qgh]
theorem qrD (hE:qa2 E C.P) (h:qac C σ a.tmps w own) (hp:qbV (sit C σ a.tmps w own) p) {op:BinOp}{t:Nat}{x y:Operand}{b:TypeId}(hop:o.op=.binOp op t x y b) {f:Eff}
  (he:(qec E p o).run (qt σ)=some f) (hd:∀u∈f.upd,u.s<σ.length) (hc:qcT f.chk):qcW C o a w (qk σ f.upd):=by
 unfold qec at he;rw[hop]at he;simp only at he;split at he
 ·rename_i hn;simp only[zad]at hn;obtain⟨e0,hty⟩:∃e0,E.ty t=some (.slice e0):=by
   have:=hn.2;unfold qpl at this;split at this
   ·exact⟨_,by assumption⟩
   ·cases this
  exact qm5 hE h hp hop hn.1 hty he hd
 split at he
 ·rename_i hn;simp only[zad]at hn;have hty:E.ty t=some .err:=by
   have:=hn.2;unfold qtm at this;split at this
   ·assumption
   ·cases this
  exact qmU hE h hp hop hn.1 hty he hd
 split at he
 ·rename_i hn;simp only[zad]at hn;obtain⟨e0,hty⟩:∃e0,E.ty t=some (.opt e0):=by
   have:=hn.2;unfold qsH at this;split at this
   ·exact⟨_,by assumption⟩
   ·cases this
  exact qm1 hE h hp hop hn.1 hty he hd
 obtain⟨x1,hx,he⟩:=Q.yb he;obtain⟨y1,hy,he⟩:=Q.yb he;obtain⟨xr,hxr,he⟩:=Q.yb he;obtain⟨yr,hyr,he⟩:=Q.yb he;have rx:=qd2 h (qaz h hp hx) hxr;have ry:=qd2 h (qaz h hp hy) hyr;have key:∀(r:AV×List Bool),binE E op t xr yr=some r→qcT r.2→∃v,(binOp op t (a.eval x) (a.eval y)).run C.P w=.ok v w∧(eqGuard op t x y (a.eval x) (a.eval y)).run C.P w=.ok () w∧∃u z,r.1=.val u z∧qau w (C.free w own) u z v:=by
  intro r hr hcr;unfold binE at hr;split at hr
  ·rename_i k m _ k' n _;split at hr
   ·rename_i hk;injection hr with hr;subst hr;obtain⟨e1,g1⟩:=qau.int rx;obtain⟨e2,g2⟩:=qau.int ry;rw[e1,e2];obtain⟨v,h1,h2⟩:=qu4 (P:=C.P) (w:=w) (F:=C.free w own) g1 g2 (by simpa using hk) hcr t;exact⟨v,h1,qik (.inl ⟨_,_,rfl⟩),h2⟩
   ·cases hr
  ·obtain⟨e1,g1⟩:=qau.str rx;obtain⟨e2,g2⟩:=qau.str ry;rw[e1,e2];obtain⟨v,h1,h2⟩:=quQ (P:=C.P) (w:=w) (F:=C.free w own) g1 g2 hr hcr t;exact⟨v,h1,qik (.inr (.inl ⟨_,rfl⟩)),h2⟩
  ·split at hr
   ·rename_i hty;have hu:=hE.bool t hty;have e1:=qau.bool rx;have e2:=qau.bool ry;rw[e1,e2];split at hr
    ·injection hr with hr;subst hr;exact⟨_,run_eql_bool w t _ _ hu,qik (.inr (.inr ⟨_,rfl⟩)),.bool,_,rfl,by rw[qn0];exact qau.ofBool _ _ _⟩
    ·injection hr with hr;subst hr;exact⟨_,run_neq_bool w t _ _ hu,qik (.inr (.inr ⟨_,rfl⟩)),.bool,_,rfl,by rw[qn0];exact qau.ofBool _ _ _⟩
    ·cases hr
   ·cases hr
  ·split at hr;case isFalse=>cases hr
   rename_i hcond;obtain⟨c1,c2,c3⟩:=hcond;have hq:=hE.eq t _ c2 c3;split at hr;case h_2=>cases hr
   rename_i b' hb';obtain⟨e1,e2⟩:=Ty.ye hb';subst e1;have e2:_=b':=e2;subst e2;obtain⟨r1,ra,_⟩:=rx;obtain⟨r2,rb,_⟩:=ry;obtain⟨xs,hxs⟩:=ra c1;obtain⟨ys,hys⟩:=rb c1;rw[hxs]at r1;rw[hys]at r2;have hrun:=hq.run w _ _ _ _ _ _ r1 r2;have mk:∀zs:Array Value,mkV _ (Value.agg zs).cells.toList=Value.agg zs:=fun zs=>by
    rw[mkV,if_pos c1];simp[Value.cells]
   rw[mk,mk]at hrun;rw[hxs,hys];split at hr
   ·injection hr with hr;subst hr;exact⟨_,by rw[run_eql_struct,hrun];rfl,run_eqGuard_agg w _ _ _ _ _ _ hq.guard,.bool,_,rfl,qau.ofBool _ _ _⟩
   ·injection hr with hr;subst hr;exact⟨_,by rw[run_neq_struct,hrun];rfl,run_eqGuard_agg w _ _ _ _ _ _ hq.guard,.bool,_,rfl,qau.ofBool _ _ _⟩
   ·cases hr
 split at he
 ·rename_i r c hr;have:=Q.yc he;subst this;obtain⟨v,h1,h2,u,z,h4,h5⟩:=key (r,c) hr hc;subst h4;refine qaZ h ?_ hd h5;unfold execOp;rw[hop];simp[Sem.run_bind,h2,h1]
 ·cases he
theorem qtW (h:qac C σ a.tmps w own) (hp:qbV (sit C σ a.tmps w own) p) {op:UnOp}{t:Nat}{x:Operand}(hop:o.op=.unOp op t x) {f:Eff}
  (he:(qec E p o).run (qt σ)=some f) (hd:∀u∈f.upd,u.s<σ.length) (hc:qcT f.chk):qcW C o a w (qk σ f.upd):=by
 unfold qec at he;rw[hop]at he;obtain⟨x1,hx,he⟩:=Q.yb he;obtain⟨xr,hxr,he⟩:=Q.yb he;have rx:=qd2 h (qaz h hp hx) hxr;split at he
 ·rename_i av hav;have:=qI he;subst this;unfold unE at hav;split at hav
  ·obtain⟨e1,g1⟩:=qau.int rx;injection hav with hav;subst hav;refine qaZ h ?_ hd (qau.ofInt _ _ (by rw[qrg];exact qdS _ _));unfold execOp;rw[hop];simp[e1,Op.unary,Op.intArith,qrg]
  ·have e1:=qau.bool rx;injection hav with hav;subst hav;refine qaZ h ?_ hd (qau.ofBool _ _ _);unfold execOp;rw[hop];simp[e1,Op.unary]
  ·obtain⟨e1,g1⟩:=qau.int rx;injection hav with hav;subst hav;refine qaZ h ?_ hd (qau.ofInt _ _ (by rw[qll];exact qdS _ _));unfold execOp;rw[hop];simp[e1,Op.unary,Op.intBits,qll]
  ·cases hav
 ·cases he
theorem qoY (w:World) (a:Addr) (n:Nat) (b:Addr):(w.freeze a n).cell? b=w.cell? b:=by
 unfold World.freeze;by_cases hn:n=0
 ·rw[if_pos hn]
 rw[if_neg hn];unfold World.cell?;simp only[Array.getElem?_modify];by_cases e:a.block=b.block
 ·rw[if_pos e];cases w.heap[b.block]? with
  |none=>rfl
  |some o=>cases o<;>rfl
 ·rw[if_neg e]
theorem qlQ (w:World) (a:Addr) (n:Nat):(w.freeze a n).heap.size=w.heap.size:=by
 unfold World.freeze;split
 ·rfl
 ·simp
theorem qqo (w:World) (a:Addr) (n:Nat) {O:Nat→Prop}(h:O a.block):qbc O w (w.freeze a n):=by
 refine⟨?_,?_,?_,by rw[qlQ];exact zay _,fun k hk hO=>?_⟩
 ·unfold World.freeze;split<;>rfl
 ·unfold World.freeze;split<;>rfl
 ·unfold World.freeze;split<;>rfl
 ·unfold World.freeze;split
  ·rfl
  ·simp only[Array.getElem?_modify];rw[if_neg (fun e:a.block=k=>hO (e▸h))]
theorem qau.frz {F F':Nat→Prop}{k:IntKind}{xs:List Int}{v:Value}(h:qau w F (.slice (.int k)) xs v) (a:Addr) (n:Nat) (hF:∀b,F b→F' b):qau (w.freeze a n) F' (.slice (.int k)) xs v:=by
 rcases h.slice with h1|⟨ad,cap,e1,e2,e3,e4⟩
 ·exact .ofSlice (.inl h1)
 ·refine .ofSlice (.inr ⟨ad,cap,e1,e2,e3,fun i x hi=>?_⟩);obtain⟨f1,f2,cs,f3,f4⟩:=e4 i x hi;refine⟨hF _ f1,by rw[qlQ];exact f2,cs,fun j u hu=>by rw[qoY];exact f3 j u hu,f4⟩
theorem qpt (hE:qa2 E C.P) (h:qac C σ a.tmps w own) (hp:qbV (sit C σ a.tmps w own) p) {s d:Nat}{x:Operand}(hop:o.op=.convert s d x) {f:Eff}
  (he:(qec E p o).run (qt σ)=some f) (hd:∀u∈f.upd,u.s<σ.length) (hc:qcT f.chk):qcW C o a w (qk σ f.upd):=by
 unfold qec at he;rw[hop]at he;obtain⟨x1,hx,he⟩:=Q.yb he;have ho:=qaz h hp hx;unfold convE at he;split at he
 ·rename_i k0 k h1 h2;obtain⟨n,hn,he⟩:=Q.yb he;have:=qI he;subst this;obtain⟨e1,g1⟩:=qem h ho hn;refine qaZ h ?_ hd (qau.ofInt _ _ (by rw[qfP];exact qdS _ _));unfold execOp;rw[hop];simp[e1,convert,run_underlying (hE.int s _ h1),run_underlying (hE.int d _ h2),Conv.intToInt,qfP]
 ·rename_i h1 h2;obtain⟨n,hn,he⟩:=Q.yb he;have:=qI he;subst this;have rx:=qc8 h ho hn;obtain⟨e1,g1⟩:=qau.str rx;refine qaZ h ?_ hd (qau.ofStr _ _ g1);unfold execOp;rw[hop];simp[e1,convert,run_underlying (hE.str s h1),run_underlying (hE.str d h2)]
 ·rename_i h1 h2;split at he;case isFalse=>cases he
  rename_i h3;obtain⟨n,hn,he⟩:=Q.yb he;have:=qI he;subst this;have rx:=qc8 h ho hn;have hu:=(hE.elem s _ h1).under;have hel:=hE.int _ _ h3;have hst:=hE.str d h2;rcases qau.slice rx with⟨e1,e2⟩|⟨ad,cap,e1,e2,e3,e4⟩
  ·have e2:n.1=[]:=e2;refine qaZ (v:= .string ⟨List.toArray []⟩) h ?_ hd ?_
   ·unfold execOp;rw[hop];simp only[e1,Sem.run_bind];rw[run_convert_bytes_nil w s _ hu hel _ _ d hst];rfl
   ·rw[e2,qmx];exact qau.ofStr _ _ (za6 _)
  ·refine qaZ (v:= .string ⟨(quu n.1).toArray⟩) h ?_ hd (qau.ofStr _ _ ?_)
   ·have hcs:qfL w ad (n.1.map (Value.int .u8)):=by
     intro j u hj;rw[List.getElem?_map]at hj;obtain⟨z,hz,rfl⟩:=zaB.1 hj;obtain⟨_,_,cs,q1,q2⟩:=e4 j z hz;have q2:cs=[.int .u8 z]:=q2.1;subst q2;have:=q1 0 _ rfl;rw[qbj]at this;simpa[Ty.size]using this
    have hl:=run_loadCells_list (P:=C.P) w ad _ hcs;rw[List.length_map]at hl;unfold execOp;rw[hop];simp only[e1,Sem.run_bind];rw[run_convert_bytes_string w s d _ (some ad) _ cap hu hel hst,run_bytesToString w ad _ cap n.1 hl,foldl_push_bytes];rw[qmx];simp[ByteArray.empty,ByteArray.emptyWithCapacity];rfl
   ·rw[qmx,List.length_map];exact Nat.le_trans e2 e3
 ·rename_i h1 h2;split at he;case isFalse=>cases he
  rename_i h3;obtain⟨n,hn,he⟩:=Q.yb he;have:=qI he;subst this;obtain⟨e1,g1⟩:=qau.str (qc8 h ho hn);have hu:=(hE.elem d _ h2).under;have hel:=hE.int _ _ h3;have hss:(⟨n.1.toArray⟩:ByteArray).size=n.1.length:=by simp[ByteArray.size]
  have hrun:=Lib.run_convert_string_bytes (P:=C.P) w s d _ ⟨n.1.toArray⟩ (hE.str s h1) hu hel;have hsize:=Lib.bytesWorld_size w (E.etid d) ⟨n.1.toArray⟩;have hold:=Lib.bytesWorld_at_old w (E.etid d) ⟨n.1.toArray⟩;have hkept:qbc (fun _=>False) w (Lib.bytesWorld w (E.etid d) ⟨n.1.toArray⟩):=⟨rfl,rfl,rfl,by rw[hsize];omega,fun k hk _=>hold k hk⟩;refine qz (v:= .slice (some ⟨w.heap.size,0,none⟩) n.1.length (grownCap w n.1.length 0 (E.etid d))) (w':=Lib.bytesWorld w (E.etid d) ⟨n.1.toArray⟩) ?_ (h.dst (bs:=[]) hkept hd (fun b hb=>by cases hb) zaH ⟨rfl,?_⟩ (fun m hm=>by cases hm))
  ·unfold execOp;rw[hop];simp only[e1,Sem.run_bind,hrun,hss];rfl
  ·have hl:(ql3 n.1).length=n.1.length:=by rw[qgR];simp
   refine qau.ofSlice (.inr ⟨⟨w.heap.size,0,none⟩,_,by rw[hl],by rw[hl];exact grownCap_ge _ _ _ _,grownCap_le_maxLen _ _ _ _ g1,fun i x hi=>?_⟩);refine⟨⟨.inr (zay _),by show w.heap.size<(Lib.bytesWorld w (E.etid d) ⟨n.1.toArray⟩).heap.size;rw[hsize];omega,by simp⟩,by show w.heap.size<(Lib.bytesWorld w (E.etid d) ⟨n.1.toArray⟩).heap.size;rw[hsize];omega,[.int .u8 x],?_,rfl,?_⟩
   ·rw[qgR,List.getElem?_map]at hi;obtain⟨z,hz,rfl⟩:=zaB.1 hi;have hlt:=(zao.1 hz).1;intro j u hj;cases j with
    |succ j=>simp at hj
    |zero=>
     simp at hj;subst hj;have:=Lib.bytesWorld_cell w (E.etid d) ⟨n.1.toArray⟩ i (by rw[hss];exact hlt);have ea:((⟨w.heap.size,0,none⟩:Addr).add (i*(Ty.int .u8).size)).add 0=⟨w.heap.size,i,none⟩:=by
      rw[qbj,qL];simp[Ty.size]
     rw[ea,qgP];refine Eq.trans this ?_;simp[List.getD,hz]
   ·rw[qgR,List.getElem?_map]at hi;obtain⟨z,hz,rfl⟩:=zaB.1 hi;rw[qgP];have:=z.toNat_lt;simp[IntKind.has,IntKind.min,IntKind.max,IntKind.signed,IntKind.bits];omega
 ·rename_i h1 h2;obtain⟨os,ov,oa⟩:=x1;simp only at he;split at he;case h_2=>cases he
  rename_i s' et e xs d' hdst;split at he;case isFalse=>cases he
  rename_i hcond;obtain⟨rfl,hds,hmk,rfl,hel,hne⟩:=hcond;have:=qI he;subst this;obtain⟨e1,e2,e3⟩:=ho;have hr0:=q8.to0 (List.isEmpty_iff.1 hmk) e3;have hrep:=hr0.rep;obtain⟨cells,hrow,hbs,hx'⟩:=hr0;rcases hrow.2 with⟨_,h0⟩|⟨g,cap,cur,hv,_,hg,hnc,hcm,hcs,htake⟩
  ·rw[zaV h0]at hne;cases hne
  have hu:=(hE.elem s _ h2).under;have hel:=hE.int _ _ hel;have hdl:d'<σ.length:=hd ⟨d',true,.val (.slice (.int .u8)) xs⟩ (by simp);have hg':w.heap[g]? =some (.cells cur et (0,0)):=hg;have hsh:w.shape? g=some (et,cur.size):=by unfold World.shape?;rw[hg']
  refine qz (v:=a.eval x) (w':=w.freeze ⟨g,cur.size,none⟩ 1) ?_ ?_
  ·unfold execOp;rw[hop];simp only[Sem.run_bind];rw[hv];simp[convert,run_underlying hu,run_underlying hel,markStringish,hsh]
  rw[qd0 a hdst];have mem:∀u:U,u∈([⟨s',true,.undef⟩,⟨d',true,.val (.slice (.int .u8)) xs⟩]:List U)→u=⟨s',true,.undef⟩∨u=⟨d',true,.val (.slice (.int .u8)) xs⟩:=fun u hu=>by simpa using hu
  have hnl:(([⟨s',true,.undef⟩,⟨d',true,.val (.slice (.int .u8)) xs⟩]:List U).map (·.s)).Nodup:=by simp[hds]
  have hgs:g∈own s':=by
   have:own s'=_:=hbs;rw[this,hv];simp[Value.ownBlock]
  refine Exists.elim (h.multi (tm':=a.tmps.setIfInBounds d' (a.eval x)) (w':=w.freeze ⟨g,cur.size,none⟩ 1) [⟨s',true,.undef⟩,⟨d',true,.val (.slice (.int .u8)) xs⟩] (fun _=>[]) hnl (fun u hu=>hd u hu) (by simp) (fun x hxx=>qah _ _ fun e=>hxx (by rw[e];simp)) (fun u hu=>?_) (qqo w _ 1 ⟨⟨s',true,.undef⟩,by simp,hgs⟩) (fun u hu=>⟨fun b hb=>(by cases hb),zaH⟩) (fun u hu u' hu' b hb hb'=>by cases hb) (fun X' hP hpn hw hF hF2 hver htm u hu=>?_) (fun u hu m hm=>?_)) fun own' hfin=>⟨own',hfin.1⟩
  ·rcases mem u hu with rfl|rfl
   ·exact .inl rfl
   ·exact .inl rfl
  ·rcases mem u hu with rfl|rfl
   ·trivial
   ·rw[qbd _ _ (by rw[h.size];exact hdl)];refine⟨rfl,?_⟩;rw[hw];refine qau.frz hrep _ _ fun b hb=>?_;rcases hb with hb|hb
    ·exact hF b hb
    ·exact hF2 b ⟨⟨s',true,.undef⟩,by simp,hb⟩ (fun u hu hm=>by cases hm)
  ·rcases mem u hu with rfl|rfl<;>cases hm
 ·cases he
theorem TyB.run_part {P:Program}{t:Nat}{u:Ty}(h:TyB P t u) {cs:List Value}{off:Nat}(hl:off+u.size≤cs.length):(part t cs.toArray off).run P w=.ok (mkV u ((cs.drop off).take u.size)) w:=by
 simp only[part,Sem.run_bind,h.run_isAgg,Result.andThen_ok];cases hu:u.agg with
 |true=>
  simp only[if_true,Sem.run_bind,h.run_sizeOf,Result.andThen_ok,Sem.run_pure,mkV,hu];congr 2;apply Array.ext';simp[List.extract_eq_take_drop]
 |false=>
  have hs:u.size=1:=by cases u<;>simp[Ty.agg]at hu<;>rfl
  have hlt:off<cs.length:=by omega
  simp only[za0,if_false,mkV,hu,hs];rw[show cs.toArray[off]? =some cs[off]from by simp[hlt],zaO hlt];simp only[Sem.run_pure];rfl
theorem qr0 (hE:qa2 E C.P) (h:qac C σ a.tmps w own) (hp:qbV (sit C σ a.tmps w own) p) {t:Nat}{x ix:Operand}(hop:o.op=.index t x ix) {f:Eff}
  (he:(qec E p o).run (qt σ)=some f) (hd:∀u∈f.upd,u.s<σ.length) (hc:qcT f.chk):qcW C o a w (qk σ f.upd):=by
 unfold qec at he;rw[hop]at he;obtain⟨x1,hx,he⟩:=Q.yb he;obtain⟨i1,hi,he⟩:=Q.yb he;obtain⟨i,hn,he⟩:=Q.yb he;obtain⟨xr,hxr,he⟩:=Q.yb he;have rx:=qd2 h (qaz h hp hx) hxr;obtain⟨e2,g2⟩:=qem h (qaz h hp hi) hn;split at he
 ·rename_i xs _;split at he
  ·rename_i hty;have:=Q.yc he;subst this;obtain⟨e1,g1⟩:=qau.str rx;have hb:0≤i.2∧i.2<xs.length:=by
    have:=hc _ (zat.2 rfl);simp[qfR,qp]at this;exact this
   have hlt:i.2.toNat<xs.length:=by omega
   refine qaZ h (v:= .int .u8 (qm7 (qh xs i.2 0))) ?_ hd (qau.ofInt _ _ ?_)
   ·unfold execOp;rw[hop];simp only[e1,e2,Sem.run_bind];rw[run_index_string w t _ i.1 i.2 (hE.str t hty),dif_pos (by exact⟨hb.1,by show i.2<(xs.toArray.size:Int);simpa using hb.2⟩)];have:qh xs i.2 0=xs[i.2.toNat]:=qeO (zaa hlt);simp only[Result.andThen_ok,Sem.run_pure,qgP,this];rfl
   ·have:=(qh xs i.2 0).toNat_lt;simp[IntKind.has,IntKind.min,IntKind.max,IntKind.signed,IntKind.bits,qgP];omega
  ·cases he
 ·rename_i n e xs;split at he;case isFalse=>cases he
  rename_i hty;have:=Q.yc he;subst this;have hb:0≤i.2∧i.2<(n:Int):=by
   have:=hc _ (zat.2 rfl);simp[qfR]at this;exact this
  obtain⟨r1,r2,_⟩:=rx;obtain⟨cs,hcs⟩:=r2 rfl;have r1:Rep w _ (.arr n e) xs (a.eval x).cells.toList:=r1;rw[hcs]at r1;have r1:Rep w (C.free w own) (.arr n e) xs cs.toList:=by
   refine r1.keep fun b hb hs=>⟨?_,hs,rfl⟩;rcases hb with hb|⟨s,hs,_⟩
   ·exact hb
   ·cases hs
  obtain⟨z,k1,k2,k3⟩:=r1.elem (i:=i.2.toNat) (by omega);refine qaZ h (v:=mkV e ((cs.toList.drop (i.2.toNat*e.size)).take e.size)) ?_ hd (.ofCells (by rw[qeO k1];exact k2));unfold execOp;rw[hop];have hsz:=congrFun (hE.size t e (.inr ⟨n,hty.1⟩)) w;have hpt:=(hE.ty _ _ hty.2).run_part (w:=w) (cs:=cs.toList) (off:=i.2.toNat*e.size) k3;simp only[Array.toArray_toList]at hpt;simp only[Sem.run_bind,Instr.index,e2,asIntOf,Sem.run_pure,Result.andThen_ok,run_underlying (hE.arr t n e hty.1),hcs];rw[if_pos hb];simp only[Sem.run_bind,hsz,Result.andThen_ok,hpt,Sem.run_pure]
 ·cases he
end
end Go.Vi
namespace Go.Vi
open Go.RowKit
section
variable {C:Ctx}{E:Env}{σ:St}{a:Act}{w w':World}{own:Nat→List Nat}{o:Oper}{p:qg3} [Tabbed E C]
theorem qss {w:World}{b k:Nat}{cs:Array Value}{te:Nat}(h:w.heap[b]? =some (.cells cs te (0,0))):w.cell? ⟨b,k,none⟩=cs[k]? :=by simp[World.cell?,h]
theorem qtG (hE:qa2 E C.P) (h:qac C σ a.tmps w own) {t fl:Nat}{x:Operand}{x1:Op1}(ho:qbB (sit C σ a.tmps w own) x1 (a.eval x)) (hop:o.op=.fieldAddr t x fl) {q:Q Eff}(hq:qsR E o t fl x1=some q) {f:Eff}
  (he:q.run (qt σ)=some f) (hd:∀u∈f.upd,u.s<σ.length):qcW C o a w (qk σ f.upd):=by
 unfold qsR at hq;split at hq;case h_2=>cases hq
 rename_i et e φ t0 t1 t2 hxa hl;split at hq;case isFalse=>cases hq
 rename_i hc;injection hq with hq;subst hq;have:=qI he;subst this;have hu:=ho.unowned (by rw[hxa];rfl);rw[hxa]at hu;obtain⟨_,hL,b,cs,te,h1,h2,h3,h4,h5⟩:=hu;obtain⟨fs,f0,f1,i0,i1,k1,k2,k3,k4,k5,k6,k7,k8,k9⟩:=(hE.lst t0 t1 t2 hl).fields;rw[←hc.1]at k1;refine qz (v:=ptr b fl) ?_ (h.dst0 hd ⟨rfl,hL,b,cs,te,rfl,h2,h3,h4,h5⟩ (fun m hm=>by cases hm));unfold execOp;rw[hop];rcases(show fl=0∨fl=1 by omega)with rfl|rfl
 ·simp[Instr.fieldAt,run_underlying k1,k2,h1,Instr.sureAddr,fieldPlace,sizeOf,typeInfo,k6,k7,k4,ptr,Addr.add]
 ·simp[Instr.fieldAt,run_underlying k1,k3,h1,Instr.sureAddr,fieldPlace,sizeOf,typeInfo,k8,k9,k5,ptr,Addr.add]
theorem qsz (hE:qa2 E C.P) (h:qac C σ a.tmps w own) {t:Nat}{x1:Op1}{p:Value}(ho:qbB (sit C σ a.tmps w own) x1 p) {q:Q Eff}(hq:qsM E o t x1=some q) {f:Eff}
  (he:q.run (qt σ)=some f) (hd:∀u∈f.upd,u.s<σ.length) (hx:(execOp a.eval o).run C.P w=((Instr.loadAt t p).run C.P w).andThen fun v w'=>.ok (.value v) w'):qcW C o a w (qk σ f.upd):=by
 unfold qsM at hq;split at hq;case h_2=>cases hq
 rename_i et e k φ t0 t1 t2 hxa hl;have hu:=ho.unowned (by rw[hxa];rfl);rw[hxa]at hu;obtain⟨_,hL,b,cs,te,h1,h2,h3,h4,h5⟩:=hu;have hL':=hL;obtain⟨f1,caps,f2,caps2,hv,_,_⟩:=hL';rw[h5]at hv;injection hv with hv;subst hv;have hT:=hE.lst t0 t1 t2 hl;have h4:w.heap[b]? =some (.cells _ te (0,0)):=h4;have hcell:∀n cs',(∀j z,cs'[j]? =some z→(#[Value.func (.func f1) #[] caps,.func (.func f2) #[] caps2]:Array Value)[n+j]? =some z)→qfL w ⟨b,n,none⟩ cs':=fun n cs' hh j z hj=>by
  have:(⟨b,n,none⟩:Addr).add j=⟨b,n+j,none⟩:=by simp[Addr.add]
  rw[this,qss h4];exact hh j z hj
 split at hq
 ·rename_i hc;injection hq with hq;subst hq;have:=qI he;subst this;obtain⟨rfl,rfl⟩:=hc;refine qz (v:= .agg #[.func (.func f1) #[] caps,.func (.func f2) #[] caps2]) ?_ (h.dst0 hd ⟨rfl,h5.symm,hL⟩ (fun m hm=>by cases hm));rw[hx,h1,show ptr b 0=.pointer (some ⟨b,0,none⟩)from rfl,qci hT.pair (cs:=[.func (.func f1) #[] caps,.func (.func f2) #[] caps2]) (hcell 0 _ fun j z hj=>by
   rw[zaM];simpa using hj) rfl]
  rfl
 ·split at hq;case isFalse=>cases hq
  rename_i hc;injection hq with hq;subst hq;have:=qI he;subst this;rcases hc with⟨rfl,rfl⟩|⟨rfl,rfl⟩
  ·refine qz (v:= .func (.func f1) #[] caps) ?_ (h.dst0 hd ⟨rfl,by show _=lsC 1 C.pn.ls;rw[show C.pn.ls=_ from h5];rfl,hL⟩ (fun m hm=>by cases hm));rw[hx,h1,show ptr b 0=.pointer (some ⟨b,0,none⟩)from rfl,qci hT.fst (cs:=[.func (.func f1) #[] caps]) (hcell 0 _ fun j z hj=>by
    cases j with
    |zero=>simpa using hj
    |succ j=>simp at hj) rfl]
   rfl
  ·refine qz (v:= .func (.func f2) #[] caps2) ?_ (h.dst0 hd ⟨rfl,by show _=lsC 2 C.pn.ls;rw[show C.pn.ls=_ from h5];rfl,hL⟩ (fun m hm=>by cases hm));rw[hx,h1,show ptr b 1=.pointer (some ⟨b,1,none⟩)from rfl,qci hT.snd (cs:=[.func (.func f2) #[] caps2]) (hcell 1 _ fun j z hj=>by
    cases j with
    |zero=>simpa using hj
    |succ j=>simp at hj) rfl]
   rfl
theorem quN (h:qac C σ a.tmps w own) {t:Nat}{x1:Op1}{v:Value}(ho:qbB (sit C σ a.tmps w own) x1 v) {q:Q Eff}(hq:qwm E o t x1=some q) {f:Eff}
  (he:q.run (qt σ)=some f) (hd:∀u∈f.upd,u.s<σ.length) (hx:(execOp a.eval o).run C.P w=.ok (.value (ptr w.heap.size 0)) (w.alloc (.cells v.cells t))):qcW C o a w (qk σ f.upd):=by
 unfold qwm at hq;split at hq;case h_2=>cases hq
 rename_i et e xs φ t0 t1 t2 hxa hl;split at hq;case isFalse=>cases hq
 injection hq with hq;subst hq;have:=qI he;subst this;have hr:∃bs,qax (sit C σ a.tmps w own) (.lsw et e xs (some φ)) v bs:=by
  unfold qbB at ho;rw[hxa]at ho;split at ho
  ·exact⟨_,ho.2.2⟩
  ·exact⟨_,ho⟩
 obtain⟨bs,h1,h2,h3⟩:=hr;have hL:=h3 φ rfl;obtain⟨f1,caps,f2,caps2,hv,_,_⟩:=id hL;have hk:=qbc.alloc (fun _=>False) w (.cells v.cells t);have hsz:w.heap.size<(w.alloc (.cells v.cells t)).heap.size:=by simp
 refine qz hx (h.dst hk hd (bs:=[]) (fun b hb=>by cases hb) zaH ⟨rfl,?_,w.heap.size,v.cells,t,rfl,⟨.inr (zay _),hsz,fun hh=>by cases hh⟩,hsz,heap_alloc_new w _,?_⟩ (fun m hm=>by cases hm))
 ·have h1:v=C.pn.ls:=h1;show qjL C.P _ _ et e φ C.pn.ls;rw[←h1];exact hL.keep fun b hb hlt=>⟨⟨.inl hb,by simp;omega,by simp⟩,by simp;omega,qdc w _ _ hlt⟩
 ·have h1:v=C.pn.ls:=h1;show C.pn.ls=_;rw[←h1,hv];rfl
end
end Go.Vi
namespace Go.Vi
open Go.RowKit
section
variable {C:Ctx}{E:Env}{σ:St}{tm:Array Value}{a:Act}{w w':World}{own:Nat→List Nat}{o:Oper}{p:qg3} [Tabbed E C]
def qoR (v:Option Value) (l d:Int):Prop:=(v=none∧l=d)∨∃k,v=some (.int k l)
theorem qe0 (h:qac C σ a.tmps w own) {b:Option Op1}{v:Option Value}(hb:(b=none∧v=none)∨∃b' v',b=some b'∧v=some v'∧qbB (sit C σ a.tmps w own) b' v') {d l:Int}(he:(qhs b d).run (qt σ)=some l):qoR v l d:=by
 unfold qhs at he;rcases hb with⟨rfl,rfl⟩|⟨b',v',rfl,rfl,ho⟩
 ·have:=Q.yc he;exact .inl ⟨rfl,this.symm⟩
 ·obtain⟨i,hi,he⟩:=Q.yb he;have:=Q.yc he;obtain⟨e1,_⟩:=qem h ho hi;exact .inr ⟨i.1,by rw[e1,this]⟩
theorem qox {P:Program}{t:Nat}(ht:P.underlying t=some .string) {s:ByteArray}{vl vh:Option Value}{l h:Int}(hl:qoR vl l 0) (hh:qoR vh h (s.size:Int)) (h0:0≤l) (h1:l≤h) (h2:h≤s.size):
  (Instr.sliceAt t (.string s) vl vh none).run P w=.ok (.string (s.extract l.toNat h.toNat)) w:=by
 rw[run_sliceAt_string w t _ _ _ _ ht];rcases hl with⟨rfl,rfl⟩|⟨k,rfl⟩<;>rcases hh with⟨rfl,rfl⟩|⟨k',rfl⟩
 ·exact run_slice_string_all w t s ht
 ·exact run_slice_string_h w t s ht k' h h1 h2
 ·exact run_slice_string_l w t s ht k l h0 h1
 ·exact run_slice_string w t s k k' l h ht h0 h1 h2
theorem qfq {P:Program}{t e:Nat}(ht:P.underlying t=some (.slice e)) {sz:Nat}(hs:(sizeOf e).run P=fun w=>.ok sz w) {ad:Option Addr}{len cap:Nat}(hlc:len≤cap) {vl vh:Option Value}{l h:Int}(hl:qoR vl l 0) (hh:qoR vh h (len:Int)) (h0:0≤l) (h1:l≤h) (h2:h≤len):
  (Instr.sliceAt t (.slice ad len cap) vl vh none).run P w=.ok (sliced ad l.toNat h.toNat cap sz) w:=by
 have he:P.elem t=e:=by simp[Program.elem,ht]
 have ht':P.underlying t=some (.slice (P.elem t)):=by rw[he];exact ht
 rw[run_sliceAt_slice w t _ _ _ _ ht'];have hs':∀w,(sizeOf (P.elem t)).run P w=.ok sz w:=fun w=>by rw[he,hs]
 rcases hl with⟨rfl,rfl⟩|⟨k,rfl⟩<;>rcases hh with⟨rfl,rfl⟩|⟨k',rfl⟩
 ·rw[run_slice_all w t ad len cap ht',hs'];rfl
 ·rw[run_slice_h w t ad len cap ht' k' h h1 (by omega),hs'];rfl
 ·rw[run_slice_l w t ad len cap ht' k l h0 h1,hs'];rfl
 ·rw[run_slice_lh w t ad len cap ht' k k' l h h0 h1 (by omega),hs'];rfl
theorem qh7 {α:Type}{xs:List α}{l h:Int}{i:Nat}{x:α}(hx:(qbq xs l h)[i]? =some x):xs[l.toNat+i]? =some x:=by
 rw[qd3]at hx;rw[zan,zal]at hx;split at hx
 ·exact hx
 ·cases hx
theorem qgZ {α:Type}{xs:List α}{l h:Int}(h0:0≤l) (h1:l≤h) (h2:h≤xs.length):(qbq xs l h).length=h.toNat-l.toNat:=by
 simp[qd3];omega
theorem qes.slice {α:Type}{F:Nat→Prop}{R:α→List Value→Prop}{sz:Nat}{xs:List α}{v:Value}(hr:qes w F R sz xs v) {l h:Int}(h0:0≤l) (h1:l≤h) (h2:h≤xs.length):
  ∃ad len cap,v=.slice ad len cap∧len=xs.length∧len≤cap∧qes w F R sz (qbq xs l h) (sliced ad l.toNat h.toNat cap sz):=by
 have hlen:=qgZ (xs:=xs) h0 h1 h2;rcases hr with⟨rfl,rfl⟩|⟨ad,cap,rfl,hc,hm,hx⟩
 ·refine⟨none,0,0,rfl,rfl,zay _,.inl ⟨?_,?_⟩⟩
  ·simp at h2;have e1:l.toNat=0:=by omega
   have e2:h.toNat=0:=by omega
   simp[sliced,e1,e2]
  ·simp[qd3]
 ·refine⟨some ad,xs.length,cap,rfl,rfl,hc,?_⟩;by_cases hcl:cap=l.toNat
  ·have e1:(qbq xs l h)=[]:=zaV (by omega);refine .inr ⟨ad,0,?_,by rw[e1];simp,by simp[maxLen],fun i x hi=>by rw[e1]at hi;cases hi⟩;rw[e1];simp[sliced,hcl];omega
  ·refine .inr ⟨ad.add (l.toNat*sz),cap-l.toNat,?_,by omega,by omega,fun i x hi=>?_⟩
   ·simp[sliced,hcl,hlen]
   ·obtain⟨k1,k2,cs,k3,k4⟩:=hx _ _ (qh7 hi);refine⟨by rw[qam];exact k1,by rw[qam];exact k2,cs,fun j u hj=>?_,k4⟩;rw[qbj,qbj,←Nat.add_assoc,←zbc,←qbj];exact k3 j u hj
theorem qar.form {F:Nat→Prop}{et:Nat}{e:Ty}{xs:List e.den}{v:Value}{bs:List Nat}(hr:qar w F et e xs v bs):∃ad cap,v=.slice ad xs.length cap∧xs.length≤cap:=by
 obtain⟨cells,ho,_,_⟩:=hr;rcases ho.2 with⟨h1,h2⟩|⟨g,cap,cur,hv,_,_,hnc,_⟩
 ·exact⟨none,0,by rw[h1,h2],by omega⟩
 ·exact⟨some ⟨g,0,none⟩,cap,hv,hnc⟩
theorem q8.form {F:Nat→Prop}{et:Nat}{e:Ty}{xs:List e.den}{v:Value}{bs:List Nat}(hr:q8 w F et e xs v bs):∃ad cap,v=.slice ad xs.length cap∧xs.length≤cap:=by
 obtain⟨cells,ho⟩:=hr.hdr;rcases ho.2 with⟨h1,h2⟩|⟨g,cap,cur,hv,_,_,hnc,_⟩
 ·exact⟨none,0,by rw[h1,h2],by omega⟩
 ·exact⟨some ⟨g,0,none⟩,cap,hv,hnc⟩
theorem qt0 (h:qac C σ a.tmps w own) {x1:Op1}{v:Value}(ho:qbB (sit C σ a.tmps w own) x1 v) {q:Site}(he:(qsD x1).run (qt σ)=some q):
  q.v=(qt σ q.s).1∧qc6 (sit C σ a.tmps w own) q.s q.fo v∧∃bs,q8 w (C.free w own) q.et q.e q.xs v bs:=by
 obtain⟨os,ov,oa⟩:=x1;unfold qsD at he;split at he
 ·rename_i s et e xs h1 h2;simp only at h1 h2;subst h1;subst h2;have:=Q.yc he;subst this;exact⟨ho.2.1,ho.1.symm,_,ho.2.2⟩
 ·rename_i _ s v0 h2;simp only at h2;subst h2;rw[Q.yd]at he;split at he;case isFalse=>cases he
  rename_i hv;split at he;case h_2=>cases he
  rename_i et e xs ha;have:=Q.yc he;subst this;have hval:a.tmps.getD s undef=v:=(ho.unowned rfl).2 hv;have hat:=h.at_ s;rw[ha,hval]at hat;exact⟨hv.symm,hval,_,hat⟩
 ·rename_i _ s v0 off u h2;simp only at h2;subst h2;split at he;case isFalse=>cases he
  rename_i hu;rw[Q.yd]at he;split at he;case isFalse=>cases he
  rename_i hv;split at he;case h_2=>cases he
  rename_i r ha;have:=Q.yc he;subst this;obtain⟨b,k1,k2,k3⟩:=(ho.unowned rfl).2 hv;have hh:qc6 (sit C σ a.tmps w own) s (some off) v:=by
   refine⟨b,k1,k2,?_⟩;rcases k3 with⟨k3,_⟩|⟨_,k3⟩
   ·rw[hu]at k3;cases k3
   ·exact k3
  obtain⟨_,_,b2,_,q1,_⟩:=h.rowAt ha hh;exact⟨hv.symm,hh,b2,q1⟩
 ·cases he
theorem qhX (hE:qa2 E C.P) (h:qac C σ a.tmps w own) {t:Nat}{x1:Op1}{v:Value}(hx:qbB (sit C σ a.tmps w own) x1 v) {lo hi:Option Op1}{vl vh:Option Value}
  (hl:(lo=none∧vl=none)∨∃b' v',lo=some b'∧vl=some v'∧qbB (sit C σ a.tmps w own) b' v') (hh:(hi=none∧vh=none)∨∃b' v',hi=some b'∧vh=some v'∧qbB (sit C σ a.tmps w own) b' v')
  (hr:(execOp a.eval o).run C.P w=((Instr.sliceAt t v vl vh none).run C.P w).andThen fun v w=>.ok (.value v) w) {f:Eff}
  (he:(qlF E o t x1 lo hi).run (qt σ)=some f) (hd:∀u∈f.upd,u.s<σ.length) (hc:qcT f.chk):qcW C o a w (qk σ f.upd):=by
 unfold qlF at he;obtain⟨r,hxr,he⟩:=Q.yb he;have rx:=qd2 h hx hxr;have chk:∀ {l h n:Int},qcT [inS l h n]→0≤l∧l≤h∧h≤n:=fun {l h n} hc=>by
  have:=hc _ (zat.2 rfl);simpa[qoo]using this
 split at he
 ·rename_i xs _;obtain⟨l,h1,he⟩:=Q.yb he;obtain⟨hh',h2,he⟩:=Q.yb he;split at he
  ·rename_i hty;have:=Q.yc he;subst this;have b1:=qe0 h hl h1;have b2:=qe0 h hh h2;obtain⟨c1,c2,c3⟩:=chk hc;obtain⟨e1,g1⟩:=qau.str rx;refine qaZ h (v:= .string ⟨(qbq xs l hh').toArray⟩) ?_ hd (qau.ofStr _ _ ?_)
   ·have hsz:((⟨xs.toArray⟩:ByteArray).size:Int)=qs xs:=by simp[qp,ByteArray.size]
    rw[hr,e1,qox (w:=w) (hE.str t hty) b1 (h:=hh') (by rw[hsz];exact b2) c1 c2 (by rw[hsz];exact c3)];rw[ByteArray.extract_mk];simp[qd3,List.drop_take]
   ·rw[qgZ c1 c2 (by rw[qp]at c3;exact c3)];have g1:xs.length≤maxLen:=g1;simp[qp]at c3;omega
  ·cases he
 ·rename_i e xs;obtain⟨l,h1,he⟩:=Q.yb he;obtain⟨hh',h2,he⟩:=Q.yb he;split at he
  ·rename_i hty;have:=Q.yc he;subst this;have b1:=qe0 h hl h1;have b2:=qe0 h hh h2;obtain⟨c1,c2,c3⟩:=chk hc;have rs:=qau.slice rx;obtain⟨ad,len,cap,e1,e2,e3,e4⟩:=rs.slice c1 c2 (by rw[qp]at c3;exact c3);subst e1;subst e2;have hem:=hE.elem t e hty;refine qaZ h (v:=sliced ad l.toNat hh'.toNat cap e.size) ?_ hd ((qau.ofSlice e4).mono fun b hb _=>qnm hb);rw[hr,qfq (w:=w) hem.under (hE.size t e (.inl hty)) e3 b1 (by simpa[qp]using b2) c1 c2 (by simpa[qp]using c3)];rfl
  ·cases he
 ·obtain⟨q,h0,he⟩:=Q.yb he;obtain⟨l,h1,he⟩:=Q.yb he;obtain⟨hh',h2,he⟩:=Q.yb he;split at he;case isFalse=>cases he
  rename_i hty;have:=Q.yc he;subst this;have b1:=qe0 h hl h1;have b2:=qe0 h hh h2;obtain⟨c1,c2,c3⟩:=chk hc;obtain⟨s1,s2,bs,s3⟩:=qt0 h hx h0;obtain⟨ad,cap,e1,e2⟩:=s3.form;subst e1;rw[qp]at c3 b2;have hrun:=qfq (w:=w) (hE.elem t q.e hty).under (hE.size t q.e (.inl hty)) (ad:=ad) e2 b1 b2 c1 c2 c3;have hr2:(execOp a.eval o).run C.P w=.ok (.value (sliced ad l.toNat hh'.toNat cap q.e.size)) w:=by rw[hr,hrun];rfl
  refine qz hr2 (h.dst0 hd ⟨rfl,fun _=>⟨ad,q.xs.length,cap,s2,c1,c2,c3,rfl⟩⟩ (fun m hm=>?_));simp only[AV.mentions,zat]at hm;rw[hm,s1];exact zay _
 ·cases he
theorem qar.front {F:Nat→Prop}{et:Nat}{e:Ty}{xs:List e.den}{v:Value}{bs:List Nat}(hr:qar w F et e xs v bs) {h:Int}(h1:0≤h) (h2:h≤xs.length):
  ∃ad cap,v=.slice ad xs.length cap∧xs.length≤cap∧qar w F et e (qbq xs 0 h) (sliced ad 0 h.toNat cap e.size) bs:=by
 have hlen:=qgZ (xs:=xs) (l:=0) (za9 _) h1 h2;obtain⟨cells,hc,hbs,hx⟩:=hr;have hx':∀(i:Nat) (x:e.den),(qbq xs 0 h)[i]? =some x→Rep w F e x (((cells.take (h.toNat*e.size)).drop (i*e.size)).take e.size):=by
  intro i x hi;have hlt:i<h.toNat:=by
   have:=(zao.1 hi).1;rw[hlen]at this;simpa using this
  have:=hx _ _ (qh7 hi);rw[Int.toNat_zero,zaM]at this;have e1:((cells.take (h.toNat*e.size)).drop (i*e.size)).take e.size=(cells.drop (i*e.size)).take e.size:=by
   have hle:i*e.size+e.size≤h.toNat*e.size:=by
    have:=zaq e.size (show i+1≤h.toNat by omega);rw[zbc,Nat.one_mul]at this;exact this
   rw[List.drop_take,List.take_take,Nat.min_eq_left (by omega)]
  rw[e1];exact this
 rcases hc.2 with⟨k1,k2⟩|⟨g,cap,cur,k1,k2,k3,k4,k5,k6,k7⟩
 ·have hxn:xs=[]:=zaV k2;subst hxn;refine⟨none,0,k1,zay _,?_⟩;have h0:h.toNat=0:=by simp at h2;omega
  have e1:qbq ([]:List e.den) 0 h=[]:=by rw[qd3];simp
  rw[e1,h0];have e2:sliced none 0 0 0 e.size=.slice none 0 0:=by simp[sliced]
  rw[e2,hbs,k1];exact⟨[],World.ownsRow_nil _ _ _ _,rfl,fun i x hi=>by cases hi⟩
 ·refine⟨some ⟨g,0,none⟩,cap,k1,k4,?_⟩;have e2:sliced (some ⟨g,0,none⟩) 0 h.toNat cap e.size=.slice (some ⟨g,0,none⟩) h.toNat cap:=by
   simp[sliced,Addr.add]
  rw[e2];have hhl:h.toNat≤xs.length:=by omega
  refine⟨cells.take (h.toNat*e.size),⟨?_,.inr ⟨g,cap,cur,?_,k2,k3,?_,k5,k6,?_⟩⟩,by rw[hbs,k1];rfl,hx'⟩
  ·rw[zaf,hc.1,hlen];simp only[Int.toNat_zero,Nat.sub_zero];exact Nat.min_eq_left (zaq _ hhl)
  ·rw[hlen];simp
  ·rw[hlen];simp;omega
  ·rw[hlen];simp only[Int.toNat_zero,Nat.sub_zero];rw[←k7,List.take_take,Nat.min_eq_left (zaq _ hhl)]
theorem qnc {E:Env}{tid:Nat}{x:Operand}{o1:Op1}(ho:(opd E p tid x).run (qt σ)=some o1):∀s,o1.s=some s→o1.a≠ .undef→s<σ.length:=by
 intro s hs ha;unfold opd at ho;split at ho
 ·rename_i t;rw[Q.yd]at ho;have:=Q.yc ho;subst this;have hs:t=s:=by injection hs
  subst hs;by_cases h:t<σ.length
  ·exact h
  ·have:qt σ t=(0,.undef):=by simp[qt,List.getD,zaD (Nat.le_of_not_lt h)]
   rw[this]at ha;exact absurd rfl ha
 ·split at ho
  ·have:=Q.yc ho;subst this;cases hs
  ·cases ho
 ·have:=Q.yc ho;subst this;cases hs
 ·split at ho
  ·have:=Q.yc ho;subst this;cases hs
  ·cases ho
theorem qvs (hE:qa2 E C.P) (h:qac C σ a.tmps w own) {t s d:Nat}{et:Nat}{e:Ty}{xs:List e.den}{v:Value}(hrow:q8 w (C.free w own) et e xs v (own s)) {hi:Option Op1}{vh:Option Value}
  (hh:(hi=none∧vh=none)∨∃b' v',hi=some b'∧vh=some v'∧qbB (sit C σ a.tmps w own) b' v')
  (hr:(execOp a.eval o).run C.P w=((Instr.sliceAt t v none vh none).run C.P w).andThen fun v w=>.ok (.value v) w) (hdst:o.dst=some d) (hne:d≠s) (hty:E.ty t=some (.slice e)) (hmk:etM et=[]) {l:Int}(h3:(qhs hi (qs xs)).run (qt σ)=some l)
  (hds:d<σ.length) (hss:s<σ.length) (hc:qcT [inS 0 l (qs xs)]):qcW C o a w (qk σ [⟨s,true,.undef⟩,⟨d,true,.own et e (qbq xs 0 l)⟩]):=by
 have b2:=qe0 h hh h3;obtain⟨c1,c2⟩:0≤l∧l≤qs xs:=by
  have:=hc _ (zat.2 rfl);have:0≤(0:Int)∧0≤l∧l≤qs xs:=by simpa[qoo]using this
  omega
 have c2':l≤xs.length:=by rw[qp]at c2;exact c2
 obtain⟨ad,cap,k1,k2,k3⟩:=qar.front (hrow.to0 hmk) c1 c2';have hsz:(sizeOf (E.etid t)).run C.P=fun w=>.ok e.size w:=hE.size t e (.inl hty);have hrun:=qfq (w:=w) (hE.elem t e hty).under hsz (ad:=ad) k2 (vl:=none) (.inl ⟨rfl,rfl⟩) (by rw[qp]at b2;exact b2) (za9 _) c1 c2';have hr2:(execOp a.eval o).run C.P w=.ok (.value (sliced ad 0 l.toNat cap e.size)) w:=by
  rw[hr,k1,hrun];rfl
 refine qz hr2 ?_;rw[qd0 a hdst];exact h.mut hds [s] (fun s' hs'=>by simp at hs';subst hs';exact⟨hss,fun e=>hne e.symm⟩) (qbc.refl _ _) (fun b hb=>.inr (.inr ⟨s,by simp,hb⟩)) (h.nodup s) (k3.to hmk) rfl
theorem qt6 (hE:qa2 E C.P) (h:qac C σ a.tmps w own) {t:Nat}{x1:Op1}{v:Value}(hx:qbB (sit C σ a.tmps w own) x1 v) (hs:∀s,x1.s=some s→x1.a≠ .undef→s<σ.length) {hi:Option Op1}{vh:Option Value}
  (hh:(hi=none∧vh=none)∨∃b' v',hi=some b'∧vh=some v'∧qbB (sit C σ a.tmps w own) b' v')
  (hr:(execOp a.eval o).run C.P w=((Instr.sliceAt t v none vh none).run C.P w).andThen fun v w=>.ok (.value v) w) {q:Q Eff}(hq:cutE E o t x1 hi=some q) {f:Eff}
  (he:q.run (qt σ)=some f) (hd:∀u∈f.upd,u.s<σ.length) (hc:qcT f.chk):qcW C o a w (qk σ f.upd):=by
 obtain⟨os,ov,oa⟩:=x1;have chk:∀ {h n:Int},qcT [inS 0 h n]→0≤h∧h≤n:=fun {h n} hc=>by
  have:=hc _ (zat.2 rfl);have:0≤(0:Int)∧0≤h∧h≤n:=by simpa[qoo]using this
  omega
 unfold cutE at hq;split at hq
 ·rename_i s et e xs d h1 h2 hdst;simp only at h1 h2;subst h1;subst h2;split at hq;case isFalse=>cases hq
  rename_i hcond;obtain⟨hne,hty,hmk⟩:=hcond;injection hq with hq;subst hq;obtain⟨l,h3,he⟩:=Q.yb he;have:=Q.yc he;subst this;exact qvs hE h hx.2.2 hh hr hdst hne hty hmk h3 (hd ⟨d,true,.own et e (qbq xs 0 l)⟩ (by simp)) (hd ⟨s,true,.undef⟩ (by simp)) hc
 ·rename_i _ et e h2;simp only at h2;subst h2;split at hq;case isFalse=>cases hq
  rename_i hty;injection hq with hq;subst hq;obtain⟨l,h3,he⟩:=Q.yb he;have:=Q.yc he;subst this;have b2:=qe0 h hh h3;obtain⟨c1,c2⟩:=chk hc;have hv:v=.slice none 0 0:=(hx.unowned rfl).2;have hsz:(sizeOf (E.etid t)).run C.P=fun w=>.ok e.size w:=hE.size t e (.inl hty);have hrun:=qfq (w:=w) (hE.elem t e hty).under hsz (ad:=none) (zay 0) (vl:=none) (.inl ⟨rfl,rfl⟩) b2 (za9 _) c1 c2;have h0:l.toNat=0:=by omega
  have hr2:(execOp a.eval o).run C.P w=.ok (.value (.slice none 0 0)) w:=by
   rw[hr,hv,hrun,h0];simp[sliced]
  exact qz hr2 (h.dst0 hd ⟨rfl,rfl⟩ (fun m hm=>by cases hm))
 ·rename_i _ s v0 d h2 hdst;simp only at h2;subst h2;injection hq with hq;subst hq;unfold qtd at he;rw[Q.yd]at he;split at he;case isFalse=>cases he
  rename_i hv;split at he
  ·rename_i et e xs ha;split at he;case isFalse=>cases he
   rename_i hcond;obtain⟨hne,hty,hmk⟩:=hcond;obtain⟨l,h3,he⟩:=Q.yb he;have:=Q.yc he;subst this;have hval:a.tmps.getD s undef=v:=(hx.unowned rfl).2 hv;have hat:=h.at_ s;rw[ha,hval]at hat;exact qvs hE h hat hh hr hdst hne hty hmk h3 (hd ⟨d,true,.own et e (qbq xs 0 l)⟩ (by simp)) (hd ⟨s,true,.undef⟩ (by simp)) hc
  ·exact qhX hE h hx (.inl ⟨rfl,rfl⟩) hh hr he hd hc
 ·cases hq
theorem qrL (hE:qa2 E C.P) (h:qac C σ a.tmps w own) (hp:qbV (sit C σ a.tmps w own) p) {t:Nat}{x:Operand}{lo hi:Option Operand}(hop:o.op=.slice t x lo hi none) {f:Eff}
  (he:(qec E p o).run (qt σ)=some f) (hd:∀u∈f.upd,u.s<σ.length) (hc:qcT f.chk):qcW C o a w (qk σ f.upd):=by
 unfold qec at he;rw[hop]at he;obtain⟨x1,hx,he⟩:=Q.yb he;have ho:=qaz h hp hx;have hr:(execOp a.eval o).run C.P w=((Instr.sliceAt t (a.eval x) (lo.map a.eval) (hi.map a.eval) none).run C.P w).andThen fun v w=>.ok (.value v) w:=by
  unfold execOp;rw[hop];simp
 cases lo with
 |none=>cases hi with
  |none=>
   simp only at he;split at he
   ·rename_i q hq;exact qt6 hE h ho (qnc hx) (.inl ⟨rfl,rfl⟩) hr hq he hd hc
   ·exact qhX hE h ho (.inl ⟨rfl,rfl⟩) (.inl ⟨rfl,rfl⟩) hr he hd hc
  |some hi=>
   obtain⟨b,hb,he⟩:=Q.yb he;split at he
   ·rename_i q hq;exact qt6 hE h ho (qnc hx) (.inr ⟨_,_,rfl,rfl,qaz h hp hb⟩) hr hq he hd hc
   ·exact qhX hE h ho (.inl ⟨rfl,rfl⟩) (.inr ⟨_,_,rfl,rfl,qaz h hp hb⟩) hr he hd hc
 |some lo=>cases hi with
  |none=>
   obtain⟨b,hb,he⟩:=Q.yb he;exact qhX hE h ho (.inr ⟨_,_,rfl,rfl,qaz h hp hb⟩) (.inl ⟨rfl,rfl⟩) hr he hd hc
  |some hi=>
   obtain⟨b,hb,he⟩:=Q.yb he;obtain⟨b',hb',he⟩:=Q.yb he;exact qhX hE h ho (.inr ⟨_,_,rfl,rfl,qaz h hp hb⟩) (.inr ⟨_,_,rfl,rfl,qaz h hp hb'⟩) hr he hd hc
theorem qr1 (hE:qa2 E C.P) (h:qac C σ a.tmps w own) (hp:qbV (sit C σ a.tmps w own) p) {t:Nat}{x:Operand}{fl:Nat}(hop:o.op=.field t x fl) {f:Eff}
  (he:(qec E p o).run (qt σ)=some f) (hd:∀u∈f.upd,u.s<σ.length) (hc:qcT f.chk):qcW C o a w (qk σ f.upd):=by
 unfold qec at he;rw[hop]at he;obtain⟨x1,hx,he⟩:=Q.yb he;have ho:=qaz h hp hx;split at he
 ·rename_i t' off u h1 h2 h3;obtain⟨r,hr,he⟩:=Q.yb he;have rx:=qc8 h ho hr;split at he
  ·rename_i y hy;obtain⟨fz,hf,he⟩:=Q.yb he;have:=qI he;subst this;obtain⟨fs,fd,k1,k2,k3,k4,_⟩:=hE.off t fl off h2;obtain⟨q1,q2⟩:=rx.1.sub hy;have hag:t'.agg=true:=by
    obtain⟨d,d1,d2⟩:=(hE.ty t t' h1).desc;rw[k1]at d1;injection d1 with d1;subst d1;exact d2.symm
   obtain⟨cs,ecs⟩:=rx.2.1 hag;refine qhO h (v:=mkV u (((a.eval x).cells.toList.drop off).take u.size)) ?_ hf hd (.ofCells q2);unfold execOp;rw[hop];simp only[Sem.run_bind,Instr.field,run_underlying k1,Result.andThen_ok,k2,ecs,asAgg,Sem.run_pure];rw[ecs]at q1;have hl:off+u.size≤cs.toList.length:=by simpa[Value.cells]using q1
   have:=(hE.ty _ _ h3).run_part (w:=w) (cs:=cs.toList) (off:=off) hl;rw[k3,k4];simp only[Array.toArray_toList]at this;rw[this];simp[Value.cells]
  ·cases he
 ·cases he
theorem qm2 (hE:qa2 E C.P) (h:qac C σ a.tmps w own) (hp:qbV (sit C σ a.tmps w own) p) {t:Nat}{x:Operand}{fl:Nat}(hop:o.op=.fieldAddr t x fl) {f:Eff}
  (he:(qec E p o).run (qt σ)=some f) (hd:∀u∈f.upd,u.s<σ.length) (hc:qcT f.chk):qcW C o a w (qk σ f.upd):=by
 unfold qec at he;rw[hop]at he;obtain⟨x1,hx,he⟩:=Q.yb he;have ho:=qaz h hp hx;split at he
 ·rename_i q hq;exact qtG hE h ho hop hq he hd
 split at he
 ·rename_i off h2;obtain⟨fs,fd,k1,k2,k3,k4,i,k5,k6⟩:=hE.off t fl off h2;refine quw h hp.1 ho (qo6 h hx) he hd fun ad hv=>?_;unfold execOp;rw[hop];simp[Instr.fieldAt,run_underlying k1,k2,hv,Instr.sureAddr,fieldPlace,sizeOf,typeInfo,k5,k6,k3]
 ·cases he
theorem qgD {P:Program}{t e:Nat}(ht:P.underlying t=some (.slice e)) {sz:Nat}(hs:(sizeOf e).run P=fun w=>.ok sz w) {ad:Addr}{len cap:Nat}{k:IntKind}{i:Int}(h0:0≤i) (h1:i<len):
  (Instr.indexAt t (.slice (some ad) len cap) (.int k i)).run P w=.ok (.pointer (some (ad.add (i.toNat*sz)))) w:=by
 simp[Instr.indexAt,asIntOf,run_underlying ht,h0,h1,hs]
theorem qm8 (hE:qa2 E C.P) (h:qac C σ a.tmps w own) (hp:qbV (sit C σ a.tmps w own) p) {t:Nat}{x ix:Operand}(hop:o.op=.indexAddr t x ix) {f:Eff}
  (he:(qec E p o).run (qt σ)=some f) (hd:∀u∈f.upd,u.s<σ.length) (hc:qcT f.chk):qcW C o a w (qk σ f.upd):=by
 unfold qec at he;rw[hop]at he;obtain⟨x1,hx,he⟩:=Q.yb he;obtain⟨i1,hi,he⟩:=Q.yb he;have ho:=qaz h hp hx;have hoi:=qaz h hp hi;unfold qm9 at he;obtain⟨i,hn,he⟩:=Q.yb he;obtain⟨e2,g2⟩:=qem h hoi hn;have hr:(execOp a.eval o).run C.P w=((Instr.indexAt t (a.eval x) (.int i.1 i.2)).run C.P w).andThen fun v w=>.ok (.value v) w:=by
  unfold execOp;rw[hop];simp[Sem.run_bind,e2]
 split at he;case h_2=>
  rename_i n e0 hty;split at he
  ·cases he
  rename_i hn2;have chk:qcT [inB i.2 n]→0≤i.2∧i.2<(n:Int):=fun hc=>by
   have:=hc _ (zat.2 rfl);simp[qfR]at this;exact this
  have hsz:=hE.size t e0 (.inr ⟨n,hty⟩);have run:∀ {ad:Addr},0≤i.2→i.2<(n:Int)→(Instr.indexAt t (.pointer (some ad)) (.int i.1 i.2)).run C.P w=.ok (.pointer (some (ad.add (i.2.toNat*e0.size)))) w:=fun {ad} h0 h1=>by
   simp[Instr.indexAt,Instr.sureAddr,asIntOf,run_underlying (hE.arr t n e0 hty),h0,h1,hsz]
  split at he
  ·rename_i s v b hb;rw[Q.yd]at he;split at he;case isFalse=>cases he
   rename_i hv;have:=Q.yc he;subst this;obtain⟨i0,i1⟩:=chk hc;obtain⟨bb,k1,k2,k3⟩:=qeQ h hp.1 ho hb hv;rw[k2,show ptr bb b=.pointer (some ⟨bb,b,none⟩)from rfl,run i0 i1]at hr;obtain⟨q1,q2⟩:=qti (C:=C) (w:=w) (own:=own) (off:=b) (e:=e0) (o2:=0) (v:= .pointer (some ((⟨bb,b,none⟩:Addr).add (i.2.toNat*e0.size)))) hv i0 i1 k1 (by rw[qL,zbf];rfl) k3;exact qz hr (h.dst0 hd q1 q2)
  ·split at he
   ·rename_i t' y off hxa;split at he
    ·rename_i ys hs;have:=Q.yc he;subst this;obtain⟨i0,i1⟩:=chk hc;obtain⟨_,ad,cs,k1,g1,g2,g3,g4⟩:=hxa▸ho.unowned (by rw[hxa];rfl);rw[k1,run i0 i1]at hr;obtain⟨m1,m2⟩:=g4.sub hs;obtain⟨z,z1,z2,z3⟩:=m2.elem (i:=i.2.toNat) (by omega);refine qz hr (h.dst0 hd ⟨rfl,(ad.add off).add (i.2.toNat*e0.size),(((cs.drop off).take (Ty.arr n e0).size).drop (i.2.toNat*e0.size)).take e0.size,?_,?_,?_,?_,?_⟩ (fun m hm=>by cases hm))
     ·rw[qbj _ _ 0];rfl
     ·rw[qam,qam];exact g1
     ·rw[qam,qam];exact g2
     ·intro j u hj;rw[qbj,qbj];refine g3 _ _ ?_;rw[zal]at hj;split at hj;case isFalse=>cases hj
      rw[zan,zal]at hj;split at hj;case isFalse=>cases hj
      rw[zan]at hj;rw[←hj]
     ·rw[qeO z1];exact z2
    ·cases he
   ·cases he
 case h_3=>cases he
 rename_i e0 hty;have hem:=hE.elem t e0 hty;have chk:∀ {n:Int},qcT [inB i.2 n]→0≤i.2∧i.2<n:=fun {n} hc=>by
  have:=hc _ (zat.2 rfl);simp[qfR]at this;exact this
 have kOwn:∀(s v0:Nat) (fo:Option Nat) (et:Nat) (e:Ty) (xs:List e.den) (bs:List Nat),(qt σ s).1=v0→qc6 (sit C σ a.tmps w own) s fo (a.eval x)→(∃te cells,w.ownsRow 0 te e.size (a.eval x) xs.length cells)→e.size=e0.size→f=⟨qbp o (.prow s v0 fo e.size i.2 0),[inB i.2 (qs xs)]⟩→qcW C o a w (qk σ f.upd):=by
  intro s v0 fo et e xs bs hv htm hrow hsz hf;subst hf;obtain⟨c1,c2⟩:=chk hc;obtain⟨te,cells,k1⟩:=hrow;rcases k1.2 with⟨k4,k5⟩|⟨g,cap,cur,k4,k5,k6,k7,k8,k9,k10⟩
  ·simp[qp]at c2;omega
  ·rw[k4]at hr;rw[qgD (w:=w) hem.under (hE.size t e0 (.inl hty)) c1 (by simpa[qp]using c2)]at hr;refine qz hr (h.dst0 hd ⟨rfl,fun _=>⟨g,xs.length,cap,k4▸htm,c1,by rw[qp]at c2;exact c2,?_⟩⟩ (fun m hm=>?_))
   ·rw[qL,hsz];simp[ptr]
   ·simp[AV.mentions]at hm;subst hm;exact Nat.le_of_eq hv.symm
 have val:∀(e:Ty) (xs:List e.den),qau w (C.free w own) (.slice e) xs (a.eval x)→e.size=e0.size→f=⟨qbp o (.view e (qh xs i.2 e.dflt) 0),[inB i.2 (qs xs)]⟩→qcW C o a w (qk σ f.upd):=by
  intro e xs hrow hsz hf;subst hf;obtain⟨c1,c2⟩:=chk hc;rcases qau.slice hrow with⟨_,k5⟩|⟨ad,cap,k4,k5,k6,k7⟩
  ·subst k5;simp[qp]at c2;omega
  ·have hlt:i.2.toNat<xs.length:=by simp[qp]at c2;omega
   rw[k4]at hr;rw[qgD (w:=w) hem.under (hE.size t e0 (.inl hty)) c1 (by simpa[qp]using c2)]at hr;obtain⟨q1,q2,cs,q3,q4⟩:=k7 _ _ (zaa hlt);refine qz hr (h.dst0 hd ⟨rfl,ad.add (i.2.toNat*e.size),cs,?_,?_,?_,q3,?_⟩ (fun m hm=>by cases hm))
   ·rw[qbj,hsz];rfl
   ·rw[qam];exact q1
   ·rw[qam];exact q2
   ·rw[qeO (zaa hlt)];exact q4
 obtain⟨os,ov,oa⟩:=x1;cases oa with
 |own et e xs=>
  cases os with
  |none=>simp only[hty]at he;cases he
  |some s=>
   simp only[hty]at he;split at he
   ·rename_i hsz;obtain⟨k1,k2,k3⟩:=ho;exact kOwn s ov none et e xs [] k2.symm k1.symm ⟨_,q8.hdr k3⟩ hsz (Q.yc he).symm
   ·cases he
 |ref s v=>
  cases os;all_goals
   simp only[hty,Q.yd]at he
   split at he
   ·rename_i hv
    have hu:=(ho.unowned rfl).2 hv
    have hu:a.tmps.getD s undef=a.eval x:=hu
    have hat:=h.at_ s
    rw[hu]at hat
    split at he
    ·rename_i et e xs h3
     rw[h3]at hat
     split at he
     ·rename_i hsz
      exact kOwn s v none et e xs [] hv hu ⟨_,q8.hdr hat⟩ hsz (Q.yc he).symm
     ·cases he
    ·rename_i e xs h3
     rw[h3]at hat
     split at he
     ·rename_i hsz
      exact val e xs hat.2 hsz (Q.yc he).symm
     ·cases he
    ·rename_i bv i0 o0 t0 w0 h3
     split at he
     ·rename_i et e xs hrow
      split at he
      ·rename_i hsz
       obtain⟨g,n,cap,b1,b2,b3,_,_,j3,j4,_⟩:=h.holRow h3 hrow
       have e1:a.eval x=.slice (some ⟨g,0,none⟩) n cap:=hu.symm.trans j4
       refine kOwn s v none et e xs [] hv hu ?_ hsz (Q.yc he).symm
       rw[e1]
       exact⟨_,qho.hdr j3⟩
      ·cases he
     ·cases he
    ·cases he
   ·cases he
 |val t' xs=>
  cases t' with
  |slice e=>
   cases os;all_goals
    simp only[hty]at he
    split at he
    ·rename_i hsz
     exact val e xs (ho.unowned rfl).2 hsz (Q.yc he).symm
    ·cases he
  |_=>cases os<;>simp only[hty]at he<;>cases he
 |bref s v off u=>
  cases os;all_goals
   simp only[hty]at he
   split at he
   ·rename_i hag
    rw[Q.yd]at he
    split at he
    ·rename_i hv
     split at he
     ·rename_i et e xs h3
      split at he
      ·rename_i hsz
       have hh:=qg8 (ho.unowned rfl) hag hv
       obtain⟨_,b1,b2,b3,q1,_⟩:=h.rowAt h3 hh
       exact kOwn s v (some off) et e xs b2 hv hh ⟨_,q8.hdr q1⟩ hsz (Q.yc he).symm
      ·cases he
     ·split at he
      ·rename_i bv o1 i0 oo t0 w0 h3
       split at he
       case isFalse=>cases he
       rename_i hoo
       subst hoo
       split at he
       case h_2=>cases he
       rename_i et e xs hrow
       split at he
       case isFalse=>cases he
       rename_i hsz
       have hh:=qg8 (ho.unowned rfl) hag hv
       obtain⟨g,n,cap,b1,b2,b3,_,_,j3,j4,_⟩:=h.holRow h3 hrow
       have e1:a.eval x=.slice (some ⟨g,0,none⟩) n cap:=qc6.inj hh j4
       refine kOwn s v (some o1) et e xs [] hv hh ?_ hsz (Q.yc he).symm
       rw[e1]
       exact⟨_,qho.hdr j3⟩
      ·cases he
    ·cases he
   ·cases he
 |_=>cases os<;>simp only[hty]at he<;>cases he
end
end Go.Vi
