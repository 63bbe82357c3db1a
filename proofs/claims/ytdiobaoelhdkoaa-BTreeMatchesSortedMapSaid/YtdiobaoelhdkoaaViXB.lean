import Derived.Test.YtdiobaoelhdkoaaViXA
import Derived.Laws.CopyRow
import Derived.Laws.StructEq
import Derived.Laws.Strings
import Derived.Laws.Concat
import Derived.Laws.Small
import Derived.Laws.Unary
import Derived.Laws.Slices
import Derived.Laws.Strings2
import Derived.Laws.Strings3
import Derived.Laws.BytesArg
import Derived.Lib.ConvBytes
set_option linter.unusedVariables false
set_option linter.unusedSimpArgs false
set_option linter.unnecessarySimpa false
set_option linter.unusedSectionVars false
open Array renaming length_toList → zaG
open Bool renaming and_eq_true → zad
open Int renaming le_refl → zaF, toNat_natCast → zat
open List renaming append_assoc → zau, append_nil → zaO, drop_eq_getElem_cons → zaB, drop_of_length_le → zaI, drop_zero → zaN, eq_nil_of_length_eq_zero → zaz, getElem?_drop → zav, getElem?_eq_getElem → zac, getElem?_eq_some_iff → zaK, getElem?_take → zap, length_append → zag, length_drop → zal, length_map → zaH, length_take → zae, map_cons → zaC, mem_append → zaf, mem_append_left → zab, mem_append_right → zaa, mem_cons → zak, mem_cons_of_mem → zaj, mem_cons_self → zar, mem_singleton → zah, nil_append → zaR, nodup_append → zai, nodup_cons → zaJ, nodup_nil → zaA, take_append_of_le_length → zas, take_of_length_le → zan
open Nat renaming add_mul → zaS, le_refl → zax, lt_of_lt_of_le → zaq, min_eq_left → zaQ, mul_le_mul_right → zam, zero_add → zaP, zero_le → zaD
open Option renaming isSome_iff_exists → zaE, map_eq_some_iff → zao
namespace Go.Vi
open Go.RowKit
structure TyB (P:Program) (t:Nat) (u:Ty):Prop where
 info:∃i,P.info? t=some i∧i.size=u.size
 desc:∃d,P.underlying t=some d∧(match d with|.struct _=>true|.array _ _=>true|_=>false)=u.agg
structure ElemB (P:Program) (E:Env) (t:Nat) (e:Ty):Prop where
 under:P.underlying t=some (.slice (E.etid t))
 info:∃i z,P.info? (E.etid t)=some i∧i.size=e.size∧i.zero=some z∧z.cells.size=e.size∧i.bytes=E.bytes (E.etid t)
 notInt:∀k,P.underlying t≠some (.int k)
section
variable {P:Program}{w:World}
theorem TyB.run_isAgg {t:Nat}{u:Ty}(h:TyB P t u):(isAgg t).run P w=.ok u.agg w:=by
 obtain⟨d,h1,h2⟩:=h.desc;simp only[isAgg,Sem.run_bind,run_underlying h1,Result.andThen_ok];rw[←h2];cases d<;>rfl
theorem TyB.run_sizeOf {t:Nat}{u:Ty}(h:TyB P t u):(sizeOf t).run P w=.ok u.size w:=by
 obtain⟨i,h1,h2⟩:=h.info;simp[sizeOf,typeInfo,h1,h2]
theorem qcC {t:Nat}{u:Ty}(h:TyB P t u) {a:Addr}{cs:List Value}(hc:qem w a cs) (hl:cs.length=u.size):(Instr.loadAt t (.pointer (some a))).run P w=.ok (mkV u cs) w:=by
 simp only[Instr.loadAt,Instr.sureAddr,loadVar,Sem.run_bind,Sem.run_pure,Result.andThen_ok,h.run_isAgg];cases hu:u.agg with
 |true=>
  simp only[if_true,Sem.run_bind,h.run_sizeOf,Result.andThen_ok];rw[←hl,run_loadCells_list w a cs hc];simp[mkV,hu]
 |false=>
  have hs:u.size=1:=by cases u<;>simp[Ty.agg]at hu<;>rfl
  simp only[Bool.false_eq_true,if_false];match cs,hl.trans hs with
  |[v],_=>
   have hv:=hc 0 v rfl;grind [run_load,Addr.add,mkV]
theorem Rep.oneCell {F:Nat→Prop}: {t:Ty}→{x:t.den}→{cs:List Value}→Rep w F t x cs→∀v∈cs,v.oneCell'=true
 |.int _,_,_,h,v,hv=>by rw[h.1]at hv;simp at hv;subst hv;rfl
 |.bool,_,_,h,v,hv=>by rw[show _=_ from h]at hv;simp at hv;subst hv;rfl
 |.str,_,_,h,v,hv=>by rw[h.1]at hv;simp at hv;subst hv;rfl
 |.err,_,_,⟨u,hc,h⟩,v,hv=>by
  rw[hc]at hv;simp at hv;subst hv;rcases h with⟨_,rfl⟩|⟨_,t,x,rfl⟩<;>rfl
 |.opt e,_,_,⟨u,hc,h⟩,v,hv=>by
  rw[hc]at hv;simp at hv;subst hv;rcases h with⟨_,rfl⟩|⟨_,_,_,_,rfl,_⟩<;>rfl
 |.map _ _,_,_,h,_,_=>h.elim
 |.ptr _ _,_,_,h,_,_=>h.elim
 |.sl _ _,_,_,h,_,_=>h.elim
 |.unit,_,_,h,v,hv=>by rw[show _=_ from h]at hv;cases hv
 |.pair a b,_,_,⟨c1,c2,hc,h1,h2⟩,v,hv=>by
  rw[hc]at hv;rcases zaf.1 hv with hv|hv
  ·exact h1.oneCell v hv
  ·exact h2.oneCell v hv
 |.slice e,_,_,⟨u,hc,h⟩,v,hv=>by
  rw[hc]at hv;simp at hv;subst hv;rcases h with⟨rfl,_⟩|⟨a,cap,rfl,_⟩<;>rfl
 |.arr n e,_,_,⟨hl,css,hcl,hc,hx⟩,v,hv=>by
  rw[hc]at hv;obtain⟨c,hcm,hvc⟩:=List.mem_flatten.1 hv;obtain⟨i,hi,rfl⟩:=List.getElem_of_mem hcm;exact(hx i _ _ (zac (by omega)) (zac hi)).oneCell v hvc
theorem qO.oneCell {F:Nat→Prop}{et:Nat}{e:Ty}{xs:List e.den}{v:Value}{bs:List Nat}(h:qO w F et e xs v bs):v.oneCell'=true:=by
 obtain⟨cells,ho,_⟩:=h;rcases ho.2 with⟨rfl,_⟩|⟨g,cap,cur,rfl,_⟩<;>rfl
theorem qdV {t:Nat}{u:Ty}(h:TyB P t u) {b off:Nat}{v:Value}{cur:Array Value}{te:Nat}(hg:w.heap[b]? =some (.cells cur te (0,0))) (hl:v.cells.toList.length=u.size) (hfit:off+u.size≤cur.size)
  (h1:∀x∈v.cells.toList,x.oneCell'=true):(Instr.storeAt t (ptr b off) v).run P w=.ok () (w.setRow b (cur.toList.take off++v.cells.toList++cur.toList.drop (off+u.size)).toArray):=by
 have hst:=run_storeCells_at P b off te v.cells.toList 0 cur w hg (by omega) h1;rw[zaG]at hl;simp only[Instr.storeAt,Instr.sureAddr,ptr,storeVar,Sem.run_bind,Sem.run_pure,Result.andThen_ok,h.run_sizeOf,hl,ne_eq,not_true_eq_false,if_false];grind
end
section
variable {C:Ctx}{E:Env}{σ:St}{tm:Array Value}{a:Act}{w w':World}{own:Own}{o:Oper} [Tabbed E C]
def qt8 (o:Oper) (a a':Act):Prop:=a'.defers=a.defers∧∀s,o.dst≠some s→a'.tmps.getD s undef=a.tmps.getD s undef
theorem qeg (o:Oper) (a:Act) (v:Value):qt8 o a (a.put o.dst v):=by
 unfold qt8 Act.put;grind [qay]
def qb5 (C:Ctx) (o:Oper) (a:Act) (w:World) (τ:St):Prop:=
 ∀(K:Act→World→Prop) (Q:Exit→Act→World→Prop),(∀a' w' own',qt8 o a a'→qK C τ a'.tmps w' own'→K a' w')→o.wp C.P a w K Q
theorem qt {v:Value}{τ:St}(hr:(execOp a.eval o).run C.P w=.ok (.value v) w') (h:∃own',qK C τ (a.put o.dst v).tmps w' own'):qb5 C o a w τ:=by
 intro K Q hK;obtain⟨own',h⟩:=h;unfold Oper.wp;rw[hr];exact hK _ _ own' (qeg o a v) h
theorem qK.dst (h:qK C σ a.tmps w own) (hk:qaA (fun _=>False) w w') {av:AV}{v:Value}{bs:List Nat}(hd:∀u∈qaL o av,u.s<σ.length) (hb:∀b∈bs,w.heap.size≤b∧b<w'.heap.size) (hn:bs.Nodup)
  (hr:qS (after C σ a.tmps w w' own bs) av v bs) (hw:∀m∈av.mentions,m.2≤(qj σ m.1).1) (hih:av.isHeap=false:=by rfl):∃own',qK C (qh σ (qaL o av)) (a.put o.dst v).tmps w' own':=by
 unfold qaL at *
 cases hdst:o.dst with
 |none=>exact⟨own,h.world hk⟩
 |some d=>
  rw[hdst]at hd;exact⟨_,h.set (d:=d) hk (hd ⟨d,true,av⟩ (by simp)) hb hn hr hw hih⟩
theorem qK.dst0 (h:qK C σ a.tmps w own) {av:AV}{v:Value}(hd:∀u∈qaL o av,u.s<σ.length) (hr:qS (sit C σ a.tmps w own) av v []) (hw:∀m∈av.mentions,m.2≤(qj σ m.1).1) (hih:av.isHeap=false:=by rfl):
  ∃own',qK C (qh σ (qaL o av)) (a.put o.dst v).tmps w own':=
 h.dst (qaA.refl _ _) hd (fun b hb=>by cases hb) zaA
  (qS.keep (X:=sit C σ a.tmps w own) (X':=after C σ a.tmps w w own []) ⟨rfl,rfl,qaJ.refl _,fun _=>rfl⟩ (fun b hb hlt=>⟨⟨.inl hb,hlt,by simp⟩,hlt,rfl⟩) (fun b hb=>by cases hb) (fun m _ hv=>⟨hv,rfl,fun b hb _=>⟨hb,rfl⟩⟩) hr) hw hih
theorem qaH (h:qK C σ a.tmps w own) {t:Ty}{x:t.den}{v:Value}(hr:(execOp a.eval o).run C.P w=.ok (.value v) w) (hd:∀u∈qaL o (.val t x),u.s<σ.length) (hv:q9 w (C.free w own) t x v):qb5 C o a w (qh σ (qaL o (.val t x))):=
 qt hr (h.dst0 hd ⟨rfl,hv⟩ (fun m hm=>by cases hm))
theorem qhE (p:qdU):(a:AV)→∀m∈(qav p a).mentions,m∈a.mentions
 |.grd s v w a,m,hm=>by
  unfold qav at hm;split at hm
  ·exact zaj _ (qhE p a m hm)
  ·cases hm
 |.undef,_,h=>by grind [qav]
 |.val _ _,_,h=>by grind [qav]
 |.own _ _ _,_,h=>by grind [qav]
 |.agg _,_,h=>by grind [qav]
 |.box _,_,h=>by grind [qav]
 |.ref _ _,_,h=>by grind [qav]
 |.bref _ _ _ _,_,h=>by grind [qav]
 |.pbox _ _ _,_,h=>by grind [qav]
 |.pip _ _,_,h=>by grind [qav]
 |.prow _ _ _ _ _ _,_,h=>by grind [qav]
 |.osl _ _ _ _ _ _,_,h=>by grind [qav]
 |.view _ _ _,_,h=>by grind [qav]
 |.tup _,_,h=>by grind [qav]
 |.fn _ _,_,h=>by grind [qav]
 |.fnv _ _ _,_,h=>by grind [qav]
 |.amb _ _,_,h=>by grind [qav]
 |.nilr _ _,_,h=>by grind [qav]
 |.nz _ _,_,h=>by grind [qav]
 |.mp _ _ _,_,h=>by grind [qav]
 |.hv _ _,_,h=>by grind [qav]
 |.hbox _ _,_,h=>by grind [qav]
 |.hown _ _ _,_,h=>by grind [qav]
 |.heap _,_,h=>by grind [qav]
 |.hp _ _ _ _ _,_,h=>by grind [qav]
 |.htup _ _,_,h=>by grind [qav]
 |.hclo _ _ _,_,h=>by grind [qav]
 |.hfnv _ _ _ _,_,h=>by grind [qav]
 |.hls _ _ _ _,_,h=>by unfold qav at h;exact h
 |.hifc _ _ _ _,_,h=>by unfold qav at h;exact h
 |.parr _ _ _ _ _ _ _,_,h=>by unfold qav at h;exact h
theorem qjS {E:Env}{tid:Nat}{c:Value}{a:AV}(h:qkH E tid c=some a):a.mentions=[]:=by
 unfold qkH at h;split at h
 ·split at h
  ·injection h with h;subst h;rfl
  ·cases h
 ·injection h with h;subst h;rfl
 ·split at h
  ·injection h with h;subst h;rfl
  ·cases h
 ·split at h
  ·injection h with h;subst h;rfl
  ·split at h
   ·split at h<;>(injection h with h;subst h;rfl)
   ·cases h
 ·split at h
  ·injection h with h;subst h;rfl
  ·cases h
 ·split at h
  ·injection h with h;subst h;rfl
  ·split at h
   ·injection h with h;subst h;rfl
   ·cases h
 ·split at h
  ·split at h
   ·split at h
    ·injection h with h;subst h;rfl
    ·cases h
   ·cases h
  ·cases h
 ·cases h
theorem qqi (h:qK C σ tm w own) {p:qdU}{tid:Nat}{x:Operand}{o1:Op1}(ho:(opd E p tid x).run (qj σ)=some o1):∀m∈o1.a.mentions,m.2≤(qj σ m.1).1:=by
 intro m hm;unfold opd at ho;split at ho
 ·rw[Q.yc]at ho;have:=Q.yb ho;subst this;exact h.wf _ m (qhE p _ m hm)
 ·split at ho
  ·grind [Q.yb,qjS]
  ·cases ho
 ·have:=Q.yb ho;subst this;cases hm
 ·split at ho
  ·have:=Q.yb ho;subst this;cases hm
  ·cases ho
theorem qS.unowned {X:Sit}{a:AV}{v:Value}{bs:List Nat}(hu:a.unowned=true) (h:qS X a v bs):qS X a v []:=by
 cases a with
 |undef=>trivial
 |val t x=>exact⟨rfl,h.2⟩
 |own et e xs=>cases hu
 |agg c=>cases hu
 |box c=>cases hu
 |tup c=>cases hu
 |ref a b=>exact⟨rfl,h.2⟩
 |bref a b c d=>exact⟨rfl,h.2⟩
 |pbox a b c=>exact⟨rfl,h.2⟩
 |pip a b=>exact⟨rfl,h.2⟩
 |prow a b c d e f=>exact⟨rfl,h.2⟩
 |osl a b c d e f=>exact⟨rfl,h.2⟩
 |view a b c=>exact⟨rfl,h.2⟩
 |grd a b c d=>exact⟨rfl,h.2⟩
 |fn a b=>exact⟨rfl,h.2⟩
 |fnv a b c=>exact⟨rfl,h.2⟩
 |amb a b=>exact⟨rfl,h.2⟩
 |nilr a b=>exact⟨rfl,h.2⟩
 |nz a b=>exact⟨rfl,h.2⟩
 |mp a b c=>cases hu
 |hv a b=>exact⟨rfl,h.2⟩
 |hbox a b=>cases hu
 |hown a b c=>cases hu
 |heap a=>cases hu
 |hp a b c d e=>exact⟨rfl,h.2⟩
 |htup a b=>exact⟨rfl,h.2⟩
 |hclo a b c=>exact⟨rfl,h.2⟩
 |hfnv a b c d=>exact⟨rfl,h.2⟩
 |hls a b c d=>exact⟨rfl,h.2⟩
 |hifc a b c d=>exact⟨rfl,h.2⟩
 |parr a b c d e f g=>exact⟨rfl,h.2⟩
theorem qaC.unowned {X:Sit}{o1:Op1}{v:Value}(h:qaC X o1 v) (hu:o1.a.unowned=true):qS X o1.a v []:=by
 unfold qaC at h;split at h
 ·exact h.2.2.unowned hu
 ·exact h
theorem qK.transfer (h:qK C σ tm w own) {s d:Nat}(hs:s<σ.length) (hd:d<σ.length) (hne:s≠d) {av av':AV}(hav:qS (sit C σ tm w own) av (tm.getD s undef) (own s)) (hm:av.mentions=[])
  (hav':∀X:Sit,X.ver d=(qj σ d).1+1→X.tm d=tm.getD s undef→qS X av' (tm.getD s undef) []) (hm':∀m∈av'.mentions,m=(d,(qj σ d).1+1)) (hih:av.isHeap=false:=by rfl) (hih':av'.isHeap=false:=by rfl):
  ∃own',qK C (qh σ [⟨d,true,av⟩,⟨s,true,av'⟩]) (tm.setIfInBounds d (tm.getD s undef)) w own':=by
 have eD:qj (qh σ [⟨d,true,av⟩,⟨s,true,av'⟩]) d=((qj σ d).1+1,av):=by
  show qj (qG (qG σ ⟨d,true,av⟩) ⟨s,true,av'⟩) d=_;grind [qw,qD]
 have eS:qj (qh σ [⟨d,true,av⟩,⟨s,true,av'⟩]) s=((qj σ s).1+1,av'):=by
  show qj (qG (qG σ ⟨d,true,av⟩) ⟨s,true,av'⟩) s=_;grind [qD,qw,qG]
 have eO:∀x,x≠s→x≠d→qj (qh σ [⟨d,true,av⟩,⟨s,true,av'⟩]) x=qj σ x:=fun x h1 h2=>by
  show qj (qG (qG σ ⟨d,true,av⟩) ⟨s,true,av'⟩) x=_;grind [qw]
 have tD:(tm.setIfInBounds d (tm.getD s undef)).getD d undef=tm.getD s undef:=qbn tm _ (by rw[h.size];exact hd);have tS:(tm.setIfInBounds d (tm.getD s undef)).getD s undef=tm.getD s undef:=qay tm _ hne;let own':Own:=⟨fun x=>if x=d then own s else if x=s then[]else own x,own.gh⟩;have oD:own' d=own s:=by simp[own']
 have oS:own' s=[]:=by grind
 refine⟨own',h.update (fun x=>x=s∨x=d) (qB _ _) (by simp) ?_ ?_ (qaA.refl _ _) ?_ ?_ ?_ ?_ ?_ ?_⟩
 ·grind [qay]
 ·grind
 ·omega
 ·rintro x (rfl|rfl)
  ·grind
  ·rw[oD];exact⟨fun b hb=>.inr ⟨s,.inl rfl,hb⟩,h.nodup s⟩
 ·grind
 ·have hfree:∀b,C.free w own b→C.free w own' b:=fun b hb=>⟨hb.1,hb.2.1,fun x hx=>by
   simp only[own']at hx;split at hx
   ·exact hb.2.2 s hx
   ·split at hx
    ·cases hx
    ·exact hb.2.2 x hx⟩
  rintro x (rfl|rfl)
  ·rw[eS,tS,oS];exact hav' _ (by show(qj _ d).1=_;rw[eD]) tD
  ·rw[eD,tD,oD];refine qS.keep (X:=sit C σ tm w own) (X':=sit C _ _ w own') ⟨rfl,rfl,qaJ.refl _,fun _=>rfl⟩ (fun b hb hlt=>⟨hfree b hb,hlt,rfl⟩) (fun _ _ _=>rfl) (fun m hmm=>by grind) hav
 all_goals grind
end
end Go.Vi
namespace Go.Vi
open Go.RowKit
def tyB (P:Program) (u:Ty) (t:Nat):Bool:=(match P.info? t with
 |some i=>decide (i.size=u.size)
 |none=>false)&&(match P.underlying t with
 |some d=>decide ((match d with|.struct _=>true|.array _ _=>true|_=>false)=u.agg)
 |none=>false)
theorem qus {P:Program}{u:Ty}{t:Nat}(h:tyB P u t=true):TyB P t u:=by
 unfold tyB at h;simp only[zad]at h;obtain⟨h1,h2⟩:=h;split at h1
 ·rename_i i hi;split at h2
  ·rename_i d hd;exact⟨⟨i,hi,of_decide_eq_true h1⟩,d,hd,of_decide_eq_true h2⟩
  ·cases h2
 ·cases h1
theorem TyB.part_ok {P:Program}{w:World}{t:Nat}{u:Ty}(h:TyB P t u) {cs:List Value}{off:Nat}(hl:off+u.size≤cs.length):(part t cs.toArray off).run P w=.ok (mkV u ((cs.drop off).take u.size)) w:=by
 simp only[part,Sem.run_bind,h.run_isAgg,Result.andThen_ok];cases hu:u.agg with
 |true=>
  simp only[if_true,Sem.run_bind,h.run_sizeOf,Result.andThen_ok,Sem.run_pure,mkV,hu];grind
 |false=>
  have hs:u.size=1:=by cases u<;>simp[Ty.agg]at hu<;>rfl
  grind [zaB,Sem.run_pure,mkV]
def qtB (P:Program) (a:Nat→Bool) (ta:Ty) (b:List Field→Nat→Bool):List Field→Nat→Bool
 |f::r,off=>decide (f.offset=off)&&(decide (f.name≠ "_")&&(tyB P ta f.type&&(a f.type&&b r (off+ta.size))))
 |[],_=>false
def qhZ (P:Program):Ty→(Nat→Bool)×(List Field→Nat→Bool)
 |.int k=>(fun t=>match P.underlying t with
  |some (.int k')=>decide (k'=k)
  |_=>false,fun _ _=>false)
 |.bool=>(fun t=>match P.underlying t with
  |some .bool=>true
  |_=>false,fun _ _=>false)
 |.str=>(fun t=>match P.underlying t with
  |some .string=>true
  |_=>false,fun _ _=>false)
 |.err=>(fun _=>false,fun _ _=>false)
 |.opt _=>(fun _=>false,fun _ _=>false)
 |.map _ _=>(fun _=>false,fun _ _=>false)
 |.ptr _ _=>(fun _=>false,fun _ _=>false)
 |.sl _ _=>(fun _=>false,fun _ _=>false)
 |.unit=>(fun t=>match P.underlying t with
  |some (.struct fs)=>fs.toList.isEmpty&& !(P.stoodInHeld t)
  |_=>false,fun fs _=>fs.isEmpty)
 |.pair a b=>(fun t=>match P.underlying t with
  |some (.struct fs)=>qtB P (qhZ P a).1 a (qhZ P b).2 fs.toList 0&& !(P.stoodInHeld t)
  |_=>false,qtB P (qhZ P a).1 a (qhZ P b).2)
 |.slice _=>(fun _=>false,fun _ _=>false)
 |.arr _ _=>(fun _=>false,fun _ _=>false)
def Ty.height:Ty→Nat
 |.pair a b=>a.height+b.height+1
 |_=>1
theorem qtX (a b:Ty) (x y:(Ty.pair a b).den):(Ty.pair a b).eqb x y=(a.eqb x.1 y.1&&b.eqb x.2 y.2):=by
 cases b<;>simp[Ty.eqb]
theorem qkl {P:Program}{t:Nat}{fs:Array Field}(h:P.underlying t=some (.struct fs)):P.fieldsOf t=fs:=by simp[Program.fieldsOf,h]
theorem qm6 {P:Program}{w:World}{F F':Nat→Prop}:(u:Ty)→
  (∀(d t:Nat) (x y:u.den) (cs ds:List Value),u.height<d→(qhZ P u).1 t=true→Rep w F u x cs→Rep w F' u y ds→(Op.equalIn d t (mkV u cs) (mkV u ds)).run P w=.ok (u.eqb x y) w)∧
  (∀(d:Nat) (fs:List Field) (off:Nat) (x y:u.den) (cs ds:List Value),u.height≤d→(qhZ P u).2 fs off=true→cs.length=off+u.size→ds.length=off+u.size→Rep w F u x (cs.drop off)→Rep w F' u y (ds.drop off)→(Op.eqFields d cs.toArray ds.toArray fs).run P w=.ok (u.eqb x y) w)
 |.int k=>by
  refine⟨fun d t x y cs ds hd h h1 h2=>?_,fun d fs off x y cs ds _ h=>by cases h⟩;simp only[qhZ]at h;split at h
  ·rename_i k' hu;obtain⟨rfl,_⟩:=h1;obtain⟨rfl,_⟩:=h2;cases d with
   |zero=>omega
   |succ d=>
    rw[show(Ty.int k).eqb x y=(x==y)from qcc x y];exact run_equalIn_int w d t k k' x y hu
  ·cases h
 |.bool=>by
  refine⟨fun d t x y cs ds hd h h1 h2=>?_,fun d fs off x y cs ds _ h=>by cases h⟩;simp only[qhZ]at h;split at h
  ·rename_i hu;have h1:cs=_:=h1;have h2:ds=_:=h2;subst h1;subst h2;cases d with
   |zero=>omega
   |succ d=>
    rw[show Ty.bool.eqb x y=(x==y)from qlo x y];exact run_equalIn_bool' w d t x y hu
  ·cases h
 |.err=>⟨fun d t x y cs ds hd h h1 h2=>(by cases h),fun d fs off x y cs ds _ h=>by cases h⟩
 |.opt _=>⟨fun d t x y cs ds hd h h1 h2=>(by cases h),fun d fs off x y cs ds _ h=>by cases h⟩
 |.map _ _=>⟨fun d t x y cs ds hd h h1 h2=>(by cases h),fun d fs off x y cs ds _ h=>by cases h⟩
 |.ptr _ _=>⟨fun d t x y cs ds hd h h1 h2=>(by cases h),fun d fs off x y cs ds _ h=>by cases h⟩
 |.sl _ _=>⟨fun d t x y cs ds hd h h1 h2=>(by cases h),fun d fs off x y cs ds _ h=>by cases h⟩
 |.str=>by
  refine⟨fun d t x y cs ds hd h h1 h2=>?_,fun d fs off x y cs ds _ h=>by cases h⟩;simp only[qhZ]at h;split at h
  ·rename_i hu;obtain⟨rfl,_⟩:=h1;obtain⟨rfl,_⟩:=h2;cases d with
   |zero=>omega
   |succ d=>
    have:=run_equalIn_string w d t ⟨x.toArray⟩ ⟨y.toArray⟩ hu;rw[ByteArray.toList_eq,ByteArray.toList_eq]at this;rw[show Ty.str.eqb x y=(x==y)from qpn x y];exact this
  ·cases h
 |.unit=>by
  refine⟨fun d t x y cs ds hd h h1 h2=>?_,fun d fs off x y cs ds _ h _ _ _ _=>?_⟩
  ·simp only[qhZ]at h;split at h
   ·rename_i fs hu;simp only[zad,Bool.not_eq_true']at h;cases d with
    |zero=>omega
    |succ d=>
     have hf:=qkl hu;show(Op.equalIn (d+1) t (.agg cs.toArray) (.agg ds.toArray)).run P w=_;rw[run_equalIn_struct w d t _ _ (by grind) h.2,hf];have:fs.toList=[]:=by simpa using h.1
     rw[this];rfl
   ·cases h
  ·have:fs=[]:=by simpa[qhZ]using h
   subst this;rfl
 |.pair a b=>by
  obtain⟨ha,_⟩:=qm6 (P:=P) (w:=w) (F:=F) (F':=F') a;obtain⟨_,hb⟩:=qm6 (P:=P) (w:=w) (F:=F) (F':=F') b;have fld:∀(d:Nat) (fs:List Field) (off:Nat) (x y:(Ty.pair a b).den) (cs ds:List Value),(Ty.pair a b).height≤d→qtB P (qhZ P a).1 a (qhZ P b).2 fs off=true→cs.length=off+(a.size+b.size)→ds.length=off+(a.size+b.size)→Rep w F (.pair a b) x (cs.drop off)→Rep w F' (.pair a b) y (ds.drop off)→(Op.eqFields d cs.toArray ds.toArray fs).run P w=.ok ((Ty.pair a b).eqb x y) w:=by
   intro d fs off x y cs ds hd h hcl hdl h1 h2;cases fs with
   |nil=>cases h
   |cons f r=>
    simp only[qtB,zad,decide_eq_true_eq]at h;obtain⟨g1,g2,g3,g4,g5⟩:=h;obtain⟨c1,c2,e1,r1,r2⟩:=h1;obtain⟨d1,d2,e2,q1,q2⟩:=h2;have hl1:=r1.length;have hl2:=q1.length;have hh:a.height+b.height+1≤d:=hd;have t1:(cs.drop off).take a.size=c1:=by grind
    have t2:(ds.drop off).take a.size=d1:=by grind
    have t3:cs.drop (off+a.size)=c2:=by rw[←List.drop_drop,e1,List.drop_left' hl1]
    have t4:ds.drop (off+a.size)=d2:=by rw[←List.drop_drop,e2,List.drop_left' hl2]
    have p1:=(qus g3).part_ok (w:=w) (cs:=cs) (off:=off) (by omega);have p2:=(qus g3).part_ok (w:=w) (cs:=ds) (off:=off) (by omega);rw[t1]at p1;rw[t2]at p2;have hea:=ha d f.type x.1 y.1 c1 d1 (by omega) g4 r1 q1;have heb:=hb d r (off+a.size) x.2 y.2 cs ds (by omega) g5 (by omega) (by omega) (by grind) (by grind);rw[qtX];simp only[Op.eqFields,g1,if_pos g2,Sem.run_bind,p1,p2,hea,Result.andThen_ok,Sem.run_ite];cases hx:a.eqb x.1 y.1 with
    |true=>simpa using heb
    |false=>simp
  refine⟨fun d t x y cs ds hd h h1 h2=>?_,fld⟩;simp only[qhZ]at h;split at h
  ·rename_i fs hu;simp only[zad,Bool.not_eq_true']at h;cases d with
   |zero=>omega
   |succ d=>
    have hf:=qkl hu;show(Op.equalIn (d+1) t (.agg cs.toArray) (.agg ds.toArray)).run P w=_;rw[run_equalIn_struct w d t _ _ (by grind) h.2,hf];have l1:=h1.length;have l2:=h2.length;exact fld d fs.toList 0 x y cs ds (by omega) h.1 (by rw[l1];simp[Ty.size]) (by rw[l2];simp[Ty.size]) h1 h2
  ·cases h
 |.slice _=>⟨fun _ _ _ _ _ _ _ h=>(by cases h),fun _ _ _ _ _ _ _ _ h=>(by cases h)⟩
 |.arr _ _=>⟨fun _ _ _ _ _ _ _ h=>(by cases h),fun _ _ _ _ _ _ _ _ h=>(by cases h)⟩
structure EqB (P:Program) (t:Nat) (u:Ty):Prop where
 run:∀(w:World) (F F':Nat→Prop) (x y:u.den) (cs ds:List Value),Rep w F u x cs→Rep w F' u y ds→(Op.equalIn 10000 t (mkV u cs) (mkV u ds)).run P w=.ok (u.eqb x y) w
 guard:P.eqGuardType P.depth t=false
def qvf (P:Program) (u:Ty) (t:Nat):Bool:=(qhZ P u).1 t&&(decide (u.height<10000)&& !(P.eqGuardType P.depth t))
theorem qt1 {P:Program}{u:Ty}{t:Nat}(h:qvf P u t=true):EqB P t u:=by
 simp only[qvf,zad,decide_eq_true_eq,Bool.not_eq_true']at h;exact⟨fun w F F' x y cs ds h1 h2=>(qm6 u).1 10000 t x y cs ds h.2.1 h.1 h1 h2,h.2.2⟩
end Go.Vi
namespace Go.Vi
open Go.RowKit
section
variable {C:Ctx}{E:Env}{σ:St}{a:Act}{w w':World}{own:Own}{o:Oper} [Tabbed E C]
theorem qE {us:List U}{f:Eff}{lk:Nat→Ent}(h:(okE us).run lk=some f):f=⟨us,[]⟩:=(Q.yb h).symm
theorem qdG (a:Act) {d:Nat}(h:o.dst=some d) (v:Value):(a.put o.dst v).tmps=a.tmps.setIfInBounds d v:=by rw[h];rfl
theorem qqe (h:qK C σ a.tmps w own) {x1:Op1}{v:Value}(ho:qaC (sit C σ a.tmps w own) x1 v) (hw:∀m∈x1.a.mentions,m.2≤(qj σ m.1).1) (hs:∀s,x1.s=some s→x1.a≠ .undef→s<σ.length) {as:Bool}{f:Eff}(hpt:qpW (sit C σ a.tmps w own)) (hpn:∀k∈E.pins,∃b,C.pn k=some b)
  (he:(qrw E.pins o as x1).run (qj σ)=some f) (hd:∀u∈f.upd,u.s<σ.length) (hr:(execOp a.eval o).run C.P w=.ok (.value v) w):qb5 C o a w (qh σ f.upd):=by
 obtain⟨os,ov,oa⟩:=x1;have trans:∀(s d:Nat) (av av':AV),os=some s→oa=av→o.dst=some d→s≠d→f.upd=[⟨d,true,av⟩,⟨s,true,av'⟩]→av.mentions=[]→
   (∀X:Sit,X.ver d=(qj σ d).1+1→X.tm d=a.tmps.getD s undef→qS X av' (a.tmps.getD s undef) [])→(∀m∈av'.mentions,m=(d,(qj σ d).1+1))→av.isHeap=false→av'.isHeap=false→qb5 C o a w (qh σ f.upd):=by
  intro s d av av' h1 h2 h3 h4 h5 h6 h7 h8 h9 h10;subst h1;subst h2;obtain⟨e1,e2,e3⟩:=ho;rw[h5]at hd⊢
  refine qt hr ?_;rw[qdG a h3,e1];exact h.transfer (hd ⟨s,true,av'⟩ (by simp)) (hd ⟨d,true,oa⟩ (by simp)) h4 (by have e4:=e3;rw[e1]at e4;exact e4) h6 h7 h8 h9 h10
 unfold qrw at he;split at he
 ·rename_i s et e xs h1 h2;simp only at h1 h2;subst h1;subst h2;split at he
  ·split at he
   ·rename_i d hdst;split at he
    ·cases he
    ·rename_i hne;rw[Q.yc]at he;have:=qE he;subst this;exact trans s d _ _ rfl rfl hdst hne rfl rfl (fun X h1 h2=>⟨rfl,fun _=>h2⟩) (fun m hm=>by simpa[AV.mentions]using hm) rfl rfl
   ·cases he
  ·have:=qE he;subst this;obtain⟨e1,e2,e3⟩:=ho;refine qt hr (h.dst0 hd ⟨rfl,fun _=>e1.symm⟩ (fun m hm=>?_));simp[AV.mentions]at hm;subst hm;exact Nat.le_of_eq e2
 ·rename_i s et e xs h1 h2;simp only at h1 h2;subst h1;subst h2;split at he
  ·split at he
   ·rename_i d hdst;split at he
    ·cases he
    ·rename_i hne;rw[Q.yc]at he;have:=qE he;subst this;exact trans s d _ _ rfl rfl hdst hne rfl rfl (fun X h1 h2=>⟨rfl,fun _=>h2⟩) (fun m hm=>by simpa[AV.mentions]using hm) rfl rfl
   ·cases he
  ·have:=qE he;subst this;obtain⟨e1,e2,e3⟩:=ho;refine qt hr (h.dst0 hd ⟨rfl,fun _=>e1.symm⟩ (fun m hm=>?_));simp[AV.mentions]at hm;subst hm;exact Nat.le_of_eq e2
 ·rename_i s c h1 h2;simp only at h1 h2;subst h1;subst h2;have hbox:∃b,v=ptr b 0:=by
   obtain⟨_,_,b,_,_,_,e,_⟩:=ho;grind
  split at he
  ·rename_i hpin;have:=qE he;subst this;obtain⟨b,hb⟩:=hpn s (by grind);have h1:=hpt s b hb;obtain⟨e1,_,_⟩:=ho;exact qt hr (h.dst0 hd ⟨rfl,b,hb,by grind⟩ (fun m hm=>by cases hm))
  split at he
  ·split at he
   ·rename_i d hdst;split at he
    ·cases he
    ·rename_i hne;rw[Q.yc]at he;have:=qE he;subst this;obtain⟨b,hb⟩:=hbox;have hv:a.tmps.getD s undef=ptr b 0:=by rw[←hb];exact ho.1.symm
     exact trans s d _ _ rfl rfl hdst hne rfl rfl (fun X h1 h2=>⟨rfl,fun _=>⟨b,by rw[h2,hv],hv⟩⟩) (fun m hm=>by simpa[AV.mentions]using hm) rfl rfl
   ·cases he
  ·have:=qE he;subst this;obtain⟨e1,e2,e3⟩:=ho;obtain⟨b,hb⟩:=hbox;refine qt hr (h.dst0 hd ⟨rfl,fun _=>⟨b,by grind,hb⟩⟩ (fun m hm=>?_));simp[AV.mentions]at hm;subst hm;exact Nat.le_of_eq e2
 ·rename_i s c h1 h2;simp only at h1 h2;subst h1;subst h2;split at he
  ·rename_i d hdst;split at he
   ·cases he
   ·rename_i hne;have:=qE he;subst this;exact trans s d _ _ rfl rfl hdst hne rfl rfl (fun X h1 h2=>trivial) (fun m hm=>by cases hm) rfl rfl
  ·cases he
 ·rename_i s c h1 h2;simp only at h1 h2;subst h1;subst h2;split at he
  ·rename_i d hdst;split at he
   ·cases he
   ·rename_i hne;have:=qE he;subst this;exact trans s d _ _ rfl rfl hdst hne rfl rfl (fun X h1 h2=>trivial) (fun m hm=>by cases hm) rfl rfl
  ·cases he
 ·rename_i et e xs h1 h2;simp only at h1 h2;subst h1;subst h2;have:=qE he;subst this;exact qt hr (h.dst0 hd ho (fun m hm=>by cases hm))
 ·rename_i s v0 h2;simp only at h2;subst h2;split at he
  ·rename_i hcond;simp only[zad,beq_iff_eq]at hcond;rw[Q.yc]at he;split at he
   ·rename_i hv;have:=qE he;subst this;have hu:a.tmps.getD s undef=v:=(ho.unowned rfl).2 hv;refine qt hr ⟨own,?_⟩;have e:(a.put o.dst v).tmps=a.tmps:=by
     rw[qdG a hcond.2,←hu];apply Array.ext';rw[Array.toList_setIfInBounds];by_cases hl:s<a.tmps.size
     ·rw[Array.getD_eq_getD_getElem?,Array.getElem?_eq_getElem hl,Option.getD_some];exact List.set_getElem_self (by simpa using hl)
     grind [List.set_eq_of_length_le]
    show qK C σ _ w own;rw[e];exact h
   ·cases he
  ·have:=qE he;subst this;exact qt hr (h.dst0 hd (ho.unowned rfl) hw)
 ·split at he
  ·rename_i hu;have:=qE he;subst this;exact qt hr (h.dst0 hd (ho.unowned hu) hw (AV.yp hu))
  ·cases he
theorem qeU (h:qK C σ a.tmps w own) (hpt:qpW (sit C σ a.tmps w own)) {x1:Op1}{v:Value}(ho:qaC (sit C σ a.tmps w own) x1 v) {s off:Nat}{v0:Option Nat}(hb:qf7 x1=some (s,v0,off)) (hv:vOk (qj σ s).1 v0=true):∃b,a.tmps.getD s undef=ptr b 0∧v=ptr b off∧(v0=none→C.pn s=some b):=by
 obtain⟨os,ov,oa⟩:=x1;unfold qf7 at hb;split at hb
 ·rename_i s' c h1 h2;simp only at h1 h2;subst h1;subst h2;injection hb with hb;injection hb with h3 h4;injection h4 with h4 h5;subst h3;subst h5;obtain⟨e1,_,b,_,_,_,e2,_⟩:=ho;exact⟨b,by rw[←e2];exact e1.symm,e2,fun h=>by grind⟩
 ·rename_i s' v' off' h2;simp only at h2;subst h2;injection hb with hb;injection hb with h3 h4;injection h4 with h4 h5;subst h3;subst h4;subst h5;obtain⟨b,k1,k2⟩:=(ho.unowned rfl).2 (of_decide_eq_true hv);exact⟨b,k1,k2,fun h=>by cases h⟩
 ·rename_i k' off' h2;simp only at h2;subst h2;injection hb with hb;injection hb with h3 h4;injection h4 with h4 h5;subst h3;subst h4;subst h5;obtain⟨_,b,k1,k2⟩:=ho.unowned rfl;exact⟨b,hpt _ b k1,k2,fun _=>k1⟩
 ·cases hb
theorem qng {v0:Option Nat}{s off b:Nat}{v:Value}(h:qK C σ a.tmps w own) (hv:vOk (qj σ s).1 v0=true) (h1:a.tmps.getD s undef=ptr b 0) (h2:v=ptr b off) (h3:v0=none→C.pn s=some b):
  qS (sit C σ a.tmps w own) (qpq s off v0) v []∧∀m∈(qpq s off v0).mentions,m.2≤(qj σ m.1).1:=by
 cases v0 with
 |some v0=>
  refine⟨⟨rfl,fun _=>⟨b,h1,h2⟩⟩,fun m hm=>?_⟩;simp[qpq,AV.mentions]at hm;subst hm;exact Nat.le_of_eq (of_decide_eq_true hv).symm
 |none=>exact⟨⟨rfl,b,h3 rfl,h2⟩,fun m hm=>by cases hm⟩
theorem qK.box (h:qK C σ a.tmps w own) {s:Nat}{c:BC}(hc:(qj σ s).2=.box c):∃(b:Nat) (cs:List Value) (bs':List Nat) (te:Nat),a.tmps.getD s undef=ptr b 0∧w.heap[b]? =some (.cells cs.toArray te (0,0))∧qaz w (C.free w own) c cs bs'∧own s=b::bs':=by
 have:=h.at_ s;rw[hc]at this;exact this
theorem qdC {b b' off off':Nat}(h:ptr b off=ptr b' off'):b=b'∧off=off':=by
 grind [ptr]
theorem qek {b:Nat}{cs:List Value}{te:Nat}(h:w.heap[b]? =some (.cells cs.toArray te (0,0))) (j:Nat):w.cell? ⟨b,j,none⟩=cs[j]? :=by simp[World.cell?,h]
theorem qff {b off n:Nat}{cs:List Value}{te:Nat}(h:w.heap[b]? =some (.cells cs.toArray te (0,0))):qem w ⟨b,off,none⟩ ((cs.drop off).take n):=by
 intro j u hj;grind [qx,qek]
def Lay (P:Program):List Field→Ty→Nat→Prop
 |[],.unit,_=>True
 |f::fs,.pair a b,off=>f.offset=off∧(∀w,(sizeOf f.type).run P w=.ok a.size w)∧Lay P fs b (off+a.size)
 |_,_,_=>False
def Ty.struct:Ty→Bool
 |.unit=>true
 |.pair _ _=>true
 |_=>false
def qi3:Ty→TypeDesc→Bool
 |.int k,.int k'=>decide (k'=k)
 |.bool,.bool=>true
 |.str,.string=>true
 |_,_=>false
structure LsTy (P:Program) (t0 t1 t2:Nat):Prop where
 pair:TyB P t0 (.pair .bool (.pair .bool .unit))
 fst:TyB P t1 .bool
 snd:TyB P t2 .bool
 fields:∃fs f0 f1 i0 i1,P.underlying t0=some (.struct fs)∧fs[0]? =some f0∧fs[1]? =some f1∧f0.offset=0∧f1.offset=1∧P.info? f0.type=some i0∧i0.size≠0∧P.info? f1.type=some i1∧i1.size≠0
structure HEnvOk (E:Env) (P:Program):Prop where
 ty:∀t u,E.hty t=some u→TyB P t u
 sl:∀t k sz,E.hty t=some (.sl k sz)→P.underlying t=some (.slice (E.etid t))∧(sizeOf (E.etid t)).run P=fun w=>.ok sz w
 zero:∀t u,E.hty t=some u→∃i z,P.info? t=some i∧i.zero=some z∧∀w F gh,qa6 w F gh u u.dflt z.cells.toList
 ptr:∀t k sz,E.hty t=some (.ptr k sz)→∃u,P.underlying t=some (.pointer u)∧(sizeOf u).run P=fun w=>.ok sz w
 elem:∀t k sz,E.hty t=some (.sl k sz)→∃i z,P.info? (E.etid t)=some i∧i.size=sz∧i.zero=some z∧z.cells.size=sz∧i.bytes=E.bytes (E.etid t)
 struct:∀t T,E.hty t=some T→T.struct=true→∃fs z i,P.underlying t=some (.struct fs)∧P.info? t=some i∧i.zero=some z∧(∀w F gh,qa6 w F gh T T.dflt z.cells.toList)∧Lay P fs.toList T 0
structure qad (E:Env) (P:Program):Prop where
 heap:HEnvOk E P
 ty:∀t u,E.ty t=some u→TyB P t u
 elem:∀t e,E.ty t=some (.slice e)→ElemB P E t e
 dflt:∀t e,E.ty t=some (.slice e)→∃i z,P.info? (E.etid t)=some i∧i.zero=some z∧(e.agg=false→∀cs,z≠ .agg cs)∧∀w F,Rep w F e e.dflt z.cells.toList
 size:∀t e,(E.ty t=some (.slice e)∨∃n,E.ty t=some (.arr n e))→(sizeOf (E.etid t)).run P=fun w=>.ok e.size w
 arr:∀t n e,E.ty t=some (.arr n e)→P.underlying t=some (.array n (E.etid t))
 struct:∀t T,E.ty t=some T→T.struct=true→∃fs z i,P.underlying t=some (.struct fs)∧P.info? t=some i∧i.zero=some z∧(∀w F,Rep w F T T.dflt z.cells.toList)∧Lay P fs.toList T 0
 str:∀t,E.ty t=some .str→P.underlying t=some .string
 int:∀t k,E.ty t=some (.int k)→P.underlying t=some (.int k)
 bool:∀t,E.ty t=some .bool→P.underlying t=some .bool
 err:∀t,E.ty t=some .err→∃ms,P.underlying t=some (.interface ms)
 opt:∀t e,E.ty t=some (.opt e)→∃u,P.underlying t=some (.pointer u)
 map:∀t k v,E.ty t=some (.map k v)→∃kn vn d i z,P.underlying t=some (.map kn vn)∧P.underlying kn=some d∧qi3 k d=true∧P.info? vn=some i∧i.zero=some z∧∀w F,q9 w F v v.dflt z
 off:∀t f n,E.off t f=some n→∃fs fl,P.underlying t=some (.struct fs)∧fs[f]? =some fl∧fl.offset=n∧fl.type=E.fty t f∧∃i,P.info? fl.type=some i∧i.size≠0
 zero:∀t c,E.zero t=some c→∃i z,P.info? t=some i∧i.zero=some z∧∀w F,qaz w F c z.cells.toList []
 eq:∀t u,E.eqok t=true→E.ty t=some u→EqB P t u
 mixed:P.follows .mixedOrders=true
 lst:∀t0 t1 t2,E.hlst=some (t0,t1,t2)→LsTy P t0 t1 t2
theorem qad.elem' {E:Env}{P:Program}(hE:qad E P) {t:Nat}{e:Ty}(h:E.ty t=some (.slice e)):∃i z,P.underlying t=some (.slice (E.etid t))∧P.info? (E.etid t)=some i∧i.size=e.size∧i.zero=some z∧z.cells.size=e.size∧i.bytes=E.bytes (E.etid t)∧∀w F,Rep w F e e.dflt z.cells.toList:=by
 obtain⟨i,z,h1,h2,h3,h4,h5⟩:=(hE.elem t e h).info;obtain⟨i',z',k1,k2,_,k3⟩:=hE.dflt t e h;rw[h1]at k1;injection k1 with k1;subst k1;rw[h3]at k2;injection k2 with k2;subst k2;exact⟨i,z,(hE.elem t e h).under,h1,h2,h3,h4,h5,k3⟩
theorem qK.row (h:qK C σ a.tmps w own) {s et g n cap:Nat}{e:Ty}{xs:List e.den}(hown:(qj σ s).2=.own et e xs) (hv:a.tmps.getD s undef=.slice (some ⟨g,0,none⟩) n cap):
  ∃cells,w.ownsRow 0 et e.size (.slice (some ⟨g,0,none⟩) n cap) n cells∧xs.length=n∧(∀j u,cells[j]? =some u→w.cell? ((⟨g,0,none⟩:Addr).add j)=some u)∧
   ∀(i:Nat) (x:e.den),xs[i]? =some x→Rep w (C.free w own) e x ((cells.drop (i*e.size)).take e.size):=by
 have hat:=h.at_ s;rw[hown]at hat;obtain⟨cells,h1,h2,h3⟩:=hat;rw[hv]at h1;have hn:xs.length=n:=by
  rcases h1.2 with⟨h4,_⟩|⟨g',cap',cur,h4,_⟩;all_goals grind
 rw[hn]at h1;exact⟨cells,h1,hn,h1.cells rfl,h3⟩
theorem qaz.row {w:World}{F:Nat→Prop}{et:Nat}{e:Ty}{xs:List e.den}: {c:BC}→{cs:List Value}→{bs:List Nat}→{off:Nat}→qaz w F c cs bs→c.row off=some (et,⟨e,xs⟩)→
  ∃v b1 b2 b3,cs[off]? =some v∧qO w F et e xs v b2∧bs=b1++(b2++b3)∧∀ {w':World}{F':Nat→Prop}(n c':BC) (b2':List Nat),(∀b,F b→b<w.heap.size→F' b∧b<w'.heap.size∧w'.heap[b]? =w.heap[b]?)→
   (∀b,b∈b1∨b∈b3→b<w.heap.size→w'.heap[b]? =w.heap[b]?)→c.swap off n=some c'→qaz w' F' n [v] b2'→qaz w' F' c' cs (b1++(b2'++b3))
 |.own et' e' xs',cs,bs,off,⟨v,h1,h2⟩,hr=>by
  simp only[BC.row]at hr;split at hr
  ·rename_i h0;subst h0;injection hr with hr;injection hr with e1 e2;subst e1;injection e2 with e2 e3;subst e2;have e3:=eq_of_heq e3;subst e3;subst h1;refine⟨v,[],bs,[],rfl,h2,by simp,fun n c' b2' _ _ hsw hn=>?_⟩;grind [BC.swap]
  ·cases hr
 |.pair a b,cs,bs,off,⟨c1,c2,b1,b2,h1,h2,h3,h4⟩,hr=>by
  simp only[BC.row]at hr;have hl:=h3.length;split at hr
  ·rename_i hlt;obtain⟨v,p1,p2,p3,q1,q2,q3,q4⟩:=h3.row hr;refine⟨v,p1,p2,p3++b2,by grind,q2,by grind,fun n c' b2' hF hB hsw hn=>?_⟩;simp only[BC.swap,if_pos hlt,zao]at hsw;obtain⟨z,z1,rfl⟩:=hsw;exact⟨c1,c2,p1++(b2'++p3),b2,h1,by simp,q4 n z b2' hF (fun x hx=>hB x (hx.imp id (fun hx=>zab _ hx))) z1 hn,h4.keep hF (fun x hx=>hB x (.inr (zaa _ hx)))⟩
  ·rename_i hlt;obtain⟨v,p1,p2,p3,q1,q2,q3,q4⟩:=h4.row hr;refine⟨v,b1++p1,p2,p3,by grind,q2,by grind,fun n c' b2' hF hB hsw hn=>?_⟩;simp only[BC.swap,if_neg hlt,zao]at hsw;obtain⟨z,z1,rfl⟩:=hsw;exact⟨c1,c2,b1,p1++(b2'++p3),h1,by simp,h3.keep hF (fun x hx=>hB x (.inl (zab _ hx))),q4 n z b2' hF (fun x hx=>hB x (hx.imp (fun hx=>zaa _ hx) id)) z1 hn⟩
 |.val _ _,_,_,_,_,hr=>by cases hr
 |.hole _,_,_,_,_,hr=>by cases hr
theorem qK.rowAt {tm:Array Value}(h:qK C σ tm w own) {s:Nat}{fo:Option Nat}{et:Nat}{e:Ty}{xs:List e.den}{v:Value}(hr:(qj σ s).2.rowAt fo=some (et,⟨e,xs⟩)) (hv:qe7 (sit C σ tm w own) s fo v):
  s<σ.length∧∃b1 b2 b3,qO w (C.free w own) et e xs v b2∧own s=b1++(b2++b3)∧(∀b,tm.getD s undef=ptr b 0→b∉b2)∧
   ∀(W:World) (n:BC) (b2':List Nat) (a':AV),qaA (fun k=>k∈b2) w W→qaz W (C.free w own) n [v] b2'→(qj σ s).2.swapRow n fo=some a'→qS { sit C σ tm w own with w:=W } a' (tm.getD s undef) (b1++(b2'++b3))∧a'.mentions=[]:=by
 have hat:=h.at_ s;have hlt:s<σ.length:=by
  apply Classical.byContradiction;intro hn;have:qj σ s=(0,.undef):=by grind [qj]
  rw[this]at hr;cases hr
 refine⟨hlt,?_⟩;have hnd:=h.nodup s;generalize hg:(qj σ s).2=g at hat hr⊢
 cases g with
 |own et' e' xs'=>
  cases fo with
  |some _=>cases hr
  |none=>
   simp only[AV.rowAt]at hr;injection hr with hr;injection hr with e1 e2;subst e1;injection e2 with e2 e3;subst e2;have e3:=eq_of_heq e3;subst e3;have hv:tm.getD s undef=v:=hv;rw[hv]at hat⊢
   refine⟨[],own s,[],hat,by simp,fun b hb=>?_,fun W n b2' a' hk hn hsw=>?_⟩
   ·obtain⟨cells,g1,_,_⟩:=hat;rcases g1.2 with⟨g2,_⟩|⟨g',cap,cur,g2,_⟩<;>(rw[g2]at hb;cases hb)
   ·cases n with
    |own et2 e2 xs2=>
     simp only[AV.swapRow]at hsw;injection hsw with hsw;subst hsw;obtain⟨v',hv',hn⟩:=hn;injection hv' with hv';subst hv';refine⟨?_,rfl⟩;have e0:([]:List Nat)++(b2'++[])=b2':=by simp
     rw[e0];exact hn
    |hole k=>
     simp only[AV.swapRow]at hsw;injection hsw with hsw;subst hsw;exact⟨trivial,rfl⟩
    |_=>cases hsw
 |box c=>
  cases fo with
  |none=>cases hr
  |some off=>
   simp only[AV.rowAt]at hr;obtain⟨b,cs,bs',te,k1,k2,k3,k4⟩:=hat;obtain⟨v',p1,p2,p3,q1,q2,q3,q4⟩:=k3.row hr;obtain⟨b',_,m2,m3⟩:=hv;have m2:tm.getD s undef=ptr b' 0:=m2;rw[k1]at m2;obtain⟨rfl,_⟩:=qdC m2;have hvv:v'=v:=by
    grind [qek]
   subst hvv;have hb2:b∉p2:=fun hb=>by
    grind
   refine⟨b::p1,p2,p3,q2,by grind,fun b0 hb0=>?_,fun W n b2' a' hk hn hsw=>?_⟩
   ·grind [qdC]
   ·simp only[AV.swapRow,zao]at hsw;obtain⟨c',c1,rfl⟩:=hsw;have hin:∀x,x∈p2→x∈own s:=fun x hx=>by grind
    refine⟨⟨b,cs,p1++(b2'++p3),te,k1,?_,q4 n c' b2' (fun x hx hlt=>⟨hx,zaq hlt hk.size,hk.block x hlt fun hx2=>hx.2.2 s (hin x hx2)⟩) (fun x hx hlt=>hk.block x hlt fun hx2=>?_) c1 hn,rfl⟩,rfl⟩
    ·show W.heap[b]? =_;rw[hk.block b (Array.getElem?_eq_some_iff.1 k2).1 hb2];exact k2
    grind
 |_=>cases hr
theorem qh8 {X:Sit}{s v0 off:Nat}{u:Ty}{v:Value}{bs:List Nat}(h:qS X (.bref s v0 off u) v bs) (hag:u.agg=false) (hv:X.ver s=v0):qe7 X s (some off) v:=by
 obtain⟨b,h1,h2,h3⟩:=h.2 hv;refine⟨b,h1,h2,?_⟩;rcases h3 with⟨h3,_⟩|⟨_,h3⟩;all_goals grind
theorem qO.cells {w:World}{F:Nat→Prop}{et:Nat}{e:Ty}{xs:List e.den}{g n cap:Nat}{bs:List Nat}(h:qO w F et e xs (.slice (some ⟨g,0,none⟩) n cap) bs):
  ∃cells:List Value,cells.length=n*e.size∧xs.length=n∧(∀j x,cells[j]? =some x→w.cell? ((⟨g,0,none⟩:Addr).add j)=some x)∧
   ∀(i:Nat) (x:e.den),xs[i]? =some x→Rep w F e x ((cells.drop (i*e.size)).take e.size):=by
 obtain⟨cells,h1,h2,h3⟩:=h;have hn:xs.length=n:=by
  rcases h1.2 with⟨h4,_⟩|⟨g',cap',cur,h4,_⟩;all_goals grind
 rw[hn]at h1;exact⟨cells,h1.1,hn,h1.cells rfl,h3⟩
theorem Rep.elem {w:World}{F:Nat→Prop}{n:Nat}{e:Ty}{xs:List e.den}{cs:List Value}(h:Rep w F (.arr n e) xs cs) {i:Nat}(hi:i<n):
  ∃x,xs[i]? =some x∧Rep w F e x ((cs.drop (i*e.size)).take e.size)∧i*e.size+e.size≤cs.length:=by
 obtain⟨hl,css,hcl,rfl,hx⟩:=h;have h1:xs[i]? =some (xs[i]'(by omega)):=zac (by omega);have h2:css[i]? =some (css[i]'(by omega)):=zac (by omega);obtain⟨g1,g2⟩:=qaW (qj9 (by omega) hx) h2;grind
theorem qpP (hpt:qpW (sit C σ a.tmps w own)) {s off n:Nat}{v0:Option Nat}{e:Ty}{i:Int}{o2:Nat}{v:Value}(ho:qS (sit C σ a.tmps w own) (.parr s v0 off n e i o2) v []) (hv:vOk (qj σ s).1 v0=true):
  0≤i∧i<(n:Int)∧∃b,a.tmps.getD s undef=ptr b 0∧v=ptr b (off+i.toNat*e.size+o2)∧(v0=none→C.pn s=some b):=by
 obtain⟨_,h1,h2,h3⟩:=ho;refine⟨h1,h2,?_⟩;cases v0 with
 |some v0=>
  obtain⟨b,k1,k2⟩:=h3 (of_decide_eq_true hv);exact⟨b,k1,k2,fun h=>by cases h⟩
 |none=>
  obtain⟨b,k1,k2⟩:=h3;exact⟨b,hpt _ b k1,k2,fun _=>k1⟩
theorem qr7 {s off n:Nat}{v0:Option Nat}{e:Ty}{i:Int}{o2 b:Nat}{v:Value}(hv:vOk (qj σ s).1 v0=true) (i0:0≤i) (i1:i<(n:Int)) (h1:a.tmps.getD s undef=ptr b 0) (h2:v=ptr b (off+i.toNat*e.size+o2)) (h3:v0=none→C.pn s=some b):
  qS (sit C σ a.tmps w own) (.parr s v0 off n e i o2) v []∧∀m∈(AV.parr s v0 off n e i o2).mentions,m.2≤(qj σ m.1).1:=by
 cases v0 with
 |some v0=>
  refine⟨⟨rfl,i0,i1,fun _=>⟨b,h1,h2⟩⟩,fun m hm=>?_⟩;simp[AV.mentions]at hm;subst hm;exact Nat.le_of_eq (of_decide_eq_true hv).symm
 |none=>exact⟨⟨rfl,i0,i1,b,h3 rfl,h2⟩,fun m hm=>by cases hm⟩
theorem qK.part {tm:Array Value}(h:qK C σ tm w own) {s d:Nat}(hs:s<σ.length) (hd:d<σ.length) (hne:d≠s) {av av':AV}{v:Value}{b1 b2 b3:List Nat}(hown:own s=b1++b2++b3)
  (hav:qS (sit C σ tm w own) av (tm.getD s undef) (b1++b3)) (hav':qS (sit C σ tm w own) av' v b2) (hm:av.mentions=[]) (hm':av'.mentions=[]) (hih:av.isHeap=false:=by rfl) (hih':av'.isHeap=false:=by rfl):
  ∃own',qK C (qh σ [⟨s,true,av⟩,⟨d,true,av'⟩]) (tm.setIfInBounds d v) w own':=by
 have eS:qj (qh σ [⟨s,true,av⟩,⟨d,true,av'⟩]) s=((qj σ s).1+1,av):=by
  show qj (qG (qG σ ⟨s,true,av⟩) ⟨d,true,av'⟩) s=_;grind [qw,qD]
 have eD:qj (qh σ [⟨s,true,av⟩,⟨d,true,av'⟩]) d=((qj σ d).1+1,av'):=by
  show qj (qG (qG σ ⟨s,true,av⟩) ⟨d,true,av'⟩) d=_;grind [qD,qw,qG]
 have eO:∀x,x≠s→x≠d→qj (qh σ [⟨s,true,av⟩,⟨d,true,av'⟩]) x=qj σ x:=fun x h1 h2=>by
  show qj (qG (qG σ ⟨s,true,av⟩) ⟨d,true,av'⟩) x=_;grind [qw]
 have tD:(tm.setIfInBounds d v).getD d undef=v:=qbn tm _ (by rw[h.size];exact hd);have tS:(tm.setIfInBounds d v).getD s undef=tm.getD s undef:=qay tm _ (Ne.symm hne);let own':Own:=⟨fun x=>if x=d then b2 else if x=s then b1++b3 else own x,own.gh⟩;have oD:own' d=b2:=by simp[own']
 have oS:own' s=b1++b3:=by grind
 have hnd:=h.nodup s;rw[hown]at hnd;have n1:=zai.1 hnd;have n2:=zai.1 n1.1;have sub:∀x b,x=s∨x=d→b∈own' x→b∈own s:=by
  grind
 have dis:∀b,b∈own' s→b∈own' d→False:=by
  grind
 refine⟨own',h.update (fun x=>x=s∨x=d) (qB _ _) (by simp) ?_ ?_ (qaA.refl _ _) ?_ ?_ ?_ ?_ ?_ ?_⟩
 ·grind [qay]
 ·grind
 ·omega
 ·grind
 ·grind
 ·have hfree:∀b,C.free w own b→C.free w own' b:=fun b hb=>⟨hb.1,hb.2.1,fun x hx=>by
   by_cases h1:x=s∨x=d
   ·exact hb.2.2 s (sub x b h1 hx)
   ·have h2:x≠s:=fun e=>h1 (.inl e);have h3:x≠d:=fun e=>h1 (.inr e);simp only[own',if_neg h2,if_neg h3]at hx;exact hb.2.2 x hx⟩
  rintro x (rfl|rfl)
  ·rw[eS,tS,oS];exact qS.keep (X:=sit C σ tm w own) (X':=sit C _ _ w own') ⟨rfl,rfl,qaJ.refl _,fun _=>rfl⟩ (fun b hb hlt=>⟨hfree b hb,hlt,rfl⟩) (fun _ _ _=>rfl) (fun m hmm=>by grind) hav
  ·rw[eD,tD,oD];exact qS.keep (X:=sit C σ tm w own) (X':=sit C _ _ w own') ⟨rfl,rfl,qaJ.refl _,fun _=>rfl⟩ (fun b hb hlt=>⟨hfree b hb,hlt,rfl⟩) (fun _ _ _=>rfl) (fun m hmm=>by grind) hav'
 all_goals grind
theorem quj (h:qK C σ a.tmps w own) {s off:Nat}{u:Ty}{c:BC}{b:Nat}{cs:List Value}{te:Nat}(hcs:(qj σ s).2=.box c) (h1:a.tmps.getD s undef=ptr b 0) (hb:b∈own s) (h2:w.heap[b]? =some (.cells cs.toArray te (0,0))) (hlt:off<cs.length)
  (hrun:(execOp a.eval o).run C.P w=.ok (.value (mkV u ((cs.drop off).take u.size))) w) {q:Q Eff}(hq:qug E o u s (.box c) off=some q) {f:Eff}(he:q.run (qj σ)=some f) (hd:∀u∈f.upd,u.s<σ.length):qb5 C o a w (qh σ f.upd):=by
 unfold qug at hq;split at hq;case h_2=>cases hq
 rename_i d et e xs a' hdst qN hsw;split at hq;case isFalse=>cases hq
 rename_i hcond;obtain⟨_,hds,hag⟩:=hcond;injection hq with hq;subst hq;have:=qE he;subst this;have hus:u.size=1:=by cases u<;>simp[Ty.agg]at hag<;>rfl
 have hmk:mkV u ((cs.drop off).take u.size)=cs[off]:=by
  grind [zaB,mkV]
 rw[hmk]at hrun;rw[←hcs]at qN hsw;obtain⟨hs,b1,b2,b3,q1,q2,q3,q4⟩:=h.rowAt qN ⟨b,hb,h1,by show w.cell? _=_;rw[qek h2,zac hlt]⟩;have hdl:d<σ.length:=hd ⟨d,true,.own et e xs⟩ (by simp);obtain⟨g1,g2⟩:=q4 w (.hole 1) [] a' (qaA.refl _ _) ⟨rfl,rfl⟩ hsw;rw[zaR]at g1;refine qt hrun ?_;rw[qdG a hdst];exact h.part hs hdl hds (b1:=b1) (b2:=b2) (b3:=b3) (by grind) g1 q1 g2 rfl (AV.yh hsw)
theorem qtC (hE:qad E C.P) (h:qK C σ a.tmps w own) (hpt:qpW (sit C σ a.tmps w own)) {t:Nat}{x1:Op1}{p:Value}(ho:qaC (sit C σ a.tmps w own) x1 p) {f:Eff}
  (he:(quS E o t x1).run (qj σ)=some f) (hd:∀u∈f.upd,u.s<σ.length) (hx:(execOp a.eval o).run C.P w=((Instr.loadAt t p).run C.P w).andThen fun v w'=>.ok (.value v) w'):qb5 C o a w (qh σ f.upd):=by
 unfold quS at he;split at he
 ·cases he
 rename_i u hu;have hT:=hE.ty t u hu;split at he
 ·rename_i s v0 off hb;rw[Q.yc]at he;split at he
  ·rename_i hv;split at he
   ·rename_i c hc;obtain⟨b,hp,rfl,_⟩:=qeU h hpt ho hb hv;obtain⟨b',cs,bs',te,h1,h2,h3,h4⟩:=h.box hc;rw[hp]at h1;obtain⟨rfl,_⟩:=qdC h1;have run:∀y fl,c.get off u=some (y,fl)→(execOp a.eval o).run C.P w=.ok (.value (mkV u ((cs.drop off).take u.size))) w:=fun y fl hg=>by
     obtain⟨g1,_,_⟩:=h3.get hg;rw[hx,show ptr b off=.pointer (some ⟨b,off,none⟩)from rfl,qcC hT (qff (n:=u.size) h2) (by grind)];rfl
    split at he
    ·rename_i y hg;have:=qE he;subst this;obtain⟨g1,_,g3⟩:=h3.get hg;exact qaH h (run _ _ hg) hd (.ofCells (g3 rfl))
    ·rename_i y hg;split at he
     ·rename_i q hq;obtain⟨g1,_,_⟩:=h3.get hg;refine quj h hc hp (by grind) h2 ?_ (run _ _ hg) hq he hd;have:u.size≠0:=by
       unfold qug at hq;split at hq
       ·split at hq
        ·rename_i hcond;have hag:=hcond.2.2;cases u<;>simp[Ty.agg]at hag<;>simp[Ty.size]
        ·cases hq
       ·cases hq
      omega
     have:=qE he;subst this;obtain⟨g1,_,_⟩:=h3.get hg;refine qt (run _ _ hg) (h.dst0 hd ⟨rfl,fun _=>⟨b,?_,hp,?_⟩⟩ (fun m hm=>?_))
     ·show b∈own s;grind
     ·have hl:((cs.drop off).take u.size).length=u.size:=by grind
      cases hag:u.agg with
      |true=>exact .inl ⟨hag,_,by simp[mkV,hag],hl,qff h2⟩
      |false=>
       have hs:u.size=1:=by cases u<;>simp[Ty.agg]at hag<;>rfl
       refine .inr ⟨hag,?_⟩;show w.cell? _=_;have hlt:off<cs.length:=by omega
       rw[qek h2,mkV,if_neg (by simp[hag]),hs,zaB hlt,zac hlt];rfl
     grind [AV.mentions]
    ·cases he
   ·cases he
  ·cases he
 ·split at he
  ·rename_i s v0 fo sz i off hxa;rw[Q.yc]at he;split at he
   ·rename_i hv;split at he
    ·rename_i et e xs hown;split at he
     ·rename_i hsz;subst hsz;split at he
      ·rename_i y hs;have:=qE he;subst this;obtain⟨_,hp⟩:=hxa▸ho.unowned (by rw[hxa];rfl);obtain⟨g,n,cap,k1,k2,k3,rfl⟩:=hp hv;obtain⟨_,b1,b2,b3,qN,_⟩:=h.rowAt hown k1;obtain⟨cells,g1,g2,g3,g4⟩:=qN.cells;have hi:i.toNat<xs.length:=by rw[g2];omega
       have hx0:=g4 i.toNat xs[i.toNat] (zac hi);rw[show qJ xs i e.dflt=xs[i.toNat]from qeo (zac hi)]at hs;obtain⟨q1,q2⟩:=hx0.sub hs;refine qaH h ?_ hd (.ofCells q2);rw[hx,show ptr g (i.toNat*e.size+off)=.pointer (some ⟨g,i.toNat*e.size+off,none⟩)from rfl,qcC hT (cs:=(((cells.drop (i.toNat*e.size)).take e.size).drop off).take u.size) ?_ (by grind)]
       ·rfl
       ·intro j z hj;grind [qx]
      ·cases he
     ·cases he
    ·cases he
   ·cases he
  ·rename_i t' x off hxa;split at he
   ·rename_i y hs;have:=qE he;subst this;obtain⟨_,ad,cs,rfl,g1,g2,g3,g4⟩:=hxa▸ho.unowned (by rw[hxa];rfl);obtain⟨k1,k2⟩:=g4.sub hs;refine qaH h ?_ hd (.ofCells k2);rw[hx,qcC hT (cs:=(cs.drop off).take u.size) ?_ (by grind)]
    ·rfl
    ·intro j z hj;rw[qbi];refine g3 _ _ ?_;grind
   ·cases he
  ·rename_i s v0 off n e i o2 hxa;rw[Q.yc]at he;split at he;case isFalse=>cases he
   rename_i hv;split at he;case h_2=>cases he
   rename_i c hc;split at he;case h_2=>cases he
   rename_i xs hg;split at he;case h_2=>cases he
   rename_i y hs;have:=qE he;subst this;obtain⟨i0,i1,b,hp,rfl,_⟩:=qpP hpt (hxa▸ho.unowned (by rw[hxa];rfl)) hv;obtain⟨b',cs,bs',te,h1,h2,h3,h4⟩:=h.box hc;rw[hp]at h1;obtain⟨rfl,_⟩:=qdC h1;obtain⟨g1,_,g3⟩:=h3.get hg;obtain⟨x,k1,k2,k3⟩:=(g3 rfl).elem (i:=i.toNat) (by omega);rw[qeo k1]at hs;obtain⟨q1,q2⟩:=k2.sub hs;have hlen:=k2.length;refine qaH h ?_ hd (.ofCells q2);rw[hx,show ptr b (off+i.toNat*e.size+o2)=.pointer (some ⟨b,off+i.toNat*e.size+o2,none⟩)from rfl,qcC hT (cs:=((((((cs.drop off).take (Ty.arr n e).size).drop (i.toNat*e.size)).take e.size).drop o2).take u.size)) ?_ (by grind)]
   ·rfl
   ·intro j z hj;grind [qx,qek]
  ·cases he
end
end Go.Vi
namespace Go.Vi
open Go.RowKit
theorem BC.freeze_freeze:(c:BC)→c.freeze.freeze=c.freeze
 |.val _ _=>rfl
 |.own _ _ _=>rfl
 |.pair a b=>by simp[BC.freeze,BC.freeze_freeze a,BC.freeze_freeze b]
 |.hole _=>rfl
theorem qoQ.freeze_freeze:(c:qoQ)→c.freeze.freeze=c.freeze
 |.val _ _=>rfl
 |.own _ _ _=>rfl
 |.gone=>rfl
 |.nz _ _=>rfl
theorem AV.freeze_freeze (a:AV):a.freeze.freeze=a.freeze:=by
 cases a<;>simp[AV.freeze,BC.freeze_freeze,qoQ.freeze_freeze]
section
variable {C:Ctx}{tm:Array Value}{w:World}
theorem qkk (σ:St) (s x:Nat):qj (qG σ ⟨s,false,(qj σ s).2.freeze⟩) x=if x=s then((qj σ s).1,(qj σ s).2.freeze)else qj σ x:=by
 by_cases hx:x=s
 ·subst hx;by_cases hs:x<σ.length;all_goals simp_all [qG,qj,AV.freeze]
 grind [qw]
theorem qew (σ:St) (s:Nat):∀(ow:List Nat),(qbO ow).run (qj (qG σ ⟨s,false,(qj σ s).2.freeze⟩))=(qbO ow).run (qj σ)
 |[]=>rfl
 |x::r=>by
  simp only[qbO,Q.yc,Q.yn,qew σ s r];have:(qj (qG σ ⟨s,false,(qj σ s).2.freeze⟩) x).2.freeze=(qj σ x).2.freeze:=by
   grind [qkk,AV.freeze_freeze]
  rw[this];rfl
theorem qcL:∀(ow:List Nat) {σ:St}{own:Own}{us:List U},qK C σ tm w own→(qbO ow).run (qj σ)=some us→
  ∃own',qK C (qh σ us) tm w own'∧(∀s,(qj (qh σ us) s).1=(qj σ s).1)∧(∀s,s∉ow→own' s=own s∧qj (qh σ us) s=qj σ s)∧(∀b,FW (sit C σ tm w own) ow b→C.free w own' b)
 |[],σ,own,us,h,he=>by
  have:=Q.yb he;subst this;exact⟨own,h,fun _=>rfl,fun _ _=>⟨rfl,rfl⟩,fun b hb=>qld hb⟩
 |s::r,σ,own,us,h,he=>by
  simp only[qbO,Q.yc]at he;obtain⟨us',h1,h2⟩:=Q.ya he;have:=Q.yb h2;subst this;obtain⟨qhw,g1,g2,g3,g4⟩:=h.freeze s;obtain⟨own',k1,k2,k3,k4⟩:=qcL r g1 (us:=us') (by rw[qew];exact h1);refine⟨own',k1,fun x=>(k2 x).trans ?_,fun x hx=>?_,?_⟩
  ·grind [qkk]
  ·have hxs:x≠s:=fun e=>hx (e▸zar);obtain⟨m1,m2⟩:=k3 x fun hm=>hx (zaj _ hm);exact⟨m1.trans (g2 x hxs),m2.trans (qw _ _ hxs)⟩
  ·rintro b (hb|⟨s',hs',hb,hp⟩)
   ·exact k4 b (.inl (g4 b (.inl hb)))
   ·rcases zak.1 hs' with rfl|hs'
    ·exact k4 b (.inl (g4 b (.inr ⟨s',zah.2 rfl,hb,hp⟩)))
    ·by_cases he:s'=s
     ·subst he;exact k4 b (.inl (g4 b (.inr ⟨s',zah.2 rfl,hb,hp⟩)))
     ·exact k4 b (.inr ⟨s',hs',by show b∈qhw s';rw[g2 s' he];exact hb,hp⟩)
end
section
variable {w:World}{F:Nat→Prop}
def qae (cs:List Value) (off:Nat) (ds:List Value):List Value:=cs.take off++ds++cs.drop (off+ds.length)
theorem qdw {cs ds:List Value}(h:cs.length=ds.length):qae cs 0 ds=ds:=by
 grind [qae]
theorem qh5 {c1 c2 ds:List Value}{off:Nat}(h:off+ds.length≤c1.length):qae (c1++c2) off ds=qae c1 off ds++c2:=qiB h rfl
theorem qgO {c1 c2 ds:List Value}{off:Nat}(h:c1.length≤off):qae (c1++c2) off ds=c1++qae c2 (off-c1.length) ds:=qgV h
theorem qf3 {cs ds:List Value}{off:Nat}(h:off+ds.length≤cs.length):(qae cs off ds).length=cs.length:=by
 grind [qae]
theorem qfE {cs ds:List Value}{off:Nat}(h:off+ds.length≤cs.length) (j:Nat):(qae cs off ds)[j]? =if j<off then cs[j]? else if j<off+ds.length then ds[j-off]? else cs[j]? :=by
 unfold qae;grind
theorem qlb {cs ds:List Value}{p n q:Nat}(h1:p+n≤cs.length) (h2:q+ds.length≤n):qae cs p (qae ((cs.drop p).take n) q ds)=qae cs (p+q) ds:=by
 have hl:((cs.drop p).take n).length=n:=by grind
 have hs:(qae ((cs.drop p).take n) q ds).length=n:=by grind [qf3]
 apply List.ext_getElem?;intro j;have e1:=qfE (cs:=cs) (ds:=qae ((cs.drop p).take n) q ds) (off:=p) (by omega) j;grind [qfE]
theorem Rep.setElem {n:Nat}{e:Ty}{xs:List e.den}{cs ds:List Value}(h:Rep w F (.arr n e) xs cs) {i:Nat}(hi:i<n) {y:e.den}(hy:Rep w F e y ds):Rep w F (.arr n e) (qdz xs (i:Int) y) (qae cs (i*e.size) ds):=by
 obtain⟨hl,css,hcl,rfl,hx⟩:=h;have hall:=qj9 (by omega) hx;have hdl:=hy.length;have hc:css[i]? =some (css[i]'(by omega)):=zac (by omega);obtain⟨k1,k2⟩:=qaW hall hc;refine⟨by simp[qbv,hl],css.set i ds,by simp[hcl],?_,?_⟩
 ·grind [qlr,qae]
 ·intro j x' c' hj hc';simp only[qbv,zat]at hj;grind
theorem qaz.ofVal {t:Ty}{x:t.den}{cs:List Value}(h:Rep w F t x cs):qaz w F (.val t x) cs []:=⟨rfl,h⟩
theorem qaz.putVal {new:BC}{ds:List Value}{b2:List Nat}(hn:qaz w F new ds b2): {t:Ty}→{x:t.den}→{cs:List Value}→{off:Nat}→{c':BC}→Rep w F t x cs→BC.putVal t x off new=some c'→
  off+ds.length≤cs.length∧qaz w F c' (qae cs off ds) b2
 |.pair a b,x,cs,off,c',⟨c1,c2,hc,h1,h2⟩,he=>by
  subst hc;have l1:=h1.length;have l2:=h2.length;have ln:=hn.length;simp only[BC.putVal]at he;split at he
  ·split at he
   ·rename_i hlt hz;injection he with he;subst he;obtain⟨rfl,hs⟩:=hz;refine⟨by grind,?_⟩;rw[qh5 (by omega),qdw (by omega)];exact⟨ds,c2,b2,[],rfl,by simp,hn,.ofVal h2⟩
   ·simp only[zao]at he;obtain⟨z,hz,rfl⟩:=he;obtain⟨g1,g2⟩:=qaz.putVal hn h1 hz;refine⟨by grind,?_⟩;rw[qh5 g1];exact⟨_,c2,b2,[],rfl,by simp,g2,.ofVal h2⟩
  ·split at he
   ·rename_i hge hz;injection he with he;subst he;obtain⟨rfl,hs⟩:=hz;refine⟨by grind,?_⟩;rw[qgO (by omega),show a.size-c1.length=0 by omega,qdw (by omega)];exact⟨c1,ds,[],b2,rfl,by simp,.ofVal h1,hn⟩
   ·simp only[zao]at he;obtain⟨z,hz,rfl⟩:=he;obtain⟨g1,g2⟩:=qaz.putVal hn h2 hz;refine⟨by grind,?_⟩;rw[qgO (by omega),l1];exact⟨c1,_,[],b2,rfl,by simp,.ofVal h1,g2⟩
 |.int _,_,_,_,_,_,he=>by simp[BC.putVal]at he
 |.bool,_,_,_,_,_,he=>by simp[BC.putVal]at he
 |.str,_,_,_,_,_,he=>by simp[BC.putVal]at he
 |.err,_,_,_,_,_,he=>by simp[BC.putVal]at he
 |.opt _,_,_,_,_,_,he=>by simp[BC.putVal]at he
 |.map _ _,_,_,_,_,_,he=>by simp[BC.putVal]at he
 |.ptr _ _,_,_,_,_,_,he=>by simp[BC.putVal]at he
 |.sl _ _,_,_,_,_,_,he=>by simp[BC.putVal]at he
 |.unit,_,_,_,_,_,he=>by simp[BC.putVal]at he
 |.slice _,_,_,_,_,_,he=>by simp[BC.putVal]at he
 |.arr _ _,_,_,_,_,_,he=>by simp[BC.putVal]at he
theorem qaz.put {new:BC}{ds:List Value}{b2:List Nat}(hn:qaz w F new ds b2): {c:BC}→{cs:List Value}→{bs:List Nat}→{off:Nat}→{c':BC}→qaz w F c cs bs→c.put off new=some c'→
  off+ds.length≤cs.length∧∃bs',qaz w F c' (qae cs off ds) bs'∧(∀b∈bs',b∈bs∨b∈b2)∧((bs++b2).Nodup→bs'.Nodup)
 |.val t x,cs,bs,off,c',h,he=>by
  have ln:=hn.length;have lc:=h.2.length;simp only[BC.put]at he;split at he
  ·rename_i u y;simp only[zao]at he;obtain⟨z,hz,rfl⟩:=he;obtain⟨hb2,hy⟩:=hn;subst hb2;obtain⟨g1,g2⟩:=h.2.upd hy hz;have ly:=hy.length;rw[←ly]at g1 g2;exact⟨g1,[],⟨rfl,g2⟩,(fun b hb=>by cases hb),fun _=>zaA⟩
  ·split at he
   ·grind [qdw]
   ·obtain⟨g1,g2⟩:=qaz.putVal hn h.2 he;grind
 |.own et e xs,cs,bs,off,c',h,he=>by
  have ln:=hn.length;obtain⟨v,rfl,h⟩:=h;grind [qdw,BC.put]
 |.pair a b,cs,bs,off,c',h,he=>by
  have ln:=hn.length;have lc:=h.length;obtain⟨c1,c2,b1,b1',rfl,rfl,h1,h2⟩:=h;have l1:=h1.length;have l2:=h2.length;simp only[BC.put]at he;split at he
  ·grind [qdw]
  ·split at he
   ·simp only[zao]at he;obtain⟨z,hz,rfl⟩:=he;obtain⟨g1,bs',g2,g3,g4⟩:=qaz.put hn h1 hz;refine⟨by grind,bs'++b1',?_,?_,?_⟩
    ·rw[qh5 g1];exact⟨_,c2,bs',b1',rfl,rfl,g2,h2⟩
    all_goals grind
   ·simp only[zao]at he;obtain⟨z,hz,rfl⟩:=he;obtain⟨g1,bs',g2,g3,g4⟩:=qaz.put hn h2 hz;refine⟨by grind,b1++bs',?_,?_,?_⟩
    ·rw[qgO (by omega),l1];exact⟨c1,_,b1,bs',rfl,rfl,h1,g2⟩
    all_goals grind
 |.hole n,cs,bs,off,c',h,he=>by
  have ln:=hn.length;have hl:cs.length=n:=h.2;grind [qdw,BC.put]
theorem qaz.oneCell_own {et:Nat}{e:Ty}{xs:List e.den}{cs:List Value}{bs:List Nat}(h:qaz w F (.own et e xs) cs bs):∀v∈cs,v.oneCell'=true:=by
 obtain⟨v,rfl,h⟩:=h;intro u hu;simp at hu;subst hu;exact h.oneCell
theorem qaz.oneCell: {c:BC}→{cs:List Value}→{bs:List Nat}→c.sound=true→qaz w F c cs bs→∀v∈cs,v.oneCell'=true
 |.val _ _,_,_,_,h=>h.2.oneCell
 |.own _ _ _,_,_,_,h=>h.oneCell_own
 |.pair _ _,_,_,hs,⟨c1,c2,_,_,rfl,_,h1,h2⟩=>fun v hv=>by
  simp only[BC.sound,zad]at hs;rcases zaf.1 hv with hv|hv
  ·exact h1.oneCell hs.1 v hv
  ·exact h2.oneCell hs.2 v hv
 |.hole _,_,_,hs,_=>by simp[BC.sound]at hs
theorem qcR {b:Nat}{cur:Array Value}(new:Array Value) {te:Nat}(h:w.heap[b]? =some (.cells cur te (0,0))):qaA (fun k=>k=b) w (w.setRow b new):=
 ⟨rfl,rfl,rfl,by simp,fun k _ hk=>setRow_other w b k new hk⟩
end
section
variable {C:Ctx}{E:Env}{σ:St}{a:Act}{w w':World}{own:Own}{o:Oper} [Tabbed E C]
theorem qgH (h:qK C σ a.tmps w own) {t:Ty}{x1:Op1}{v:Value}(ho:qaC (sit C σ a.tmps w own) x1 v) {n:BC×List Nat×List U}(he:(qgD t x1).run (qj σ)=some n) (h0:n.2.1=[]):
  ∃bs,qaz w (C.free w own) n.1 v.cells.toList bs∧v.cells.toList.length=t.size∧(∀u∈v.cells.toList,u.oneCell'=true)∧
   ((n.2.2=[]∧bs=[])∨∃s,n.2.2=[⟨s,true,.undef⟩]∧bs=own s):=by
 obtain⟨os,ov,oa⟩:=x1;unfold qgD at he;split at he
 ·rename_i s et e xs h1 h2;simp only at h1 h2;subst h1;subst h2;split at he
  ·rename_i ht;subst ht;have:=Q.yb he;subst this;obtain⟨e1,e2,e3⟩:=ho;have e3:qO w (C.free w own) et e xs v (own s):=e3;have hc:v.cells= #[v]:=by
    obtain⟨cells,ho,_⟩:=e3;rcases ho.2 with⟨rfl,_⟩|⟨g,cap,cur,rfl,_⟩<;>rfl
   rw[hc];exact⟨own s,⟨v,rfl,e3⟩,rfl,fun u hu=>by simp at hu;subst hu;exact e3.oneCell,.inr ⟨s,rfl,rfl⟩⟩
  ·cases he
 ·rename_i et e xs h1 h2;simp only at h1 h2;subst h1;subst h2;split at he
  ·rename_i ht;subst ht;have:=Q.yb he;subst this;have e3:qO w (C.free w own) et e xs v []:=ho;have hc:v.cells= #[v]:=by
    obtain⟨cells,ho,_⟩:=e3;rcases ho.2 with⟨rfl,_⟩|⟨g,cap,cur,rfl,_⟩<;>rfl
   rw[hc];exact⟨[],⟨v,rfl,e3⟩,rfl,fun u hu=>by simp at hu;subst hu;exact e3.oneCell,.inl ⟨rfl,rfl⟩⟩
  ·cases he
 ·rename_i s c h1 h2;simp only at h1 h2;subst h1;subst h2;split at he
  ·rename_i ht;have:=Q.yb he;subst this;obtain⟨e1,e2,cs,e4,e3⟩:=ho;have hc:v.cells.toList=cs:=by rw[e4];simp[Value.cells]
   rw[hc];exact⟨own s,e3,e3.length.trans ht.1,e3.oneCell ht.2,.inr ⟨s,rfl,rfl⟩⟩
  ·cases he
 ·obtain⟨r,h1,h2⟩:=Q.ya he;have hv:=qcm h ho h1;have:=Q.yb h2;subst this;simp only at h0;rw[h0]at hv;have hr:=hv.1;exact⟨[],⟨rfl,hr.keep fun b hb hs=>⟨qld hb,hs,rfl⟩⟩,hr.length,hr.oneCell,.inl ⟨rfl,rfl⟩⟩
theorem qdI {τ:St}(hr:(execOp a.eval o).run C.P w=.ok .skip w') (h:∃own',qK C τ (a.put o.dst undef).tmps w' own'):qb5 C o a w τ:=by
 intro K Q hK;obtain⟨own',h⟩:=h;unfold Oper.wp;rw[hr];exact hK _ _ own' (qeg o a _) h
theorem qiw (cons:List Nat):∀(σ:St),(∀s∈cons,s<σ.length)→
  (∀s,s∉cons→qj (qh σ (cons.map fun s=>⟨s,true,.undef⟩)) s=qj σ s)∧(∀s∈cons,(qj σ s).1<(qj (qh σ (cons.map fun s=>⟨s,true,.undef⟩)) s).1∧(qj (qh σ (cons.map fun s=>⟨s,true,.undef⟩)) s).2=.undef):=by
 induction cons with
 |nil=>intro σ _;exact⟨fun _ _=>rfl,fun s hs=>by cases hs⟩
 |cons c r ih=>
  intro σ hl;have hc:c<σ.length:=hl c zar;obtain⟨h1,h2⟩:=ih (qG σ ⟨c,true,.undef⟩) (fun s hs=>by grind [qM]);grind [qD,qw,qh]
theorem qK.mut {tm:Array Value}(h:qK C σ tm w own) {d:Nat}(hd:d<σ.length) (cons:List Nat) (hcons:∀s∈cons,s<σ.length∧s≠d) (hk:qaA (fun k=>k∈own d∨∃s∈cons,k∈own s) w w') {av:AV}{v:Value}{bs:List Nat}
  (hb:∀b∈bs,(w.heap.size≤b∧b<w'.heap.size)∨b∈own d∨∃s∈cons,b∈own s) (hnd:bs.Nodup) (hrep:qS { sit C σ tm w own with w:=w' } av v bs) (hm:av.mentions=[]) (hih:av.isHeap=false:=by rfl):
  ∃own',qK C (qh σ (cons.map (fun s=>⟨s,true,.undef⟩)++[⟨d,true,av⟩])) (tm.setIfInBounds d v) w' own':=by
 obtain⟨c1,c2⟩:=qiw cons σ (fun s hs=>(hcons s hs).1);have hdc:d∉cons:=fun hm=>(hcons d hm).2 rfl;rw[qbq];generalize hτ:qh σ (cons.map fun s=>⟨s,true,.undef⟩)=τ at c1 c2;have hlen:τ.length=σ.length:=by rw[←hτ,qB]
 have eD:qj (qh τ [⟨d,true,av⟩]) d=((qj σ d).1+1,av):=by
  show qj (qG τ ⟨d,true,av⟩) d=_;grind [qD]
 have eN:∀s,s≠d→qj (qh τ [⟨d,true,av⟩]) s=qj τ s:=fun s hs=>qw τ ⟨d,true,av⟩ hs;let own':Own:=⟨fun x=>if x=d then bs else if x∈cons then[]else own x,own.gh⟩;have oD:own' d=bs:=by simp[own']
 have oC:∀s∈cons,own' s=[]:=fun s hs=>by grind
 refine⟨own',h.update (fun x=>x=d∨x∈cons) (by rw[qB,hlen]) (by simp) ?_ ?_ (hk.mono ?_) ?_ ?_ ?_ ?_ ?_ ?_⟩
 ·grind [qay]
 ·grind
 ·grind
 ·grind
 ·grind
 ·grind
 ·rintro x (rfl|hx)
  ·rw[eD,oD,qbn tm v (by rw[h.size];exact hd)];refine qS.keep (X:= { sit C σ tm w own with w:=w' }) (X':=sit C _ _ w' own') ⟨rfl,rfl,qaJ.refl _,fun _=>rfl⟩ (fun x hx hlt=>?_) (fun _ _ _=>rfl) (fun m hmm=>by grind) hrep;have hx':C.free w own x:=hx;refine⟨⟨hx'.1,zaq hx'.2.1 hk.size,fun s hs=>?_⟩,hlt,rfl⟩;have hs:x∈own' s:=hs;simp only[own']at hs;split at hs
   ·rcases hb x hs with h1|h1|⟨s0,_,h1⟩
    ·have:=hx'.2.1;omega
    ·exact hx'.2.2 _ h1
    ·exact hx'.2.2 _ h1
   ·split at hs
    ·cases hs
    ·exact hx'.2.2 _ hs
  ·rw[eN x (hcons x hx).2,(c2 x hx).2];trivial
 ·rintro x (rfl|hx) m hmm
  ·grind
  ·rw[eN x (hcons x hx).2,(c2 x hx).2]at hmm;cases hmm
 ·rintro x (rfl|hx) hh
  ·grind
  ·rw[eN x (hcons x hx).2,(c2 x hx).2]at hh;cases hh
theorem qp5 (tm:Array Value) {d:Nat}(h:d<tm.size):tm.setIfInBounds d (tm.getD d undef)=tm:=by
 apply Array.ext
 ·simp
 ·intro i h1 h2;by_cases hi:d=i;all_goals simp_all
theorem qO.store {P:Program}{w:World}{F:Nat→Prop}{t:Nat}{u:Ty}{et:Nat}{e:Ty}{xs:List e.den}{g n cap:Nat}{bs:List Nat}{i:Int}{off:Nat}{v:Value}{y0:u.den}{y:e.den}(hT:TyB P t u) (qN:qO w F et e xs (.slice (some ⟨g,0,none⟩) n cap) bs)
  (hF0:∀x,F x→x≠g) (k2:0≤i) (k3:i<n) (hy:e.upd (qJ xs i e.dflt) off u y0=some y) (hrc:Rep w F u y0 v.cells.toList):
  ∃W,(Instr.storeAt t (ptr g (i.toNat*e.size+off)) v).run P w=.ok () W∧qaA (fun k=>k=g) w W∧bs=[g]∧qO W F et e (qdz xs i y) (.slice (some ⟨g,0,none⟩) n cap) bs:=by
 obtain⟨cells,r1,r2,r3⟩:=qN;have hbs:bs=[g]:=r2;obtain⟨r4,r5⟩:=r1;rcases r5 with⟨r6,_⟩|⟨g',cap',cur,r6,_,r7,r8,r9,r10,r11⟩
 ·cases r6
 injection r6 with r6 r6n r6c;injection r6 with r6;injection r6 with r6;subst r6;subst r6n;subst r6c;have hi:i.toNat<xs.length:=by omega
 rw[show qJ xs i e.dflt=xs[i.toNat]from qeo (zac hi)]at hy;have hrl:=hrc.length;have hvs:v.cells.size=u.size:=by omega
 have hcz:cur.toList.length=cur.size:=zaG;obtain⟨u1,u2⟩:=(r3 i.toNat xs[i.toNat] (zac hi)).upd hrc hy;have hcl:cells.length=xs.length*e.size:=r4;have hin:i.toNat*e.size+e.size≤xs.length*e.size:=by
  rw[←Nat.succ_mul];exact zam _ hi
 have hel:((cells.drop (i.toNat*e.size)).take e.size).length=e.size:=by grind
 rw[hel]at u1;have hcur:xs.length*e.size≤cur.size:=by grind
 have hrun:=qdV (w:=w) hT (v:=v) (off:=i.toNat*e.size+off) r7 hrl (by omega) hrc.oneCell;refine⟨_,hrun,?_⟩;rw[←hrl];have hsp:(cur.toList.take (i.toNat*e.size+off)++v.cells.toList++cur.toList.drop (i.toNat*e.size+off+v.cells.toList.length)).toArray=(qae cur.toList (i.toNat*e.size+off) v.cells.toList).toArray:=rfl;rw[hsp];generalize hW:w.setRow g (qae cur.toList (i.toNat*e.size+off) v.cells.toList).toArray=W;have hkept:qaA (fun k=>k=g) w W:=by grind [qcR]
 have hheap:W.heap[g]? =some (.cells (qae cur.toList (i.toNat*e.size+off) v.cells.toList).toArray et (0,0)):=by grind [setRow_heap]
 have hF:∀x,F x→x<w.heap.size→F x∧x<W.heap.size∧W.heap[x]? =w.heap[x]? :=fun x hx hlt=>⟨hx,zaq hlt hkept.size,hkept.block x hlt fun e=>hF0 x hx e⟩;refine⟨hkept,hbs,?_⟩;have hlx:(qdz xs i y).length=xs.length:=by simp[qbv]
 have hcut:cells=cur.toList.take (xs.length*e.size):=r11.symm;refine⟨(qae cur.toList (i.toNat*e.size+off) v.cells.toList).take (xs.length*e.size),⟨?_,.inr ⟨g,cap,_,by rw[hlx],zaD _,hheap,by omega,r9,?_,by rw[hlx]⟩⟩,hbs,?_⟩
 ·grind [qf3]
 ·grind
 ·intro j x hj;have hjl:j<xs.length:=by
   grind
  have hjn:j*e.size+e.size≤xs.length*e.size:=by rw[←Nat.succ_mul];exact zam _ hjl
  have e0:(((qae cur.toList (i.toNat*e.size+off) v.cells.toList).take (xs.length*e.size)).drop (j*e.size)).take e.size=((qae cur.toList (i.toNat*e.size+off) v.cells.toList).drop (j*e.size)).take e.size:=by
   rw[List.drop_take,List.take_take,zaQ (by omega)]
  rw[e0];have e1:∀k,k*e.size+e.size≤xs.length*e.size→(cells.drop (k*e.size)).take e.size=(cur.toList.drop (k*e.size)).take e.size:=fun k hk=>by
   rw[hcut,List.drop_take,List.take_take,zaQ (by omega)]
  by_cases hji:i.toNat=j
  ·subst hji;simp only[qbv]at hj;rw[List.getElem?_set_self hi]at hj;injection hj with hj;subst hj;rw[e1 _ hjn]at u2;refine Rep.keep hF ?_;have:((qae cur.toList (i.toNat*e.size+off) v.cells.toList).drop (i.toNat*e.size)).take e.size=qae ((cur.toList.drop (i.toNat*e.size)).take e.size) off v.cells.toList:=by
    have hs:= @qlx cur.toList v.cells.toList (i.toNat*e.size) off v.cells.toList.length e.size (by simp;omega) (by omega) rfl;rw[qae,hs,qae];rw[zau,List.drop_append,zaI (by rw[zae];omega),zaR,show i.toNat*e.size-(cur.toList.take (i.toNat*e.size)).length=0 by rw[zae];simp;omega,zaN];rw[zas]
    ·rw[zan];simp only[zag,zae,zal];omega
    ·simp only[zag,zae,zal,zaG];omega
   rw[this];rw[←hrl]at u2;exact u2
  ·simp only[qbv]at hj;rw[List.getElem?_set_ne hji]at hj;have hx0:=r3 j x hj;rw[e1 _ hjn]at hx0;refine Rep.keep hF ?_;have:((qae cur.toList (i.toNat*e.size+off) v.cells.toList).drop (j*e.size)).take e.size=(cur.toList.drop (j*e.size)).take e.size:=by
    apply List.ext_getElem?;intro k;rw[zap,zap];split
    ·rename_i hk;rw[zav,zav];have hne:j*e.size+k<i.toNat*e.size+off∨i.toNat*e.size+off+v.cells.toList.length≤j*e.size+k:=by
      rcases Nat.lt_or_gt_of_ne hji with hlt|hgt
      ·right;have:i.toNat*e.size+e.size≤j*e.size:=by rw[←Nat.succ_mul];exact zam _ hlt
       omega
      ·left;have:j*e.size+e.size≤i.toNat*e.size:=by rw[←Nat.succ_mul];exact zam _ hgt
       omega
     rcases hne with hne|hne
     ·rw[qae,zau,List.getElem?_append_left (by rw[zae];simp;omega),zap,if_pos hne]
     ·rw[qae,List.getElem?_append_right (by simp only[zag,zae,zaG];omega),zav];congr 1;simp only[zag,zae,zaG];omega
    ·rfl
   grind
theorem qK.mut2 {tm:Array Value}(h:qK C σ tm w own) {d s0:Nat}(hd:d<σ.length) (hs0:s0<σ.length) (hne:s0≠d) {b1 b2 b3:List Nat}(ho:own s0=b1++(b2++b3)) (hk:qaA (fun k=>k∈own d∨k∈b2) w w') {av av0:AV}{v:Value}{bs:List Nat}
  (hb:∀b∈bs,(w.heap.size≤b∧b<w'.heap.size)∨b∈own d∨b∈b2) (hnd:bs.Nodup) (hrep:qS { sit C σ tm w own with w:=w' } av v bs) (hm:av.mentions=[]) (hrep0:qS { sit C σ tm w own with w:=w' } av0 (tm.getD s0 undef) (b1++b3)) (hm0:av0.mentions=[]) (hih:av.isHeap=false:=by rfl) (hih0:av0.isHeap=false:=by rfl):
  ∃own',qK C (qh σ [⟨s0,true,av0⟩,⟨d,true,av⟩]) (tm.setIfInBounds d v) w' own':=by
 have eD:qj (qh σ [⟨s0,true,av0⟩,⟨d,true,av⟩]) d=((qj σ d).1+1,av):=by
  show qj (qG (qG σ ⟨s0,true,av0⟩) ⟨d,true,av⟩) d=_;grind [qD,qM,qw]
 have eS:qj (qh σ [⟨s0,true,av0⟩,⟨d,true,av⟩]) s0=((qj σ s0).1+1,av0):=by
  show qj (qG (qG σ ⟨s0,true,av0⟩) ⟨d,true,av⟩) s0=_;grind [qw,qD]
 have eO:∀x,x≠s0→x≠d→qj (qh σ [⟨s0,true,av0⟩,⟨d,true,av⟩]) x=qj σ x:=fun x h1 h2=>by
  show qj (qG (qG σ ⟨s0,true,av0⟩) ⟨d,true,av⟩) x=_;grind [qw]
 let own':Own:=⟨fun x=>if x=d then bs else if x=s0 then b1++b3 else own x,own.gh⟩;have oD:own' d=bs:=by simp[own']
 have oS:own' s0=b1++b3:=by grind
 have hns:=h.nodup s0;rw[ho]at hns;have n1:=zai.1 hns;have n2:=zai.1 n1.2.1;have sub0:∀b,b∈b1++b3→b∈own s0:=fun b hb=>by
  grind
 have not2:∀b,b∈b1++b3→b∉b2:=fun b hb hb2=>by
  grind
 have dis:∀b,b∈bs→b∈b1++b3→False:=fun b h1 h2=>by
  rcases hb b h1 with h3|h3|h3
  ·have:=(h.mine s0 b (sub0 b h2)).2;omega
  ·exact hne (h.apart s0 d b (sub0 b h2) h3)
  grind
 have keep:∀ {av1:AV}{v1:Value}{bs1:List Nat},av1.mentions=[]→qS { sit C σ tm w own with w:=w' } av1 v1 bs1→qS (sit C (qh σ [⟨s0,true,av0⟩,⟨d,true,av⟩]) (tm.setIfInBounds d v) w' own') av1 v1 bs1:=by
  intro av1 v1 bs1 hm1 hr1;refine qS.keep (X:= { sit C σ tm w own with w:=w' }) (X':=sit C _ _ w' own') ⟨rfl,rfl,qaJ.refl _,fun _=>rfl⟩ (fun x hx hlt=>?_) (fun _ _ _=>rfl) (fun m hmm=>by grind) hr1;have hx':C.free w own x:=hx;refine⟨⟨hx'.1,zaq hx'.2.1 hk.size,fun s hs=>?_⟩,hlt,rfl⟩;have hs:x∈own' s:=hs;simp only[own']at hs;split at hs
  ·rcases hb x hs with h1|h1|h1
   ·have:=hx'.2.1;omega
   ·exact hx'.2.2 _ h1
   ·exact hx'.2.2 s0 (by grind)
  ·split at hs
   ·exact hx'.2.2 s0 (sub0 x hs)
   ·exact hx'.2.2 _ hs
 refine⟨own',h.update (fun x=>x=s0∨x=d) (qB _ _) (by simp) ?_ ?_ (hk.mono ?_) ?_ ?_ ?_ ?_ ?_ ?_⟩
 ·grind [qay]
 ·grind
 ·grind
 ·omega
 ·grind
 ·grind
 ·rintro x (rfl|rfl)
  ·grind [qay]
  ·rw[eD,oD,qbn tm v (by rw[h.size];exact hd)];grind
 all_goals grind
theorem qK.mutK {tm:Array Value}(h:qK C σ tm w own) {s:Nat}(hs:s<σ.length) {b1 b2 b3:List Nat}(ho:own s=b1++(b2++b3)) (qmK:∀b,tm.getD s undef=ptr b 0→b∉b2) (hk:qaA (fun k=>k∈b2) w w') {av:AV}
  (hrep:qS { sit C σ tm w own with w:=w' } av (tm.getD s undef) (own s)) (hm:av.mentions=[]) (hih:av.isHeap=false:=by rfl):qK C (qh σ [⟨s,false,av⟩]) tm w' own:=by
 have eS:qj (qh σ [⟨s,false,av⟩]) s=((qj σ s).1,av):=qD σ ⟨s,false,av⟩ hs;refine h.update (fun x=>x=s) (qB _ _) rfl ?_ ?_ (hk.mono ?_) ?_ ?_ ?_ ?_ ?_ ?_
 ·intro x hx;exact⟨qw σ ⟨s,false,av⟩ hx,rfl,rfl⟩
 ·rintro x rfl;rw[eS];exact .inr ⟨rfl,rfl,fun b hb hp=>⟨hb,hk.block b (h.mine x b hb).2 (qmK b hp)⟩⟩
 ·grind
 ·omega
 ·rintro x rfl;exact⟨fun b hb=>.inr ⟨x,rfl,hb⟩,h.nodup x⟩
 ·omega
 ·rintro x rfl;rw[eS];refine qS.keep (X:= { sit C σ tm w own with w:=w' }) (X':=sit C _ _ w' own) ⟨rfl,rfl,qaJ.refl _,fun _=>rfl⟩ (fun x hx hlt=>?_) (fun _ _ _=>rfl) (fun m hmm=>by grind) hrep;have hx':C.free w own x:=hx;exact⟨⟨hx'.1,zaq hx'.2.1 hk.size,hx'.2.2⟩,hlt,rfl⟩
 all_goals grind
theorem qr9 (hE:qad E C.P) (h:qK C σ a.tmps w own) (hpt:qpW (sit C σ a.tmps w own)) {t:Nat}{p1 x1:Op1}{p v:Value}(hp:qaC (sit C σ a.tmps w own) p1 p) (ho:qaC (sit C σ a.tmps w own) x1 v) (hdst:o.dst=none) {f:Eff}
  (he:(qs0 E t p1 x1).run (qj σ)=some f) (hd:∀u∈f.upd,u.s<σ.length) (hx:(execOp a.eval o).run C.P w=((Instr.storeAt t p v).run C.P w).andThen fun _ w'=>.ok .skip w'):qb5 C o a w (qh σ f.upd):=by
 have hput:(a.put o.dst undef).tmps=a.tmps:=by rw[hdst];rfl
 unfold qs0 at he;split at he
 ·cases he
 rename_i u hu;have hT:=hE.ty t u hu;split at he
 ·rename_i s v0 off hb;obtain⟨n,h1,h2⟩:=Q.ya he;split at h2
  ·rename_i hcond;simp only[zad,List.isEmpty_iff,Bool.not_eq_true']at hcond;obtain⟨hc1,hc2⟩:=hcond;rw[Q.yc]at h2;split at h2
   ·rename_i hv;split at h2
    ·rename_i c hc;split at h2
     ·rename_i c' hput';have:=qE h2;subst this;obtain⟨b,hpb,rfl,_⟩:=qeU h hpt hp hb hv;obtain⟨b',cs,bs',te,k1,k2,k3,k4⟩:=h.box hc;rw[hpb]at k1;obtain⟨rfl,_⟩:=qdC k1;obtain⟨b2,q1,q2,q3,q4⟩:=qgH h ho h1 hc1;obtain⟨g1,bn,g2,g3,g4⟩:=qaz.put q1 k3 hput';have hrun:=qdV (w:=w) hT (v:=v) (off:=off) k2 q2 (by simp;omega) q3;rw[hrun]at hx;refine qdI hx ?_;rw[hput];have hnd:=h.nodup s;rw[k4]at hnd;have hsplice:(cs.toArray.toList.take off++v.cells.toList++cs.toArray.toList.drop (off+u.size)).toArray=(qae cs off v.cells.toList).toArray:=by
       rw[qae,q2]
      rw[hsplice];generalize hW:w.setRow b (qae cs off v.cells.toList).toArray=W;have hkept:qaA (fun k=>k=b) w W:=by grind [qcR]
      have hheap:W.heap[b]? =some (.cells (qae cs off v.cells.toList).toArray te (0,0)):=by grind [setRow_heap]
      have hsl:s<σ.length:=hd ⟨s,true,.box c'⟩ (by simp);have hbs:b∈own s:=by grind
      have fin:∀cons:List Nat,n.2.2=cons.map (fun s=>⟨s,true,.undef⟩)→(∀s'∈cons,s'<σ.length∧s'≠s)→(∀x∈b2,∃s'∈cons,x∈own s')→b∉b2→(bs'++b2).Nodup→
        ∃own',qK C (qh σ (n.2.2++[⟨s,true,.box c'⟩])) a.tmps W own':=by
       intro cons e1 e2 e3 e4 e5;have hbn:b∉bn:=fun hbm=>by
        grind
       have key:=h.mut hsl cons e2 (w':=W) (hkept.mono fun k hk=>.inl (by grind)) (av:= .box c') (v:=a.tmps.getD s undef) (bs:=b::bn)
        (fun x hx=>by
         grind)
        (zaJ.2 ⟨hbn,g4 e5⟩)
        ⟨b,_,bn,te,hpb,hheap,g2.keep (fun x hx hlt=>⟨hx,zaq hlt hkept.size,hkept.block x hlt fun e=>hx.2.2 s (by grind)⟩) (fun x hx hlt=>hkept.block x hlt fun e=>hbn (by grind)),rfl⟩ rfl
       grind [qp5]
      rcases q4 with⟨e1,e2⟩|⟨s',e1,e2⟩
      ·simp_all
      ·subst e2;have hne:s'≠s:=by
        grind
       have hdis:∀x,x∈own s'→x∉own s:=fun x hx hx'=>hne (h.apart s' s x hx hx');refine fin [s'] (by rw[e1];rfl) (fun x hx=>?_) (fun x hx=>⟨s',by simp,hx⟩) (fun hbm=>hdis b hbm hbs) (zai.2 ⟨(zaJ.1 hnd).2,h.nodup s',fun x hx y hy e=>?_⟩);all_goals grind
     ·cases h2
    ·cases h2
   ·cases h2
  ·cases h2
 ·split at he
  ·rename_i s v0 fo sz i off hpa;obtain⟨r,h1,h2⟩:=Q.ya he;split at h2
   ·cases h2
   rename_i hcond;have hns:s∉r.2:=by grind
   obtain⟨fz,h3,h4⟩:=Q.ya h2;clear h2;rw[Q.yc]at h4;split at h4;case isFalse=>cases h4
   rename_i hv;split at h4;case h_2=>cases h4
   rename_i et e xs hown;split at h4;case isFalse=>cases h4
   rename_i hsz;subst hsz;split at h4;case h_2=>cases h4
   rename_i y hy;split at h4;case h_2=>cases h4
   rename_i a' hsw;have:=qE h4;subst this;obtain⟨qhw,f1,_,f3,f4⟩:=qcL r.2 h h3;obtain⟨f5,f6⟩:=f3 s hns;obtain⟨_,hpp⟩:=hpa▸hp.unowned (by rw[hpa];rfl);obtain⟨g,n,cap,k1,k2,k3,rfl⟩:=hpp hv;have k1':qe7 (sit C (qh σ fz) a.tmps w qhw) s fo (.slice (some ⟨g,0,none⟩) n cap):=by
    cases fo with
    |none=>exact k1
    |some o=>
     obtain⟨b,m1,m2⟩:=k1;exact⟨b,by show b∈qhw s;rw[f5];exact m1,m2⟩
   obtain⟨hsl,b1,b2,b3,q1,q2,q3,q4⟩:=f1.rowAt (by rw[f6];exact hown) k1';have hrv:=qcm h ho h1;have hrc:Rep w (C.free w qhw) u r.1 v.cells.toList:=hrv.1.keep fun b hb hs=>⟨f4 b hb,hs,rfl⟩;have hg:g∈b2:=by
    obtain⟨_,_,e2,_⟩:=q1;rw[e2];simp[Value.ownBlock]
   have hgs:g∈qhw s:=by grind
   obtain⟨W,hrun,hkept,hbs,hrow'⟩:=qO.store hT q1 (fun x hx e=>hx.2.2 s (by grind)) k2 k3 hy hrc;rw[hrun]at hx;refine qdI hx ?_;rw[hput];have hkept2:qaA (fun k=>k∈b2) w W:=hkept.mono fun k hk=>by grind
   obtain⟨g1,g2⟩:=q4 W (.own et e (qdz xs i y)) b2 a' hkept2 ⟨_,rfl,hrow'⟩ (by grind);rw[qbq];exact⟨qhw,f1.mutK hsl q2 q3 hkept2 (by grind) g2 (AV.yh hsw)⟩
  ·rename_i s v0 off n e i o2 hpa;obtain⟨r,h1,h2⟩:=Q.ya he;split at h2;case isFalse=>cases h2
   rename_i hcond;rw[List.isEmpty_iff]at hcond;rw[Q.yc]at h2;split at h2;case isFalse=>cases h2
   rename_i hv;split at h2;case h_2=>cases h2
   rename_i c hc;split at h2;case h_2=>cases h2
   rename_i xs hg;split at h2;case h_2=>cases h2
   rename_i y hy;split at h2;case h_2=>cases h2
   rename_i c' hput';have:=qE h2;subst this;obtain⟨i0,i1,b,hpb,rfl,_⟩:=qpP hpt (hpa▸hp.unowned (by rw[hpa];rfl)) hv;obtain⟨b',cs,bs',te,k1,k2,k3,k4⟩:=h.box hc;rw[hpb]at k1;obtain⟨rfl,_⟩:=qdC k1;have hrv:=qcm h ho h1;rw[hcond]at hrv;have hrc:Rep w (C.free w own) u r.1 v.cells.toList:=hrv.1.keep fun b hb hs=>⟨qld hb,hs,rfl⟩;obtain⟨g1,_,g3⟩:=k3.get hg;have hreg:=g3 rfl;have hregl:=hreg.length;obtain⟨x,m1,m2,m3⟩:=hreg.elem (i:=i.toNat) (by omega);rw[qeo m1]at hy;obtain⟨u1,u2⟩:=m2.upd hrc hy;have hml:=m2.length;have hvl:=hrc.length;have hnew:=hreg.setElem (i:=i.toNat) (by omega) u2;have hi:((i.toNat:Nat):Int)=i:=by omega
   rw[hi]at hnew;have hinner:List.take o2 (List.take e.size (List.drop (i.toNat*e.size) (List.take (Ty.arr n e).size (List.drop off cs))))++v.cells.toList++List.drop (o2+u.size) (List.take e.size (List.drop (i.toNat*e.size) (List.take (Ty.arr n e).size (List.drop off cs))))=qae (List.take e.size (List.drop (i.toNat*e.size) (List.take (Ty.arr n e).size (List.drop off cs)))) o2 v.cells.toList:=by
    rw[qae,hvl]
   rw[hinner,qlb (by omega) (by omega)]at hnew;obtain⟨p1',bn,p2,p3,p4⟩:=qaz.put (b2:=[]) (qaz.ofVal hnew) k3 hput';rw[qlb (p:=off) (n:=(Ty.arr n e).size) (q:=i.toNat*e.size+o2) (ds:=v.cells.toList) (by omega) (by omega)]at p2;have hrun:=qdV (w:=w) hT (v:=v) (off:=off+i.toNat*e.size+o2) k2 hvl (by simp;omega) (fun z hz=>hrc.oneCell z hz);rw[hrun]at hx;refine qdI hx ?_;rw[hput];have hnd:=h.nodup s;rw[k4]at hnd;have hsplice:(cs.toArray.toList.take (off+i.toNat*e.size+o2)++v.cells.toList++cs.toArray.toList.drop (off+i.toNat*e.size+o2+u.size)).toArray=(qae cs (off+(i.toNat*e.size+o2)) v.cells.toList).toArray:=by
    grind [qae]
   rw[hsplice];generalize hW:w.setRow b (qae cs (off+(i.toNat*e.size+o2)) v.cells.toList).toArray=W;have hkept:qaA (fun k=>k=b) w W:=by grind [qcR]
   have hheap:W.heap[b]? =some (.cells (qae cs (off+(i.toNat*e.size+o2)) v.cells.toList).toArray te (0,0)):=by grind [setRow_heap]
   have hsl:s<σ.length:=hd ⟨s,true,.box c'⟩ (by simp);have hbs:b∈own s:=by grind
   have hbn:b∉bn:=fun hbm=>by
    grind
   have key:=h.mut hsl [] (fun _ hx=>by cases hx) (w':=W) (hkept.mono fun k hk=>.inl (by grind)) (av:= .box c') (v:=a.tmps.getD s undef) (bs:=b::bn)
    (fun x hx=>by
     grind)
    (zaJ.2 ⟨hbn,p4 (by grind)⟩)
    ⟨b,_,bn,te,hpb,hheap,p2.keep (fun x hx hlt=>⟨hx,zaq hlt hkept.size,hkept.block x hlt fun e=>hx.2.2 s (by grind)⟩) (fun x hx hlt=>hkept.block x hlt fun e=>hbn (by grind)),rfl⟩ rfl
   grind [qp5]
  ·cases he
end
end Go.Vi
namespace Go.Vi
open Go.RowKit
theorem qgm (us:List U):∀ {σ:St}{s:Nat},s∉us.map (·.s)→qj (qh σ us) s=qj σ s:=by
 induction us with
 |nil=>intro σ s _;rfl
 |cons u r ih=>
  intro σ s hs;rw[zaC,zak,not_or]at hs;show qj (qh (qG σ u) r) s=_;grind [qw]
theorem qe1 (us:List U):∀ {σ:St}{u:U},(us.map (·.s)).Nodup→u∈us→u.s<σ.length→qj (qh σ us) u.s=((if u.bump then(qj σ u.s).1+1 else(qj σ u.s).1),u.a):=by
 induction us with
 |nil=>grind
 |cons v r ih=>
  intro σ u hn hu hlt;rw[zaC,zaJ]at hn;show qj (qh (qG σ v) r) u.s=_;rcases zak.1 hu with rfl|hu;all_goals grind [qgm,qD,qM,qw]
theorem qK.multi {C:Ctx}{σ:St}{tm tm':Array Value}{w w':World}{own:Own}(h:qK C σ tm w own) (us:List U) (nb:Nat→List Nat) (gh':Nat→Nat→Option Value)
  (hgh:gh'=own.gh∨(qaJ own.gh gh'∧∀s,s∉us.map (·.s)→(qj σ s).2.isHeap=false)) (hn:(us.map (·.s)).Nodup) (hlt:∀u∈us,u.s<σ.length)
  (htm:tm'.size=tm.size) (htms:∀s,s∉us.map (·.s)→tm'.getD s undef=tm.getD s undef)
  (hb:∀u∈us,u.bump=true∨(tm'.getD u.s undef=tm.getD u.s undef∧∀b,b∈own u.s→tm.getD u.s undef=ptr b 0→b∈nb u.s∧w'.heap[b]? =w.heap[b]?))
  (hk:qaA (fun k=>∃u∈us,k∈own u.s) w w')
  (hnb:∀u∈us,(∀b∈nb u.s,(w.heap.size≤b∧b<w'.heap.size)∨∃u0∈us,b∈own u0.s)∧(nb u.s).Nodup)
  (hap:∀u∈us,∀u'∈us,∀b,b∈nb u.s→b∈nb u'.s→u.s=u'.s)
  (hrep:∀X':Sit,X'.P=C.P→X'.pn=C.pn→X'.gh=gh'→X'.w=w'→(∀b,C.free w own b→X'.F b)→(∀b,(∃u∈us,b∈own u.s)→(∀u∈us,b∉nb u.s)→X'.F b)→(∀b,w.heap.size≤b→b<w'.heap.size→(∀u∈us,b∉nb u.s)→X'.F b)→(∀s,X'.ver s=(qj (qh σ us) s).1)→(∀s,X'.tm s=tm'.getD s undef)→
   ∀u∈us,qS X' u.a (tm'.getD u.s undef) (nb u.s))
  (hm:∀u∈us,∀m∈u.a.mentions,m.2≤(qj (qh σ us) m.1).1) (hih:∀u∈us,u.a.isHeap=true→u.s=C.hs):
  ∃own',qK C (qh σ us) tm' w' own'∧own'.gh=gh'∧(∀u∈us,own' u.s=nb u.s)∧(∀s,s∉us.map (·.s)→own' s=own s):=by
 classical
 let own':Own:=⟨fun s=>if s∈us.map (·.s)then nb s else own s,gh'⟩;have oI:∀u∈us,own' u.s=nb u.s:=fun u hu=>by grind
 have oO:∀s,s∉us.map (·.s)→own' s=own s:=fun s hs=>by grind
 have get:∀ {s},s∈us.map (·.s)→∃u∈us,u.s=s:=fun hs=>by
  grind
 refine⟨own',h.update (fun s=>s∈us.map (·.s)) (qB _ _) htm (fun s hs=>⟨qgm us hs,htms s hs,oO s hs⟩) ?_ (hk.mono ?_) ?_ ?_ ?_ ?_ ?_ ?_ hgh,rfl,oI,oO⟩
 ·intro s hs;obtain⟨u,hu,rfl⟩:=get hs;grind [qe1]
 ·grind
 ·grind
 ·grind
 ·grind
 ·intro s hs;obtain⟨u,hu,rfl⟩:=get hs;rw[oI u hu,qe1 us hn hu (hlt u hu)];refine hrep (sit C (qh σ us) tm' w' own') rfl rfl rfl rfl (fun b hbf=>⟨hbf.1,zaq hbf.2.1 hk.size,fun s hs=>?_⟩) (fun b hbo hbn=>?_) (fun b hb1 hb2 hbn=>?_) (fun _=>rfl) (fun _=>rfl) u hu
  ·by_cases hm:s∈us.map (·.s)
   ·obtain⟨v,hv,rfl⟩:=get hm;rw[oI v hv]at hs;rcases(hnb v hv).1 b hs with h1|⟨u0,_,h1⟩
    ·have:=hbf.2.1;omega
    ·exact hbf.2.2 _ h1
   ·rw[oO s hm]at hs;exact hbf.2.2 _ hs
  ·obtain⟨v,hv,hbv⟩:=hbo;obtain⟨h1,h2⟩:=h.mine v.s b hbv;refine⟨.inr h1,zaq h2 hk.size,fun s hs=>?_⟩;by_cases hm:s∈us.map (·.s)
   ·grind
   ·rw[oO s hm]at hs;exact hm (h.apart v.s s b hbv hs▸List.mem_map_of_mem hv)
  ·refine⟨.inr (.inr (Nat.le_trans h.kept.size hb1)),hb2,fun s hs=>?_⟩;by_cases hm:s∈us.map (·.s)
   ·grind
   ·rw[oO s hm]at hs;have:=(h.mine s b hs).2;omega
 all_goals grind [qe1]
end Go.Vi
namespace Go.Vi
open Go.RowKit
section
variable {w:World}{F:Nat→Prop}{gh:Nat→Nat→Option Value}
theorem Rep.toH: {t:Ty}→{x:t.den}→{cs:List Value}→Rep w F t x cs→qa6 w F gh t x cs
 |.pair _ _,_,_,⟨c1,c2,h0,h1,h2⟩=>⟨c1,c2,h0,h1.toH,h2.toH⟩
 |.ptr _ _,_,_,h=>h.elim
 |.sl _ _,_,_,h=>h.elim
 |.int _,_,_,h=>h
 |.bool,_,_,h=>h
 |.str,_,_,h=>h
 |.unit,_,_,h=>h
 |.slice _,_,_,h=>h
 |.arr _ _,_,_,h=>h
 |.err,_,_,h=>h
 |.opt _,_,_,h=>h
 |.map _ _,_,_,h=>h
theorem qa6.plain: {t:Ty}→{x:t.den}→{cs:List Value}→t.plain=true→qa6 w F gh t x cs→Rep w F t x cs
 |.pair _ _,_,_,hp,⟨c1,c2,h0,h1,h2⟩=>by
  simp only[Ty.plain,zad]at hp;exact⟨c1,c2,h0,h1.plain hp.1,h2.plain hp.2⟩
 |.ptr _ _,_,_,hp,_=>by cases hp
 |.sl _ _,_,_,hp,_=>by cases hp
 |.int _,_,_,_,h=>h
 |.bool,_,_,_,h=>h
 |.str,_,_,_,h=>h
 |.unit,_,_,_,h=>h
 |.slice _,_,_,_,h=>h
 |.arr _ _,_,_,_,h=>h
 |.err,_,_,_,h=>h
 |.opt _,_,_,_,h=>h
 |.map _ _,_,_,_,h=>h
theorem qa6.length: {t:Ty}→{x:t.den}→{cs:List Value}→qa6 w F gh t x cs→cs.length=t.size
 |.pair a b,_,_,⟨c1,c2,hc,h1,h2⟩=>by rw[hc,zag,h1.length,h2.length];rfl
 |.ptr _ _,_,_,⟨_,hc,_⟩=>by rw[hc];rfl
 |.sl _ _,_,_,⟨_,hc,_⟩=>by rw[hc];rfl
 |.int _,_,_,h=>Rep.length h
 |.bool,_,_,h=>Rep.length (t:= .bool) h
 |.str,_,_,h=>Rep.length (t:= .str) h
 |.unit,_,_,h=>Rep.length (t:= .unit) h
 |.slice e,_,_,h=>Rep.length (t:= .slice e) h
 |.arr n e,_,_,h=>Rep.length (t:= .arr n e) h
 |.err,_,_,h=>Rep.length (t:= .err) h
 |.opt e,_,_,h=>Rep.length (t:= .opt e) h
 |.map k v,_,_,h=>Rep.length (t:= .map k v) h
theorem qkN.one {k sz:Nat}{x:Int×Int}{v:Value}(h:qkN gh k sz x v):v.oneCell'=true∧∀cs,v≠ .agg cs:=by
 rcases h with⟨_,_,rfl⟩|⟨_,_,_,_,_,_,_,rfl⟩<;>exact⟨rfl,fun cs e=>by cases e⟩
theorem qe2.one {k sz:Nat}{x:Int×(Int×Int)}{v:Value}(h:qe2 gh k sz x v):v.oneCell'=true∧∀cs,v≠ .agg cs:=by
 rcases h with⟨_,_,_,rfl⟩|⟨_,_,_,ad,_,_,_,_,_,rfl|⟨_,_,A,c,rfl⟩⟩
 ·exact⟨rfl,fun cs e=>by cases e⟩
 ·cases ad<;>exact⟨rfl,fun cs e=>by cases e⟩
 ·exact⟨rfl,fun cs e=>by cases e⟩
theorem qa6.oneCell: {t:Ty}→{x:t.den}→{cs:List Value}→qa6 w F gh t x cs→∀v∈cs,v.oneCell'=true
 |.pair a b,_,_,⟨c1,c2,hc,h1,h2⟩,v,hv=>by
  rw[hc]at hv;rcases zaf.1 hv with hv|hv
  ·exact h1.oneCell v hv
  ·exact h2.oneCell v hv
 |.ptr _ _,_,_,⟨_,hc,h⟩,v,hv=>by rw[hc,zah]at hv;exact hv▸h.one.1
 |.sl _ _,_,_,⟨_,hc,h⟩,v,hv=>by rw[hc,zah]at hv;exact hv▸h.one.1
 |.int _,_,_,h,v,hv=>Rep.oneCell h v hv
 |.bool,_,_,h,v,hv=>Rep.oneCell (t:= .bool) h v hv
 |.str,_,_,h,v,hv=>Rep.oneCell (t:= .str) h v hv
 |.unit,_,_,h,v,hv=>Rep.oneCell (t:= .unit) h v hv
 |.slice e,_,_,h,v,hv=>Rep.oneCell (t:= .slice e) h v hv
 |.arr n e,_,_,h,v,hv=>Rep.oneCell (t:= .arr n e) h v hv
 |.err,_,_,h,v,hv=>Rep.oneCell (t:= .err) h v hv
 |.opt e,_,_,h,v,hv=>Rep.oneCell (t:= .opt e) h v hv
 |.map k t,_,_,h,v,hv=>Rep.oneCell (t:= .map k t) h v hv
theorem qa6.as {t u:Ty}{x:t.den}{y:u.den}{cs:List Value}(h:Ty.as u x=some y) (hr:qa6 w F gh t x cs):qa6 w F gh u y cs:=by
 grind [Ty.yd]
theorem qa6.whole {t u:Ty}{x:t.den}{off:Nat}{y:u.den}{cs:List Value}(hr:qa6 w F gh t x cs) (h:Ty.whole u x off=some y):
  off+u.size≤cs.length∧qa6 w F gh u y ((cs.drop off).take u.size):=by
 obtain⟨rfl,h⟩:=Ty.yk h;have hr:=qa6.as h hr;have:=hr.length;grind
theorem qa6.sub: {t:Ty}→{x:t.den}→{cs:List Value}→{off:Nat}→{u:Ty}→{y:u.den}→qa6 w F gh t x cs→t.sub x off u=some y→
  off+u.size≤cs.length∧qa6 w F gh u y ((cs.drop off).take u.size)
 |.pair a b,x,cs,off,u,y,h,hs=>by
  simp only[Ty.sub]at hs;cases hz:Ty.whole (t:= .pair a b) u x off with
  |some z=>
   rw[hz]at hs;injection hs with hs;subst hs;exact qa6.whole h hz
  |none=>
   rw[hz]at hs;obtain⟨c1,c2,rfl,h1,h2⟩:=h;simp only at hs;split at hs
   ·obtain⟨g1,g2⟩:=h1.sub hs;grind
   ·obtain⟨g1,g2⟩:=h2.sub hs;have hl:=h1.length;grind [qbU]
 |.arr n e,x,cs,off,u,y,h,hs=>⟨(Rep.sub (t:= .arr n e) h hs).1,(Rep.sub (t:= .arr n e) h hs).2.toH⟩
 |.ptr _ _,_,_,_,_,_,h,hs=>qa6.whole h hs
 |.sl _ _,_,_,_,_,_,h,hs=>qa6.whole h hs
 |.int _,_,_,_,_,_,h,hs=>qa6.whole h hs
 |.bool,_,_,_,_,_,h,hs=>qa6.whole (t:= .bool) h hs
 |.str,_,_,_,_,_,h,hs=>qa6.whole (t:= .str) h hs
 |.unit,_,_,_,_,_,h,hs=>qa6.whole (t:= .unit) h hs
 |.slice e,_,_,_,_,_,h,hs=>qa6.whole (t:= .slice e) h hs
 |.err,_,_,_,_,_,h,hs=>qa6.whole (t:= .err) h hs
 |.opt e,_,_,_,_,_,h,hs=>qa6.whole (t:= .opt e) h hs
 |.map k v,_,_,_,_,_,h,hs=>qa6.whole (t:= .map k v) h hs
theorem qa6.putWhole {t u:Ty}{x:t.den}{off:Nat}{y:u.den}{z:t.den}{cs ds:List Value}(hr:qa6 w F gh t x cs) (hy:qa6 w F gh u y ds) (h:Ty.whole (t:=u) t y off=some z):
  off+u.size≤cs.length∧qa6 w F gh t z (cs.take off++ds++cs.drop (off+u.size)):=by
 obtain⟨rfl,h⟩:=Ty.yk h;obtain⟨rfl,rfl⟩:=Ty.yd h;have:=hr.length;grind
theorem qa6.upd: {t:Ty}→{x:t.den}→{cs:List Value}→{off:Nat}→{u:Ty}→{y:u.den}→{z:t.den}→{ds:List Value}→t.noArr=true→qa6 w F gh t x cs→qa6 w F gh u y ds→t.upd x off u y=some z→
  off+u.size≤cs.length∧qa6 w F gh t z (cs.take off++ds++cs.drop (off+u.size))
 |.pair a b,x,cs,off,u,y,z,ds,hn,h,hy,hs=>by
  simp only[Ty.noArr,zad]at hn;simp only[Ty.upd]at hs;cases hz:Ty.whole (t:=u) (.pair a b) y off with
  |some z'=>
   rw[hz]at hs;injection hs with hs;subst hs;exact qa6.putWhole h hy hz
  |none=>
   rw[hz]at hs;obtain⟨c1,c2,rfl,h1,h2⟩:=h;simp only at hs;have hdl:=hy.length;split at hs
   ·split at hs
    ·rename_i z' hz';injection hs with hs;subst hs;obtain⟨g1,g2⟩:=h1.upd hn.1 hy hz';exact⟨by grind,_,c2,qiB g1 hdl,g2,h2⟩
    ·cases hs
   ·split at hs
    ·rename_i z' hz';injection hs with hs;subst hs;obtain⟨g1,g2⟩:=h2.upd hn.2 hy hz';have hl:=h1.length;rw[←hl]at g1 g2;exact⟨by grind,c1,_,qgV (by omega),h1,g2⟩
    ·cases hs
 |.arr _ _,_,_,_,_,_,_,_,hn,_,_,_=>by cases hn
 |.ptr _ _,_,_,_,_,_,_,_,_,h,hy,hs=>qa6.putWhole h hy hs
 |.sl _ _,_,_,_,_,_,_,_,_,h,hy,hs=>qa6.putWhole h hy hs
 |.int _,_,_,_,_,_,_,_,_,h,hy,hs=>qa6.putWhole h hy hs
 |.bool,_,_,_,_,_,_,_,_,h,hy,hs=>qa6.putWhole (t:= .bool) h hy hs
 |.str,_,_,_,_,_,_,_,_,h,hy,hs=>qa6.putWhole (t:= .str) h hy hs
 |.unit,_,_,_,_,_,_,_,_,h,hy,hs=>qa6.putWhole (t:= .unit) h hy hs
 |.slice e,_,_,_,_,_,_,_,_,h,hy,hs=>qa6.putWhole (t:= .slice e) h hy hs
 |.err,_,_,_,_,_,_,_,_,h,hy,hs=>qa6.putWhole (t:= .err) h hy hs
 |.opt e,_,_,_,_,_,_,_,_,h,hy,hs=>qa6.putWhole (t:= .opt e) h hy hs
 |.map k v,_,_,_,_,_,_,_,_,h,hy,hs=>qa6.putWhole (t:= .map k v) h hy hs
theorem qa6.putAll {t u:Ty}{x:t.den}{off:Nat}{y:u.den}{cs ds:List Value}(hr:qa6 w F gh t x cs) (hy:qa6 w F gh u y ds) (h:off=0∧t.size=u.size):
  off+u.size≤cs.length∧qa6 w F gh u y (cs.take off++ds++cs.drop (off+u.size)):=by
 have:=hr.length;grind [zaI]
theorem qa6.yi {t u:Ty}{x:t.den}{off:Nat}{y:u.den}{z:(t:Ty)×t.den}{cs ds:List Value}(hr:qa6 w F gh t x cs) (hy:qa6 w F gh u y ds) (h:(if off=0∧t.size=u.size then some (⟨u,y⟩:(t:Ty)×t.den)else none)=some z):
  off+u.size≤cs.length∧qa6 w F gh z.1 z.2 (cs.take off++ds++cs.drop (off+u.size)):=by
 split at h
 ·rename_i hc;injection h with h;subst h;exact hr.putAll hy hc
 ·cases h
theorem qa6.put: {t:Ty}→{x:t.den}→{cs:List Value}→{off:Nat}→{u:Ty}→{y:u.den}→{z:(t:Ty)×t.den}→{ds:List Value}→qa6 w F gh t x cs→qa6 w F gh u y ds→t.put x off u y=some z→
  off+u.size≤cs.length∧qa6 w F gh z.1 z.2 (cs.take off++ds++cs.drop (off+u.size))
 |.pair a b,x,cs,off,u,y,z,ds,h,hy,hs=>by
  simp only[Ty.put]at hs;split at hs
  ·rename_i hc;injection hs with hs;subst hs;exact qa6.putAll (t:= .pair a b) h hy hc.1
  obtain⟨c1,c2,rfl,h1,h2⟩:=h;have hdl:=hy.length;split at hs
  ·split at hs
   ·rename_i r hr;injection hs with hs;subst hs;obtain⟨g1,g2⟩:=h1.put hy hr;exact⟨by grind,_,c2,qiB g1 hdl,g2,h2⟩
   ·cases hs
  ·split at hs
   ·rename_i r hr;injection hs with hs;subst hs;obtain⟨g1,g2⟩:=h2.put hy hr;have hl:=h1.length;rw[←hl]at g1 g2;exact⟨by grind,c1,_,qgV (by omega),h1,g2⟩
   ·cases hs
 |.arr n e,x,cs,off,u,y,z,ds,h,hy,hs=>by cases hs
 |.ptr _ _,_,_,_,_,_,_,_,h,hy,hs=>qa6.yi h hy hs
 |.sl _ _,_,_,_,_,_,_,_,h,hy,hs=>qa6.yi h hy hs
 |.int _,_,_,_,_,_,_,_,h,hy,hs=>qa6.yi h hy hs
 |.bool,_,_,_,_,_,_,_,h,hy,hs=>qa6.yi (t:= .bool) h hy hs
 |.str,_,_,_,_,_,_,_,h,hy,hs=>qa6.yi (t:= .str) h hy hs
 |.unit,_,_,_,_,_,_,_,h,hy,hs=>qa6.yi (t:= .unit) h hy hs
 |.slice e,_,_,_,_,_,_,_,h,hy,hs=>qa6.yi (t:= .slice e) h hy hs
 |.err,_,_,_,_,_,_,_,h,hy,hs=>qa6.yi (t:= .err) h hy hs
 |.opt e,_,_,_,_,_,_,_,h,hy,hs=>qa6.yi (t:= .opt e) h hy hs
 |.map k v,_,_,_,_,_,_,_,h,hy,hs=>qa6.yi (t:= .map k v) h hy hs
theorem qb3.ofCells {t:Ty}{x:t.den}{cs:List Value}(h:qa6 w F gh t x cs):qb3 w F gh t x (mkV t cs):=by
 cases t with
 |ptr k sz=>
  obtain⟨v,rfl,h⟩:=h;exact⟨⟨v,(by show v.cells.toList=[v];rw[qaN h.one.2]),h⟩,(fun e=>(by cases e)),(fun _=>h.one.2)⟩
 |sl k sz=>
  obtain⟨v,rfl,h⟩:=h;exact⟨⟨v,(by show v.cells.toList=[v];rw[qaN h.one.2]),h⟩,(fun e=>(by cases e)),(fun _=>h.one.2)⟩
 |pair a b=>exact⟨by simpa[mkV,Ty.agg,Value.cells]using h,fun _=>⟨_,rfl⟩,fun h=>by simp[Ty.agg]at h⟩
 |int k=>have:=q9.ofCells (t:= .int k) h;exact⟨this.1.toH,this.2⟩
 |bool=>have:=q9.ofCells (t:= .bool) h;exact⟨this.1.toH,this.2⟩
 |str=>have:=q9.ofCells (t:= .str) h;exact⟨this.1.toH,this.2⟩
 |unit=>have:=q9.ofCells (t:= .unit) h;exact⟨this.1.toH,this.2⟩
 |slice e=>have:=q9.ofCells (t:= .slice e) h;exact⟨this.1.toH,this.2⟩
 |arr n e=>have:=q9.ofCells (t:= .arr n e) h;exact⟨this.1.toH,this.2⟩
 |err=>have:=q9.ofCells (t:= .err) h;exact⟨this.1.toH,this.2⟩
 |opt e=>have:=q9.ofCells (t:= .opt e) h;exact⟨this.1.toH,this.2⟩
 |map k v=>have:=q9.ofCells (t:= .map k v) h;exact⟨this.1.toH,this.2⟩
theorem q9.toH {t:Ty}{x:t.den}{v:Value}(h:q9 w F t x v):qb3 w F gh t x v:=⟨h.1.toH,h.2⟩
theorem qb3.plain {t:Ty}{x:t.den}{v:Value}(hp:t.plain=true) (h:qb3 w F gh t x v):q9 w F t x v:=⟨h.1.plain hp,h.2⟩
end
theorem qrV {α:Type}{P:Program}{w:World}{R:World→α→List Value→Prop}{t:Nat}{u:Ty}{et sz g n cap:Nat}{xs:List α}{cells:List Value}{i:Int}{off:Nat}{v:Value}{y:α}(hT:TyB P t u)
  (qN:w.ownsRow 0 et sz (.slice (some ⟨g,0,none⟩) n cap) xs.length cells) (hx:∀(i:Nat) (x:α),xs[i]? =some x→R w x ((cells.drop (i*sz)).take sz))
  (k2:0≤i) (k3:i<n) (hrl:v.cells.toList.length=u.size) (h1:∀x∈v.cells.toList,x.oneCell'=true) (hfit:off+u.size≤sz)
  (hkeep:∀W,qaA (fun k=>k=g) w W→∀x c,R w x c→R W x c)
  (hy:∀W,qaA (fun k=>k=g) w W→∀x c,xs[i.toNat]? =some x→c.length=sz→R w x c→R W y (c.take off++v.cells.toList++c.drop (off+u.size))):
  ∃W cells',(Instr.storeAt t (ptr g (i.toNat*sz+off)) v).run P w=.ok () W∧qaA (fun k=>k=g) w W∧W.ownsRow 0 et sz (.slice (some ⟨g,0,none⟩) n cap) (qdz xs i y).length cells'∧
   ∀(j:Nat) (x:α),(qdz xs i y)[j]? =some x→R W x ((cells'.drop (j*sz)).take sz):=by
 obtain⟨r4,r5⟩:=qN;rcases r5 with⟨r6,_⟩|⟨g',cap',cur,r6,_,r7,r8,r9,r10,r11⟩
 ·cases r6
 injection r6 with r6 r6n r6c;injection r6 with r6;injection r6 with r6;subst r6;subst r6n;subst r6c;have hi:i.toNat<xs.length:=by omega
 have hvs:v.cells.size=u.size:=by omega
 have hcz:cur.toList.length=cur.size:=zaG;have hcl:cells.length=xs.length*sz:=r4;have hin:i.toNat*sz+sz≤xs.length*sz:=by
  rw[←Nat.succ_mul];exact zam _ hi
 have hel:((cells.drop (i.toNat*sz)).take sz).length=sz:=by grind
 have hcur:xs.length*sz≤cur.size:=by grind
 have hrun:=qdV (w:=w) hT (v:=v) (off:=i.toNat*sz+off) r7 hrl (by omega) h1;have hsp:(cur.toList.take (i.toNat*sz+off)++v.cells.toList++cur.toList.drop (i.toNat*sz+off+u.size)).toArray=(qae cur.toList (i.toNat*sz+off) v.cells.toList).toArray:=by rw[qae,hrl]
 rw[hsp]at hrun;generalize hW:w.setRow g (qae cur.toList (i.toNat*sz+off) v.cells.toList).toArray=W at hrun;have hkept:qaA (fun k=>k=g) w W:=by grind [qcR]
 have hheap:W.heap[g]? =some (.cells (qae cur.toList (i.toNat*sz+off) v.cells.toList).toArray et (0,0)):=by grind [setRow_heap]
 have hlx:(qdz xs i y).length=xs.length:=by simp[qbv]
 have hcut:cells=cur.toList.take (xs.length*sz):=r11.symm;refine⟨W,(qae cur.toList (i.toNat*sz+off) v.cells.toList).take (xs.length*sz),hrun,hkept,⟨?_,.inr ⟨g,cap,_,by rw[hlx],zaD _,hheap,by omega,r9,?_,by rw[hlx]⟩⟩,?_⟩
 ·grind
 ·grind
 ·intro j x hj;have hjl:j<xs.length:=by
   grind
  have hjn:j*sz+sz≤xs.length*sz:=by rw[←Nat.succ_mul];exact zam _ hjl
  have e0:(((qae cur.toList (i.toNat*sz+off) v.cells.toList).take (xs.length*sz)).drop (j*sz)).take sz=((qae cur.toList (i.toNat*sz+off) v.cells.toList).drop (j*sz)).take sz:=by
   rw[List.drop_take,List.take_take,zaQ (by omega)]
  rw[e0];have e1:∀k,k*sz+sz≤xs.length*sz→(cells.drop (k*sz)).take sz=(cur.toList.drop (k*sz)).take sz:=fun k hk=>by
   rw[hcut,List.drop_take,List.take_take,zaQ (by omega)]
  by_cases hji:i.toNat=j
  ·subst hji;simp only[qbv]at hj;rw[List.getElem?_set_self hi]at hj;injection hj with hj;subst hj;have:=hy W hkept _ _ (zac hi) hel (hx _ _ (zac hi));rw[e1 _ hjn]at this;have e2:((qae cur.toList (i.toNat*sz+off) v.cells.toList).drop (i.toNat*sz)).take sz=((cur.toList.drop (i.toNat*sz)).take sz).take off++v.cells.toList++((cur.toList.drop (i.toNat*sz)).take sz).drop (off+u.size):=by
    have hs:= @qlx cur.toList v.cells.toList (i.toNat*sz) off u.size sz (by omega) (by omega) hrl;rw[qae,hrl,hs];rw[zau,List.drop_append,zaI (by grind),zaR,show i.toNat*sz-(cur.toList.take (i.toNat*sz)).length=0 by rw[zae,hcz];omega,zaN];rw[zas]
    ·rw[zan];simp only[zag,zae,zal,hrl,hcz];omega
    ·simp only[zag,zae,zal,hrl,hcz];omega
   grind
  ·simp only[qbv]at hj;rw[List.getElem?_set_ne hji]at hj;have hx0:=hx j x hj;rw[e1 _ hjn]at hx0;refine hkeep W hkept _ _ ?_;have:((qae cur.toList (i.toNat*sz+off) v.cells.toList).drop (j*sz)).take sz=(cur.toList.drop (j*sz)).take sz:=by
    apply List.ext_getElem?;intro k;rw[zap,zap];split
    ·rename_i hk;rw[zav,zav,qfE (by omega),hrl];have hne:j*sz+k<i.toNat*sz+off∨i.toNat*sz+off+u.size≤j*sz+k:=by
      rcases Nat.lt_or_gt_of_ne hji with hlt|hgt
      ·right;have:i.toNat*sz+sz≤j*sz:=by rw[←Nat.succ_mul];exact zam _ hlt
       omega
      ·left;have:j*sz+sz≤i.toNat*sz:=by rw[←Nat.succ_mul];exact zam _ hgt
       omega
     rcases hne with hne|hne
     ·rw[if_pos hne]
     ·rw[if_neg (by omega),if_neg (by omega)]
    ·rfl
   grind
end Go.Vi
namespace Go.Vi
open Go.RowKit
theorem qoz {e:Ty}{p:qQ}{r:List (Option (List e.den))}(h:qgZ e p=some r):(⟨p.k,p.et,e,r⟩:qQ)=p:=by
 unfold qgZ at h;split at h
 ·rename_i he;subst he;injection h with h;subst h;rfl
 ·cases h
theorem qhm:(ks:List (Nat×Nat×Ty))→{ps:List qQ}→{x:hden ks}→qjg ks ps=some x→qR ks x=ps
 |[],[],_,_=>rfl
 |q::r,p::ps,x,h=>by
  simp only[qjg]at h;split at h
  ·rename_i hk;split at h
   ·rename_i y z h1 h2;injection h with h;subst h;simp only[qR];rw[qhm r h2,←hk.1,←hk.2,qoz h1]
   ·cases h
  ·cases h
 |[],_::_,_,h=>by cases h
 |_::_,[],_,h=>by cases h
theorem qI.store {P:Program}{w:World}{F:Nat→Prop}{gh:Nat→Nat→Option Value}{t:Nat}{u:Ty}{et:Nat}{e:Ty}{xs:List e.den}{g n cap:Nat}{bs:List Nat}{i:Int}{off:Nat}{v:Value}{y0:u.den}{y:e.den}(hT:TyB P t u) (hn:e.noArr=true) (qN:qI w F gh et e xs (.slice (some ⟨g,0,none⟩) n cap) bs)
  (hF0:∀x,F x→x≠g) (k2:0≤i) (k3:i<n) (hy:e.upd (qJ xs i e.dflt) off u y0=some y) (hrc:qa6 w F gh u y0 v.cells.toList):
  ∃W,(Instr.storeAt t (ptr g (i.toNat*e.size+off)) v).run P w=.ok () W∧qaA (fun k=>k=g) w W∧bs=[g]∧qI W F gh et e (qdz xs i y) (.slice (some ⟨g,0,none⟩) n cap) bs:=by
 obtain⟨cells,r1,r2,r3⟩:=qN;have hbs:bs=[g]:=r2;have hxn:xs.length=n:=by
  rcases r1.2 with⟨r6,_⟩|⟨_,_,_,r6,_⟩;all_goals grind
 have hi:i.toNat<xs.length:=by omega
 have hxi:=zac hi;have hF:∀W,qaA (fun k=>k=g) w W→∀x,F x→x<w.heap.size→F x∧x<W.heap.size∧W.heap[x]? =w.heap[x]? :=fun W hk x hx hlt=>⟨hx,zaq hlt hk.size,hk.block x hlt fun e=>hF0 x hx e⟩;rw[qeo hxi]at hy;have hel:((cells.drop (i.toNat*e.size)).take e.size).length=e.size:=(r3 _ _ hxi).length;have hfit:=((r3 _ _ hxi).upd hn hrc hy).1;rw[hel]at hfit;obtain⟨W,cells',q1,q2,q3,q4⟩:=qrV (R:=fun W x c=>qa6 W F gh e x c) (y:=y) hT r1 r3 k2 k3 hrc.length hrc.oneCell hfit (fun W hk x c h=>h.keep (hF W hk) (qaJ.refl _))
  (fun W hk x c hx hc h=>by
   rw[hxi]at hx;injection hx with hx;subst hx;exact((h.upd hn hrc hy).2).keep (hF W hk) (qaJ.refl _))
 exact⟨W,q1,q2,hbs,cells',q3,r2,q4⟩
section
variable {w:World}{F:Nat→Prop}{gh:Nat→Nat→Option Value}
theorem qhj {k:Nat}: {ps:List qQ}→{p:qQ}→qcy k ps=some p→p.k=k∧p∈ps
 |q::ps,p,h=>by
  unfold qcy at h;split at h
  ·grind
  ·exact⟨(qhj h).1,zaj _ (qhj h).2⟩
theorem qcD {k:Nat}{ps:List qQ}{p:qQ}(h:qcg k ps=some p):k<100∧qcy k ps=some p:=by
 grind [qcg]
theorem qcF {k:Nat}{ps:List qQ}{p:qQ}(h:qcg k ps=some p):p.k=k∧p∈ps:=qhj (qcD h).2
theorem qhf {q r:qQ}: {ps:List qQ}→r∈pset q ps→r=q∨r∈ps
 |[],h=>by cases h
 |p::ps,h=>by
  unfold pset at h;split at h
  ·grind
  ·rcases zak.1 h with h|h
   ·grind
   ·exact(qhf h).imp id (zaj _)
theorem qeR (et:Nat):(ps:List qQ)→(qgs et ps).map (·.k)=ps.map (·.k)
 |[]=>rfl
 |p::ps=>by
  simp only[qgs,zaC,qeR et ps];split<;>rfl
theorem qmD {et k:Nat}(hk:k<100): {ps:List qQ}→{q:qQ}→qcy k ps=some q→qcy k (qgs et ps)=some q
 |p::ps,q,h=>by
  unfold qcy at h;simp only[qgs];split at h
  ·grind [qcy]
  ·rename_i e;have e':∀p':qQ,p'.k=p.k→qcy k (p'::qgs et ps)=qcy k (qgs et ps):=fun p' hp=>by grind [qcy]
   rw[e' _ (by split<;>rfl)];exact qmD hk h
theorem qkA {et k:Nat}{ps:List qQ}{q:qQ}(h:qcg k ps=some q):qcg k (qgs et ps)=some q:=by
 grind [qmD,qcg]
theorem qoW {et:Nat}{r:qQ}: {ps:List qQ}→r∈qgs et ps→(r∈ps∧¬(100≤r.k∧r.et=et))∨r.rows=[]
 |p::ps,h=>by
  simp only[qgs]at h;rcases zak.1 h with h|h
  ·grind
  ·exact(qoW h).imp (fun h=>⟨zaj _ h.1,h.2⟩) id
theorem qe5 (q:qQ):(ps:List qQ)→(pset q ps).map (·.k)=ps.map (·.k)
 |[]=>rfl
 |p::ps=>by
  unfold pset;split
  ·grind
  ·simp[qe5 q ps]
def qr4 (k:Nat) (a b:Nat→Nat→Option Value):Prop:=qaJ a b∧∀k',k'≠k→b k'=a k'
theorem qbA.keepOut {w':World}{F':Nat→Prop}{gh':Nat→Nat→Option Value}(hF:∀b,F b→b<w.heap.size→F' b∧b<w'.heap.size∧w'.heap[b]? =w.heap[b]?) (hg:qaJ gh gh') {p:qQ}(hk:gh' p.k=gh p.k) {bs:List Nat}
  (hb:∀b∈bs,b<w.heap.size→w'.heap[b]? =w.heap[b]?) (h:qbA w F gh p bs):qbA w' F' gh' p bs:=by
 obtain⟨bss,h1,h2,h3,h4⟩:=h;refine⟨bss,h1,h2,fun i hi=>by grind,fun i r b hi hbi=>?_⟩;grind [qI.keep,List.mem_flatten]
theorem qbC.keepOut {w':World}{F':Nat→Prop}{gh':Nat→Nat→Option Value}(hF:∀b,F b→b<w.heap.size→F' b∧b<w'.heap.size∧w'.heap[b]? =w.heap[b]?) (hg:qaJ gh gh'): {ps:List qQ}→{bs:List Nat}→(hk:∀p∈ps,gh' p.k=gh p.k)→
  (hb:∀b∈bs,b<w.heap.size→w'.heap[b]? =w.heap[b]?)→qbC w F gh ps bs→qbC w' F' gh' ps bs
 |[],_,_,_,h=>h
 |p::_,_,hk,hb,⟨b1,b2,h1,h2,h3⟩=>
  ⟨b1,b2,h1,h2.imp (fun h2=>⟨h2.1,h2.2.keepOut hF hg (hk p zar) fun b hm=>hb b (by grind)⟩) id,
   qbC.keepOut hF hg (fun q hq=>hk q (zaj _ hq)) (fun b hm=>hb b (by grind)) h3⟩
theorem qbC.findR {k:Nat}(hk1:k<100): {ps:List qQ}→{bs:List Nat}→{p:qQ}→(ps.map (·.k)).Nodup→qbC w F gh ps bs→qcy k ps=some p→
  ∃b1 b2 b3,bs=b1++(b2++b3)∧qbA w F gh p b2∧
   ∀(w':World) (F':Nat→Prop) (gh':Nat→Nat→Option Value) (p':qQ) (b2':List Nat),(∀b,F b→b<w.heap.size→F' b∧b<w'.heap.size∧w'.heap[b]? =w.heap[b]?)→qr4 k gh gh'→(∀b,b∈b1∨b∈b3→b<w.heap.size→w'.heap[b]? =w.heap[b]?)→
    p'.k=k→qbA w' F' gh' p' b2'→qbC w' F' gh' (pset p' ps) (b1++(b2'++b3))
 |q::ps,bs,p,hn,⟨c1,c2,h1,h2,h3⟩,hp=>by
  rw[zaC,zaJ]at hn;unfold qcy at hp;split at hp
  ·rename_i hk;injection hp with hp;subst hp;have h2:qbA w F gh q c1:=by
    rcases h2 with h2|h2;all_goals grind
   refine⟨[],c1,c2,by rw[h1];rfl,h2,fun w' F' gh' p' b2' hF hg hb hk' hp'=>?_⟩;unfold pset;rw[if_pos (hk.trans hk'.symm)];refine⟨b2',c2,rfl,.inl ⟨by omega,hp'⟩,h3.keepOut hF hg.1 (fun r hr=>hg.2 _ fun e=>?_) fun b hm=>hb b (.inr hm)⟩;grind
  ·rename_i hk;obtain⟨b1,b2,b3,g1,g2,g3⟩:=qbC.findR hk1 hn.2 h3 hp;refine⟨c1++b1,b2,b3,by grind,g2,fun w' F' gh' p' b2' hF hg hb hk' hp'=>?_⟩;unfold pset;rw[if_neg (by omega)];exact⟨c1,b1++(b2'++b3),by simp,h2.imp (fun h2=>⟨h2.1,h2.2.keepOut hF hg.1 (hg.2 _ hk) (fun b hm=>hb b (.inl (zab _ hm)))⟩) id,
    g3 w' F' gh' p' b2' hF hg (fun b hm=>hb b (hm.imp (fun h=>zaa _ h) id)) hk' hp'⟩
theorem qbC.find {k:Nat}{ps:List qQ}{bs:List Nat}{p:qQ}(hn:(ps.map (·.k)).Nodup) (h:qbC w F gh ps bs) (hp:qcg k ps=some p):
  ∃b1 b2 b3,bs=b1++(b2++b3)∧qbA w F gh p b2∧
   ∀(w':World) (F':Nat→Prop) (gh':Nat→Nat→Option Value) (p':qQ) (b2':List Nat),(∀b,F b→b<w.heap.size→F' b∧b<w'.heap.size∧w'.heap[b]? =w.heap[b]?)→qr4 k gh gh'→(∀b,b∈b1∨b∈b3→b<w.heap.size→w'.heap[b]? =w.heap[b]?)→
    p'.k=k→qbA w' F' gh' p' b2'→qbC w' F' gh' (pset p' ps) (b1++(b2'++b3)):=qbC.findR (qcD hp).1 hn h (qcD hp).2
theorem qL.find {k:Nat}{ps:List qQ}{bs:List Nat}{p:qQ}(hn:(ps.map (·.k)).Nodup) (h:qL w F gh ps bs) (hp:qcg k ps=some p):
  ∃b1 b2 b3,bs=b1++(b2++b3)∧qbA w F gh p b2∧
   ∀(w':World) (F':Nat→Prop) (gh':Nat→Nat→Option Value) (p':qQ) (b2':List Nat),(∀b,F b→b<w.heap.size→F' b∧b<w'.heap.size∧w'.heap[b]? =w.heap[b]?)→qr4 k gh gh'→(∀b,b∈b1∨b∈b3→b<w.heap.size→w'.heap[b]? =w.heap[b]?)→
    p'.k=k→qbA w' F' gh' p' b2'→qbC w' F' gh' (pset p' ps) (b1++(b2'++b3)):=h.1.find hn hp
theorem qbC.clr {et:Nat}: {ps:List qQ}→{bs:List Nat}→qbC w F gh ps bs→qbC w F gh (qgs et ps) bs
 |[],_,h=>h
 |p::ps,bs,⟨b1,b2,h1,h2,h3⟩=>by
  simp only[qgs];refine⟨b1,b2,h1,?_,qbC.clr h3⟩;cases hc:(decide (100≤p.k)&&decide (p.et=et))with
  |false=>exact h2
  |true=>
   simp only[zad,decide_eq_true_eq]at hc;rcases h2 with h2|h2
   ·omega
   ·exact .inr h2
theorem qbC.psetRo {q:qQ}(hq:100≤q.k): {ps:List qQ}→{bs:List Nat}→qbC w F gh ps bs→qbC w F gh (pset q ps) bs
 |[],_,h=>h
 |p::ps,bs,⟨b1,b2,h1,h2,h3⟩=>by
  unfold pset;split
  ·rename_i e;refine⟨b1,b2,h1,?_,h3⟩;rcases h2 with h2|h2
   ·omega
   ·exact .inr ⟨hq,h2.2⟩
  ·exact⟨b1,b2,h1,h2,qbC.psetRo hq h3⟩
theorem qeG {q q0:qQ}(hk:q0.k=q.k): {ps:List qQ}→q0∈ps→q∈pset q ps
 |p::ps,h=>by
  unfold pset;split
  ·grind
  ·rename_i e;rcases zak.1 h with h|h
   ·grind
   ·exact zaj _ (qeG hk h)
theorem qds {q r:qQ}(hk:r.k≠q.k): {ps:List qQ}→r∈ps→r∈pset q ps
 |p::ps,h=>by
  unfold pset;split
  ·grind
  ·rcases zak.1 h with h|h
   ·grind
   ·exact zaj _ (qds hk h)
theorem qkh {q r:qQ}: {ps:List qQ}→(ps.map (·.k)).Nodup→r∈pset q ps→r=q∨(r∈ps∧r.k≠q.k)
 |[],_,h=>by cases h
 |p::ps,hn,h=>by
  rw[zaC,zaJ]at hn;unfold pset at h;split at h
  ·grind
  ·rename_i e;rcases zak.1 h with h|h
   ·grind
   ·exact(qkh hn.2 h).imp id fun h=>⟨zaj _ h.1,h.2⟩
theorem qeQ {p q:qQ}: {ps:List qQ}→(ps.map (·.k)).Nodup→p∈ps→q∈ps→p.k=q.k→p=q
 |x::ps,hn,hp,hq,e=>by
  rw[zaC,zaJ]at hn;rcases zak.1 hp with hp|hp<;>rcases zak.1 hq with hq|hq
  ·rw[hp,hq]
  ·grind
  ·grind
  ·exact qeQ hn.2 hp hq e
theorem qot {et:Nat}{r:qQ}(hr:r.et≠et): {ps:List qQ}→r∈ps→r∈qgs et ps
 |p::ps,h=>by
  simp only[qgs];rcases zak.1 h with h|h
  ·grind
  ·exact zaj _ (qot hr h)
theorem qgp.pset {q0:qQ}{R:List (Option (List q0.e.den))}{ps:List qQ}(hn:(ps.map (·.k)).Nodup) (hq:q0∈ps) (hR:∀(j:Nat) (ys:List q0.e.den),q0.rows[j]? =some (some ys)→R[j]? =some (some ys)) {k et n b:Nat}(h:qgp ps gh k et n b):qgp (Go.Vi.pset { q0 with rows:=R } ps) gh k et n b:=by
 obtain⟨p,h1,h2,h3,j,ys,hd,h4,h5⟩:=h;by_cases e:p.k=q0.k
 ·have:=qeQ hn h1 hq e;subst this;exact⟨{ p with rows:=R },qeG (q:= { p with rows:=R }) (q0:=p) rfl h1,h2,h3,j,ys,hd,hR j ys h4,h5⟩
 ·exact⟨p,qds (q:= { q0 with rows:=R }) e h1,h2,h3,j,ys,hd,h4,h5⟩
theorem qjF.mono {w':World}{F':Nat→Prop}{gh':Nat→Nat→Option Value}{bs bs':List Nat}{ps ps':List qQ}{r:qQ}(hg:qaJ gh gh') (hF:∀b,F b→b<w.heap.size→F' b∧b<w'.heap.size∧w'.heap[b]? =w.heap[b]?)
  (hb:∀b∈bs,∀n,b<w.heap.size→qgp ps gh (r.k-100) r.et n b→w'.heap[b]? =w.heap[b]? ∧(F' b∨(b∈bs'∧qgp ps' gh' (r.k-100) r.et n b))) (h:qjF w F gh bs ps r):qjF w' F' gh' bs' ps' r:=fun i xs hi=>by
 obtain⟨hd,h1,h2,h3⟩:=h i xs hi;have hsz:∀b∈hd.ownBlock.toList,b<w.heap.size:=fun b hm=>by
  obtain⟨cells,k1,_⟩:=h2;exact qi9 k1 hm
 refine⟨hd,hg _ _ _ h1,qI.keep hF hg (fun b hm hl=>?_) h2,fun b hm=>?_⟩;all_goals grind
theorem qhX.add {gh':Nat→Nat→Option Value}{bs bs':List Nat}{ps:List qQ}{q0:qQ}{R:List (Option (List q0.e.den))}(hn:(ps.map (·.k)).Nodup) (hq:q0∈ps) (hk:q0.k<100) (hR:∀(j:Nat) (ys:List q0.e.den),q0.rows[j]? =some (some ys)→R[j]? =some (some ys))
  (hg:qaJ gh gh') (hbs:∀b∈bs,b∈bs') (h:qhX w F gh bs ps):qhX w F gh' bs' (Go.Vi.pset { q0 with rows:=R } ps):=fun r hr hk'=>by
 rcases qkh hn hr with rfl|⟨hr,_⟩
 ·grind
 ·exact qjF.mono hg (fun b hb hl=>⟨hb,hl,rfl⟩) (fun b hb n _ hl=>⟨rfl,.inr ⟨hbs b hb,(hl.mono hg).pset hn hq hR⟩⟩) (h r hr hk')
theorem qhX.store {w':World}{F':Nat→Prop}{bs bs':List Nat}{ps:List qQ}{q0:qQ}{R:List (Option (List q0.e.den))}(hn:(ps.map (·.k)).Nodup) (hq:q0∈ps) (hk:q0.k<100) {gh':Nat→Nat→Option Value}(hg:qaJ gh gh') (hF:∀b,F b→b<w.heap.size→F' b∧b<w'.heap.size∧w'.heap[b]? =w.heap[b]?)
  (hb:∀b∈bs,b<w.heap.size→(w'.heap[b]? =w.heap[b]? ∨∃cur,w.heap[b]? =some (.cells cur q0.et (0,0)))∧(F' b∨b∈bs')) (h:qhX w F gh bs ps):qhX w' F' gh' bs' (Go.Vi.pset { q0 with rows:=R } (qgs q0.et ps)):=fun r hr hk' i xs hi=>by
 rcases qhf hr with rfl|hr
 ·grind
 rcases qoW hr with⟨hr,hne⟩|hr
 ·have hne:r.et≠q0.et:=fun e=>hne ⟨hk',e⟩;obtain⟨hd,h1,h2,h3⟩:=h r hr hk' i xs hi;have hbl:∀b∈hd.ownBlock.toList,b<w.heap.size∧∃cur,w.heap[b]? =some (.cells cur r.et (0,0)):=fun b hm=>by
   obtain⟨cells,k1,_⟩:=h2;grind [qcW]
  refine⟨hd,hg _ _ _ h1,qI.keep hF hg (fun b hm hl=>?_) h2,fun b hm=>?_⟩
  ·grind
  ·rcases h3 b hm with h|h
   ·grind
   ·refine(hb b h.1 (hbl b hm).1).2.imp id fun h6=>⟨h6,?_⟩;obtain⟨p,g1,g2,g3,j,ys,hd',g4,g5,g6⟩:=h.2;refine⟨p,qds (q:= { q0 with rows:=R }) (fun e=>?_) (qot (by omega) g1),g2,g3,j,ys,hd',g4,hg _ _ _ g5,g6⟩;grind [qeQ]
 grind
theorem qbN {α:Type}{rows:List (Option (List α))}{id:Int}{xs:List α}(h:qN rows id=some xs):0≤id∧rows[id.toNat]? =some (some xs):=by
 grind [qa9]
theorem qbA.row {p:qQ}{bs:List Nat}(h:qbA w F gh p bs) {id:Int}{xs:List p.e.den}(hr:qN p.rows id=some xs):
  ∃hd c1 c2 c3,gh p.k id.toNat=some hd∧bs=c1++(c2++c3)∧qI w F gh p.et p.e xs hd c2∧
   ∀(w':World) (F':Nat→Prop) (gh':Nat→Nat→Option Value) (r:Option (List p.e.den)) (c2':List Nat),(∀b,F b→b<w.heap.size→F' b∧b<w'.heap.size∧w'.heap[b]? =w.heap[b]?)→qaJ gh gh'→gh' p.k=gh p.k→(∀b,b∈c1∨b∈c3→b<w.heap.size→w'.heap[b]? =w.heap[b]?)→
    (match r with
     |none=>c2'=[]
     |some ys=>qI w' F' gh' p.et p.e ys hd c2')→qbA w' F' gh' { p with rows:=p.rows.set id.toNat r } (c1++(c2'++c3)):=by
 obtain⟨bss,h1,h2,h3,h4⟩:=h;obtain⟨h0,hr⟩:=qbN hr;have hlt:id.toNat<p.rows.length:=(zaK.1 hr).1;have hlb:id.toNat<bss.length:=by omega
 obtain⟨hd,g1,g2⟩:=h4 _ _ _ hr (zac hlb);have hspl:bss=bss.take id.toNat++bss[id.toNat]::bss.drop (id.toNat+1):=by simp_all
 refine⟨hd,(bss.take id.toNat).flatten,bss[id.toNat],(bss.drop (id.toNat+1)).flatten,g1,?_,g2,fun w' F' gh' r c2' hF hg hk hb hnew=>?_⟩
 ·grind
 ·refine⟨bss.set id.toNat c2',?_,by simp[h2],fun i hi=>by grind,fun i r' b hi hbi=>?_⟩
  ·grind
  by_cases he:id.toNat=i
  ·grind
  ·rw[List.getElem?_set_ne he]at hi hbi;obtain⟨hd',q1,q2⟩:=h4 i r' b hi hbi;refine⟨hd',by grind,?_⟩;cases r' with
   |none=>exact q2
   |some ys=>
    refine qI.keep hF hg (fun b' hb'=>hb b' ?_) q2;have hil:i<bss.length:=(zaK.1 hbi).1;rcases Nat.lt_or_gt_of_ne he with hlt'|hgt
    ·right;refine List.mem_flatten.2 ⟨b,?_,hb'⟩;refine List.mem_of_getElem? (i:=i-(id.toNat+1)) ?_;rw[zav,show id.toNat+1+(i-(id.toNat+1))=i by omega];exact hbi
    grind [List.mem_flatten]
def qfr (gh:Nat→Nat→Option Value) (k id:Nat) (hd:Value):Nat→Nat→Option Value:=fun k' i=>if k'=k∧i=id then some hd else gh k' i
theorem qg1 {k id:Nat}{hd:Value}(h:gh k id=none):qr4 k gh (qfr gh k id hd):=by
 refine⟨fun k' i v hv=>?_,fun k' hk=>funext fun i=>if_neg fun e=>hk e.1⟩;grind [qfr]
theorem qd3 {k id:Nat}{hd:Value}:qfr gh k id hd k id=some hd:=if_pos ⟨rfl,rfl⟩
theorem qbA.add {p:qQ}{bs:List Nat}(h:qbA w F gh p bs) {ys:List p.e.den}{hd:Value}{c:List Nat}(hn:qI w F gh p.et p.e ys hd c):
  qbA w F (qfr gh p.k p.rows.length hd) { p with rows:=p.rows++[some ys] } (bs++c):=by
 obtain⟨bss,h1,h2,h3,h4⟩:=h;have hg:=(qg1 (hd:=hd) (h3 _ (zax _))).1;have hF:∀b,F b→b<w.heap.size→F b∧b<w.heap.size∧w.heap[b]? =w.heap[b]? :=fun b hb hl=>⟨hb,hl,rfl⟩;refine⟨bss++[c],by rw[h1];simp,by simp[h2],fun i hi=>?_,fun i r b hi hb=>?_⟩
 ·grind [qfr]
 ·show ∃hd',qfr gh p.k p.rows.length hd p.k i=some hd'∧_;by_cases hlt:i<p.rows.length
  ·rw[List.getElem?_append_left hlt]at hi;rw[List.getElem?_append_left (by omega)]at hb;obtain⟨hd',q1,q2⟩:=h4 i r b hi hb;refine⟨hd',hg _ _ _ q1,?_⟩;grind [qI.keep]
  ·have hi':i=p.rows.length:=by
    grind
   subst hi';rw[List.getElem?_append_right (zax _),Nat.sub_self]at hi;rw[←h2,List.getElem?_append_right (zax _),Nat.sub_self]at hb;injection hi with hi;injection hb with hb;subst hi;subst hb;exact⟨hd,qd3,qI.keep hF hg (fun _ _ _=>rfl) hn⟩
theorem qL.at {ps:List qQ}{bs:List Nat}{q:qQ}{k g n cap:Nat}{id i:Int}{xs:List q.e.den}(hn:(ps.map (·.k)).Nodup) (hh:qL w F gh ps bs) (hq:qcg k ps=some q) (hr:qN q.rows id=some xs)
  (hg:gh k id.toNat=some (.slice (some ⟨g,0,none⟩) n cap)) (i0:0≤i) (i1:i<(n:Int)):
  xs.length=n∧g∈bs∧g<w.heap.size∧∃cs,qem w ⟨g,i.toNat*q.e.size,none⟩ cs∧qa6 w F gh q.e (qJ xs i q.e.dflt) cs:=by
 obtain⟨b1,b2,b3,e1,h2,_⟩:=hh.find hn hq;obtain⟨hd,c1,c2,c3,g1,e2,h3,_⟩:=h2.row hr;have hk:=(qcF hq).1;rw[hk,hg]at g1;injection g1 with g1;subst g1;obtain⟨cells,r1,r2,r3⟩:=h3;have hxn:xs.length=n∧g<w.heap.size:=by
  rcases r1.2 with⟨r6,_⟩|⟨_,_,_,r6,_,r7,_⟩;all_goals grind
 have hi:i.toNat<xs.length:=by omega
 have hxi:=zac hi;refine⟨hxn.1,by grind [Value.ownBlock],hxn.2,(cells.drop (i.toNat*q.e.size)).take q.e.size,fun j u hj=>?_,?_⟩
 ·rw[zap]at hj;split at hj
  ·rw[zav]at hj;have:=r1.cells (g:=g) rfl _ _ hj;grind [qx]
  ·cases hj
 grind [qeo]
theorem qjF.yw {w':World}{F':Nat→Prop}{gh':Nat→Nat→Option Value}{bs bs':List Nat}{ps ps':List qQ}{r:qQ}{et:Nat}(hne:r.et≠et) (hg:qaJ gh gh') (hF:∀b,F b→b<w.heap.size→F' b∧b<w'.heap.size∧w'.heap[b]? =w.heap[b]?)
  (hb:∀b∈bs,b<w.heap.size→(w'.heap[b]? =w.heap[b]? ∨∃cur,w.heap[b]? =some (.cells cur et (0,0)))∧(F' b∨b∈bs')) (hps:∀p∈ps,p.et≠et→p∈ps') (h:qjF w F gh bs ps r):qjF w' F' gh' bs' ps' r:=fun i xs hi=>by
 obtain⟨hd,h1,h2,h3⟩:=h i xs hi;have hbl:∀b∈hd.ownBlock.toList,b<w.heap.size∧∃cur,w.heap[b]? =some (.cells cur r.et (0,0)):=fun b hm=>by
  obtain⟨cells,k1,_⟩:=h2;grind [qcW]
 refine⟨hd,hg _ _ _ h1,qI.keep hF hg (fun b hm hl=>?_) h2,fun b hm=>?_⟩
 ·grind
 ·rcases h3 b hm with h|h
  ·grind
  ·refine(hb b h.1 (hbl b hm).1).2.imp id fun h6=>⟨h6,?_⟩;obtain⟨p,g1,g2,g3,j,ys,hd',g4,g5,g6⟩:=h.2;exact⟨p,hps p g1 (by omega),g2,g3,j,ys,hd',g4,hg _ _ _ g5,g6⟩
theorem qlv {k:Nat}: {ps:List qQ}→qcy k ps=none→∀p∈ps,p.k≠k
 |q::ps,h,p,hp=>by
  unfold qcy at h;split at h
  ·cases h
  ·rename_i e;rcases zak.1 hp with hp|hp
   ·grind
   ·exact qlv h p hp
theorem qok {r:qQ}: {ps:List qQ}→qcy r.k ps=some r→pset r ps=ps
 |p::ps,h=>by
  unfold qcy at h;unfold pset;split at h
  ·grind
  ·rename_i e;rw[if_neg e,qok h]
theorem qkv {q:qQ}{k:Nat}(hk:q.k≠k): {ps:List qQ}→qcy k (pset q ps)=qcy k ps
 |[]=>rfl
 |p::ps=>by
  unfold pset;split
  ·grind [qcy]
  ·simp only[qcy,qkv hk]
section
variable {k:Nat}{q:qQ}{s:Int×(Int×Int)}{ys:List q.e.den}{ps:List qQ}
theorem qiW (h:qtj k q.et q.e ps=true) {r:qQ}(hr:r∈ps) (hk:100≤r.k):(r.k=100+k∧r.et=q.et∧r.e=q.e)∨(r.k≠100+k∧r.et≠q.et):=by
 have:=List.all_eq_true.1 h r hr;grind
theorem qhi (h:qtj k q.et q.e ps=true):(roApp k q s ys ps=ps∧∀r∈ps,r.k≠100+k)∨∃ro:List (Option (List q.e.den)),qcy (100+k) ps=some ⟨100+k,q.et,q.e,ro⟩∧roApp k q s ys ps=pset ⟨100+k,q.et,q.e,qjL q.rows s ys ro⟩ ps:=by
 unfold roApp;split
 ·rename_i r hr;obtain⟨h1,h2⟩:=qhj hr;rcases qiW h h2 (by omega)with⟨_,e2,e3⟩|⟨e,_⟩
  ·obtain⟨rk,ret,re,rr⟩:=r;grind [qgZ]
  omega
 grind [qlv]
theorem ql4 (h:qtj k q.et q.e ps=true) (hs:∀ro,qjL q.rows s ys ro=ro):roApp k q s ys ps=ps:=by
 grind [qhi,qok]
theorem qoT (h:qtj k q.et q.e ps=true):(roApp k q s ys ps).map (·.k)=ps.map (·.k):=by
 grind [qhi,qe5]
theorem qqY (h:qtj k q.et q.e ps=true) (hq:qcg k ps=some q):qcg k (roApp k q s ys ps)=some q:=by
 grind [qhi,qkv,qcg]
theorem qk0 (h:qtj k q.et q.e ps=true) (hn:(ps.map (·.k)).Nodup) {r:qQ}(hr:r∈roApp k q s ys ps) (hk:100≤r.k):(∃ro:List (Option (List q.e.den)),(⟨100+k,q.et,q.e,ro⟩:qQ)∈ps∧r=⟨100+k,q.et,q.e,qjL q.rows s ys ro⟩)∨(r∈ps∧r.et≠q.et):=by
 rcases qhi (s:=s) (ys:=ys) h with⟨h1,h2⟩|⟨ro,h1,h2⟩
 ·grind [qiW]
 ·rw[h2]at hr;rcases qkh hn hr with rfl|⟨hr,hne⟩
  ·exact .inl ⟨ro,(qhj h1).2,rfl⟩
  grind [qiW]
theorem qiE (h:qtj k q.et q.e ps=true) (hn:(ps.map (·.k)).Nodup) {p:qQ}(hp:p∈ps) (hne:p.k≠100+k):p∈roApp k q s ys ps:=by
 grind [qhi,qds]
theorem qbC.roApp {bs:List Nat}(h:qtj k q.et q.e ps=true) (hh:qbC w F gh ps bs):qbC w F gh (Go.Vi.roApp k q s ys ps) bs:=by
 rcases qhi (s:=s) (ys:=ys) h with⟨h1,_⟩|⟨ro,h1,h2⟩
 ·grind
 ·rw[h2];exact hh.psetRo (by grind)
end
theorem qof: {l:List (List Nat)}→l.flatten.Nodup→∀ {i j:Nat}{x y:List Nat}{b:Nat},l[i]? =some x→l[j]? =some y→b∈x→b∈y→i=j
 |[],_,i,j,_,_,_,h,_,_,_=>by simp at h
 |a::l,hn,i,j,x,y,b,hx,hy,b1,b2=>by
  rw[List.flatten_cons,zai]at hn;cases i with
  |zero=>
   grind [List.mem_flatten]
  |succ i=>
   cases j with
   |zero=>
    grind [List.mem_flatten]
   |succ j=>exact congrArg (· +1) (qof hn.2.1 (by simpa using hx) (by simpa using hy) b1 b2)
theorem qbA.uniq {p:qQ}{bs:List Nat}(h:qbA w F gh p bs) (hn:bs.Nodup) {i j:Nat}{xs ys:List p.e.den}{hi hj:Value}{b:Nat}(h1:p.rows[i]? =some (some xs)) (h2:p.rows[j]? =some (some ys)) (g1:gh p.k i=some hi) (g2:gh p.k j=some hj) (b1:b∈hi.ownBlock.toList) (b2:b∈hj.ownBlock.toList):i=j:=by
 obtain⟨bss,e1,e2,_,e4⟩:=h;have l1:i<bss.length:=by grind
 have l2:j<bss.length:=by grind
 obtain⟨hd,k1,_,_,k2,_⟩:=e4 i _ _ h1 (zac l1);obtain⟨hd',k1',_,_,k2',_⟩:=e4 j _ _ h2 (zac l2);rw[g1]at k1;injection k1 with k1;subst k1
 rw[g2]at k1';injection k1' with k1';subst k1'
 rw[e1]at hn;exact qof hn (zac l1) (zac l2) (k2▸b1) (k2'▸b2)
theorem qI.pfx {W:World}{F':Nat→Prop}{gh':Nat→Nat→Option Value}{et m:Nat}{e:Ty}{zs:List e.den}{hd:Value}{bl:List Nat}(hF:∀b,F b→b<w.heap.size→F' b∧b<W.heap.size∧W.heap[b]? =w.heap[b]?) (hg:qaJ gh gh')
  (hb:∀b∈hd.ownBlock.toList,W.heap[b]? =w.heap[b]? ∨∃cur cur':Array Value,w.heap[b]? =some (.cells cur et (0,0))∧W.heap[b]? =some (.cells cur' et (0,0))∧cur'.size=cur.size∧cur'.toList.take (m*e.size)=cur.toList.take (m*e.size)∧zs.length≤m) (h:qI w F gh et e zs hd bl):qI W F' gh' et e zs hd bl:=by
 obtain⟨cells,h1,h2,h3⟩:=h;refine⟨cells,⟨h1.1,?_⟩,h2,fun i x hi=>(h3 i x hi).keep hF hg⟩;rcases h1.2 with h|⟨g,cap,cur,rfl,k1,k2,k3,k4,k5,k6⟩
 ·exact .inl h
 ·rcases hb g (by simp[Value.ownBlock])with h|⟨c1,c2,q1,q2,q3,q4,q5⟩
  ·grind
  ·rw[k2]at q1;injection q1 with q1;injection q1 with q1 _ _;subst q1;refine .inr ⟨g,cap,c2,rfl,k1,q2,k3,k4,by omega,?_⟩;have hle:zs.length*e.size≤m*e.size:=zam _ q5;have:=congrArg (List.take (zs.length*e.size)) q4;grind
theorem quM {α:Type}{rows ro:List (Option (List α))}{id:Int}{xs:List α}(h:hrd rows ro id=some xs):qN rows id=some xs∨qN ro id=some xs:=by
 grind [qvS,qa9,hrdL]
theorem qro {k:Nat}{ps:List qQ}{q:qQ}{id:Int}{xs:List q.e.den}(h:qkn k ps q id=some xs):0≤id:=by
 unfold qkn at h;split at h
 ·split at h
  ·exact(quM h).elim (fun h=>(qbN h).1) fun h=>(qbN h).1
  ·exact(qbN h).1
 ·exact(qbN h).1
theorem qL.atX {ps:List qQ}{bs:List Nat}{q:qQ}{k g n cap:Nat}{id i:Int}{xs:List q.e.den}(hn:(ps.map (·.k)).Nodup) (hh:qL w F gh ps bs) (hq:qcg k ps=some q) (hr:qkn k ps q id=some xs)
  (hg:gh k id.toNat=some (.slice (some ⟨g,0,none⟩) n cap)) (i0:0≤i) (i1:i<(n:Int)):
  xs.length=n∧∃cs,qem w ⟨g,i.toNat*q.e.size,none⟩ cs∧qa6 w F gh q.e (qJ xs i q.e.dflt) cs:=by
 have live:qN q.rows id=some xs→xs.length=n∧∃cs,qem w ⟨g,i.toNat*q.e.size,none⟩ cs∧qa6 w F gh q.e (qJ xs i q.e.dflt) cs:=fun hr=>by
  obtain⟨h1,_,_,h2⟩:=hh.at hn hq hr hg i0 i1;grind
 unfold qkn at hr;split at hr;case h_2=>exact live hr
 rename_i r hro;split at hr;case h_2=>exact live hr
 rename_i ro hra;rcases quM hr with hr|hr
 ·exact live hr
 obtain⟨hrk,hrm⟩:=qhj hro;unfold qgZ at hra;split at hra;case isFalse=>cases hra
 rename_i he;obtain⟨rk,ret,re,rr⟩:=r;simp only at he hrk;subst he;injection hra with hra;subst hra;obtain⟨hd,h1,h3,_⟩:=hh.2 _ hrm (by grind) id.toNat xs (qbN hr).2;have h1:gh (rk-100) id.toNat=some hd:=h1;rw[show rk-100=k by omega,hg]at h1;injection h1 with h1;subst h1;obtain⟨cells,r1,r2,r3⟩:=h3;have hxn:xs.length=n:=by
  rcases r1.2 with⟨r6,_⟩|⟨_,_,_,r6,_,r7,_⟩;all_goals grind
 have hi:i.toNat<xs.length:=by omega
 have hxi:=zac hi;refine⟨hxn,(cells.drop (i.toNat*q.e.size)).take q.e.size,fun j u hj=>?_,?_⟩
 ·rw[zap]at hj;split at hj
  ·rw[zav]at hj;have:=r1.cells (g:=g) rfl _ _ hj;grind [qx]
  ·cases hj
 grind [qeo]
end
end Go.Vi
namespace Go.Vi
open Go.RowKit
section
variable {C:Ctx}{E:Env}{σ:St}{a:Act}{w w':World}{own:Own}{o:Oper} [Tabbed E C]
theorem qK.newBox (h:qK C σ a.tmps w own) {d:Nat}(hd:d<σ.length) (cons:List Nat) (hcons:∀s∈cons,s<σ.length∧s≠d) {c:BC}{cs:List Value}{bs:List Nat}{te:Nat}(hc:qaz w (C.free w own) c cs bs)
  (hb:∀b∈bs,∃s∈cons,b∈own s) (hnd:bs.Nodup):∃own',qK C (qh σ (cons.map (fun s=>⟨s,true,.undef⟩)++[⟨d,true,.box c⟩])) (a.tmps.setIfInBounds d (ptr w.heap.size 0)) (w.alloc (.cells cs.toArray te)) own':=by
 have hlt:∀b∈bs,b<w.heap.size:=fun b hbm=>by
  obtain⟨s,_,hs⟩:=hb b hbm;exact(h.mine s b hs).2
 have hold:∀k,k<w.heap.size→(w.alloc (.cells cs.toArray te)).heap[k]? =w.heap[k]? :=fun k hk=>qef w _ _ hk;refine h.mut hd cons hcons ((qaA.alloc (fun _=>False) w (.cells cs.toArray te)).mono fun _ h=>h.elim) (bs:=w.heap.size::bs) (fun b hbm=>?_) (zaJ.2 ⟨fun hm=>by grind,hnd⟩) ?_ rfl
 ·rcases zak.1 hbm with rfl|hbm;all_goals simp_all
 ·exact⟨w.heap.size,cs,bs,te,rfl,heap_alloc_new w _,hc.keep (fun b hb hlt=>⟨hb,by simp;omega,hold b hlt⟩) (fun b _ hlt=>hold b hlt),rfl⟩
theorem qrI (h:qK C σ a.tmps w own) {t:Nat}{x1:Op1}{v:Value}(ho:qaC (sit C σ a.tmps w own) x1 v) {f:Eff}(he:(boxE E o t x1).run (qj σ)=some f) (hd:∀u∈f.upd,u.s<σ.length)
  (hx:(execOp a.eval o).run C.P w=.ok (.value (ptr w.heap.size 0)) (w.alloc (.cells v.cells t))):qb5 C o a w (qh σ f.upd):=by
 unfold boxE at he;split at he
 ·rename_i u d hu hdst;obtain⟨c,h1,h2⟩:=Q.ya he;split at h2
  ·rename_i hcond;simp only[zad,List.isEmpty_iff,Bool.not_eq_true']at hcond;obtain⟨hc1,hc2⟩:=hcond;have:=qE h2;subst this;obtain⟨b2,q1,q2,q3,q4⟩:=qgH h ho h1 hc1;refine qt hx ?_;rw[qdG a hdst];have hv:v.cells.toList.toArray=v.cells:=by simp
   rcases q4 with⟨e1,e2⟩|⟨s',e1,e2⟩
   ·subst e2;have:=h.newBox (d:=d) (hd ⟨d,true,.box c.1⟩ (by simp)) [] (fun _ hs=>by cases hs) (te:=t) q1 (fun _ hb=>by cases hb) zaA;simp_all
   ·subst e2;have hne:s'≠d:=by
     grind
    have:=h.newBox (d:=d) (hd ⟨d,true,.box c.1⟩ (by simp)) [s'] (fun s hs=>by
     grind) (te:=t) q1 (fun b hb=>⟨s',by simp,hb⟩) (h.nodup s')
    simp_all
  ·cases h2
 ·cases he
theorem qr8 (hE:qad E C.P) (h:qK C σ a.tmps w own) {t:Nat}{c:BC}(hc:E.zero t=some c) (hd:∀u∈qaL o (.box c),u.s<σ.length) {z:Value}{i:TypeInfo}(hi:C.P.info? t=some i) (hz:i.zero=some z)
  (hx:(execOp a.eval o).run C.P w=.ok (.value (ptr w.heap.size 0)) (w.alloc (.cells z.cells t))):qb5 C o a w (qh σ (qaL o (.box c))):=by
 obtain⟨i',z',h1,h2,h3⟩:=hE.zero t c hc;rw[hi]at h1;injection h1 with h1;subst h1;rw[hz]at h2;injection h2 with h2;subst h2;refine qt hx ?_;unfold qaL at *
 cases hdst:o.dst with
 |none=>exact⟨own,h.world (qaA.alloc _ _ _)⟩
 |some d=>
  rw[hdst]at hd;have:=h.newBox (d:=d) (hd ⟨d,true,.box c⟩ (by simp)) [] (fun _ hs=>by cases hs) (te:=t) (h3 w _) (fun _ hb=>by cases hb) zaA;simp_all [Act.put]
theorem qtP (h:qK C σ a.tmps w own) (hpt:qpW (sit C σ a.tmps w own)) {n:Nat}{x1:Op1}{p:Value}(ho:qaC (sit C σ a.tmps w own) x1 p) (hw:∀m∈x1.a.mentions,m.2≤(qj σ m.1).1) {f:Eff}(he:(qvU o n x1).run (qj σ)=some f) (hd:∀u∈f.upd,u.s<σ.length)
  (hx:∀ad,p=.pointer (some ad)→(execOp a.eval o).run C.P w=.ok (.value (.pointer (some (ad.add n)))) w):qb5 C o a w (qh σ f.upd):=by
 unfold qvU at he;split at he
 ·rename_i s v0 b0 hb;rw[Q.yc]at he;split at he
  ·rename_i hv;have:=qE he;subst this;obtain⟨b,h1,rfl,h2⟩:=qeU h hpt ho hb hv;obtain⟨q1,q2⟩:=qng (off:=b0+n) (v:= .pointer (some ((⟨b,b0,none⟩:Addr).add n))) h hv h1 (by rw[qx];rfl) h2;exact qt (hx _ rfl) (h.dst0 hd q1 q2 (by grind [qfG]))
  ·cases he
 ·split at he
  ·rename_i s v0 fo sz i b hxa;rw[Q.yc]at he;split at he
   ·rename_i hv;have:=qE he;subst this;have hp:=ho.unowned (by rw[hxa];rfl);rw[hxa]at hp hw;obtain⟨g,k,cap,k1,k2,k3,rfl⟩:=hp.2 hv;refine qt (hx _ rfl) (h.dst0 hd ⟨rfl,fun _=>⟨g,k,cap,k1,k2,k3,?_⟩⟩ hw);rw[qx,Nat.add_assoc];rfl
   ·cases he
  ·rename_i t x b hxa;have:=qE he;subst this;have hp:=ho.unowned (by rw[hxa];rfl);rw[hxa]at hp;obtain⟨_,ad,cs,rfl,g1⟩:=hp;refine qt (hx _ rfl) (h.dst0 hd ⟨rfl,ad,cs,?_,g1⟩ (fun m hm=>by cases hm));rw[qbi]
  ·rename_i s v0 b k e i o2 hxa;rw[Q.yc]at he;split at he;case isFalse=>cases he
   rename_i hv;have:=qE he;subst this;obtain⟨i0,i1,bb,h1,rfl,h2⟩:=qpP hpt (hxa▸ho.unowned (by rw[hxa];rfl)) hv;obtain⟨q1,q2⟩:=qr7 (C:=C) (w:=w) (own:=own) (off:=b) (o2:=o2+n) (v:= .pointer (some ((⟨bb,b+i.toNat*e.size+o2,none⟩:Addr).add n))) hv i0 i1 h1 (by rw[qx,Nat.add_assoc];rfl) h2;exact qt (hx _ rfl) (h.dst0 hd q1 q2 (by first|rfl|exact qfG _ _ _))
  ·cases he
end
end Go.Vi
namespace Go.Vi
open Go.RowKit
theorem qdm (k:IntKind) (n:Int):k.has (k.wrap n):=by
 cases k<;>simp[IntKind.has,IntKind.wrap,IntKind.bits,IntKind.signed,IntKind.min,IntKind.max]<;>omega
theorem qma (k:IntKind):k.min≤0:=by cases k<;>decide
theorem qmc (k:IntKind):0≤k.max:=by cases k<;>decide
theorem qtQ {k:IntKind}{x y:Int}(h:k.has x) (hy:y≠0):k.has (x.tmod y):=by
 have h1:=qma k;have h2:=qmc k;obtain⟨h3,h4⟩:=h;by_cases hx:0≤x
 ·have e1:0≤x.tmod y:=Int.tmod_nonneg y hx;have e2:x.tmod y≤x:=by
   have:=Int.natAbs_tmod x y;have h5:(x.natAbs%y.natAbs)≤x.natAbs:=Nat.mod_le _ _;omega
  exact⟨by omega,by omega⟩
 ·have h5:(x.natAbs%y.natAbs)≤x.natAbs:=Nat.mod_le _ _;have:=Int.natAbs_tmod x y;have e1:x.tmod y≤0:=by
   have:=Int.tmod_nonneg y (show 0≤ -x by omega);simp_all
  exact⟨by omega,by omega⟩
theorem qtK {k:IntKind}{x:Int}(h:k.has x) (n:Nat):k.has (x.fdiv (2^n)):=by
 have h1:=qma k;have h2:=qmc k;obtain⟨h3,h4⟩:=h;have hp:(0:Int)<2^n:=by exact Int.pow_pos (by decide)
 have hp1:(1:Int)≤2^n:=hp;have e:x.fdiv (2^n)=x/2^n:=by grind
 rw[e];by_cases hx:0≤x
 ·have e1:0≤x/2^n:=Int.ediv_nonneg hx (Int.le_of_lt hp);have e2:x/2^n≤x:=Int.ediv_le_self _ hx;exact⟨by omega,by omega⟩
 ·have e1:x/2^n<0:=Int.ediv_neg_of_neg_of_pos (by omega) hp;have e2:x≤x/2^n:=by
   rw[Int.le_ediv_iff_mul_le hp];have:x*2^n≤x*1:=Int.mul_le_mul_of_nonpos_left (by omega) hp1;omega
  exact⟨by omega,by omega⟩
def qb9 (c:List Bool):Prop:=∀b∈c,b=true
section
variable {P:Program}{w:World}{F:Nat→Prop}
theorem qtL {op:BinOp}{k k':IntKind}{x y:Int}(hx:k.has x) (hy:k'.has y) (hk:(qlq op||decide (k=k'))=true) (hc:qb9 (qpj op k x y).2) (t:Nat):
  ∃v,(binOp op t (.int k x) (.int k' y)).run P w=.ok v w∧∃u z,(qpj op k x y).1=.val u z∧q9 w F u z v:=by
 by_cases hs:qlq op=true
 ·cases op<;>simp[qlq]at hs
  ·have h0:0≤y:=by simpa[qpj,qb9,qdZ]using hc
   exact⟨.int k (shlI k x y),by simp[binOp,Op.shift,show ¬y<0 by omega,qqr],.int k,_,rfl,q9.ofInt _ _ (by rw[qqr];exact qdm _ _)⟩
  ·have h0:0≤y:=by simpa[qpj,qb9,qdZ]using hc
   exact⟨.int k (qlZ k x y),by simp[binOp,Op.shift,show ¬y<0 by omega,qnz],.int k,_,rfl,q9.ofInt _ _ (by rw[qnz];exact qtK hx _)⟩
 ·have hkk:k=k':=by grind
  subst hkk;cases op<;>simp[qlq]at hs
  ·exact⟨.int k (qaj k x y),by simp[binOp,Op.intArith,qjW],.int k,_,rfl,q9.ofInt _ _ (by rw[qjW];exact qdm _ _)⟩
  ·exact⟨.int k (qaF k x y),by simp[binOp,Op.intArith,qjY],.int k,_,rfl,q9.ofInt _ _ (by rw[qjY];exact qdm _ _)⟩
  ·exact⟨.int k (qoc k x y),by simp[binOp,Op.intArith,qhe],.int k,_,rfl,q9.ofInt _ _ (by rw[qhe];exact qdm _ _)⟩
  ·have h0:y≠0:=by simpa[qpj,qb9,qkd]using hc
   exact⟨.int k (qth k x y),by simp[binOp,Op.intDiv,h0,qnd],.int k,_,rfl,q9.ofInt _ _ (by rw[qnd];exact qdm _ _)⟩
  ·have h0:y≠0:=by simpa[qpj,qb9,qkd]using hc
   exact⟨.int k (irem x y),by simp[binOp,Op.intDiv,h0,qql],.int k,_,rfl,q9.ofInt _ _ (by rw[qql];exact qtQ hx h0)⟩
  ·exact⟨.int k (band k x y),by simp[binOp,Op.intBits,qqs],.int k,_,rfl,q9.ofInt _ _ (by rw[qqs];exact qdm _ _)⟩
  ·exact⟨.int k (bor k x y),by simp[binOp,Op.intBits,qsx],.int k,_,rfl,q9.ofInt _ _ (by rw[qsx];exact qdm _ _)⟩
  ·exact⟨.int k (bxor k x y),by simp[binOp,Op.intBits,qj4],.int k,_,rfl,q9.ofInt _ _ (by rw[qj4];exact qdm _ _)⟩
  ·exact⟨.int k (qmV k x y),by simp[binOp,Op.intBits,qkQ],.int k,_,rfl,q9.ofInt _ _ (by rw[qkQ];exact qdm _ _)⟩
  ·exact⟨.bool (eqI x y),by simp[binOp,Op.intCmp,qcc],.bool,_,rfl,q9.ofBool _ _ _⟩
  ·exact⟨.bool (neI x y),by simp[binOp,Op.intCmp,qkd],.bool,_,rfl,q9.ofBool _ _ _⟩
  ·exact⟨.bool (ltI x y),by simp[binOp,Op.intCmp,qbz],.bool,_,rfl,q9.ofBool _ _ _⟩
  ·exact⟨.bool (leI x y),by simp[binOp,Op.intCmp,qdZ],.bool,_,rfl,q9.ofBool _ _ _⟩
  ·exact⟨.bool (ltI y x),by simp[binOp,Op.intCmp,qbz],.bool,_,rfl,q9.ofBool _ _ _⟩
  ·exact⟨.bool (leI y x),by simp[binOp,Op.intCmp,qdZ],.bool,_,rfl,q9.ofBool _ _ _⟩
theorem qtz {op:BinOp}{x y:List UInt8}(hx:x.length≤maxLen) (hy:y.length≤maxLen) {r:AV×List Bool}(hr:quT op x y=some r) (hc:qb9 r.2) (t:Nat):
  ∃v,(binOp op t (.string ⟨x.toArray⟩) (.string ⟨y.toArray⟩)).run P w=.ok v w∧∃u z,r.1=.val u z∧q9 w F u z v:=by
 cases op<;>simp only[quT]at hr<;>cases hr
 ·have h0:x.length+y.length≤140737488355328:=by
   have:=hc _ (zah.2 rfl);grind [qgY,qv]
  refine⟨.string ⟨(ql0 x y).toArray⟩,?_,.str,_,rfl,q9.ofStr _ _ (by simp[qfU,maxLen];omega)⟩;rw[qfU];rw[show binOp .add t (.string ⟨x.toArray⟩) (.string ⟨y.toArray⟩)=Op.stringOp .add ⟨x.toArray⟩ ⟨y.toArray⟩from by simp[binOp]];rw[run_string_add_sum w _ _ (by show x.toArray.size+y.toArray.size≤_;simp;omega)];rw[ByteArray.mk_append_mk]
 all_goals
  refine⟨_,?_,.bool,_,rfl,q9.ofBool _ _ _⟩
  simp[binOp,Op.stringOp,qpn,qoZ]
end
end Go.Vi
namespace Go.Vi
open Go.RowKit
section
variable {C:Ctx}{E:Env}{σ:St}{tm:Array Value}{a:Act}{w w':World}{own:Own}{o:Oper} [Tabbed E C]
theorem q9.flat {F F':Nat→Prop}{t:Ty}{x:t.den}{v:Value}(hf:t.flat=true) (h:q9 w F t x v):q9 w' F' t x v:=⟨Rep.flat hf h.1,h.2⟩
theorem qgR (h:qK C σ a.tmps w own) {t:Ty}{x:t.den}{v:Value}{ow:List Nat}{us:List U}(hr:(execOp a.eval o).run C.P w=.ok (.value v) w)
  (hus:(if t.flat then Q.ret []else qbO ow).run (qj σ)=some us) (hd:∀u∈us++qaL o (.val t x),u.s<σ.length) (hv:q9 w (FW (sit C σ a.tmps w own) ow) t x v):
  qb5 C o a w (qh σ (us++qaL o (.val t x))):=by
 by_cases hf:t.flat=true
 ·rw[if_pos hf]at hus;have:=Q.yb hus;subst this;exact qaH h hr hd (hv.flat hf)
 ·rw[if_neg hf]at hus;obtain⟨own',k1,k2,k3,k4⟩:=qcL ow h hus;rw[qbq];exact qaH k1 hr (fun u hu=>by grind [qB]) (hv.mono fun b hb _=>k4 b hb)
variable {p:qdU}
theorem qF (h:qK C σ a.tmps w own) (hp:qa5 (sit C σ a.tmps w own) p) {tid:Nat}{x:Operand}{o1:Op1}(ho:(opd E p tid x).run (qj σ)=some o1):qaC (sit C σ a.tmps w own) o1 (a.eval x):=
 opd_ok (ds:=a.defers) h hp ho
def plainV (v:Value):Prop:=(∃k n,v=.int k n)∨(∃s,v=.string s)∨∃b,v=.bool b
theorem qhl {op:BinOp}{t:Nat}{x y:Operand}{a b:Value}{P:Program}(h1:plainV a):(eqGuard op t x y a b).run P w=.ok () w:=by
 rcases h1 with⟨_,_,rfl⟩|⟨_,rfl⟩|⟨_,rfl⟩<;>cases op<;>simp[eqGuard]
theorem qhY (d:Nat) {P:Program}{t e:Nat}(a:Option Addr) (l c:Nat) (h:P.underlying t=some (.slice e)):(Op.equalIn (d+1) t (.slice a l c) (.slice none 0 0)).run P w=.ok a.isNone w:=by
 cases a<;>simp[Op.equalIn,run_underlying h]
theorem qis {P:Program}{t e:Nat}(a:Option Addr) (l c:Nat) (h:P.underlying t=some (.slice e)) (op:BinOp) (hop:op=.eql∨op=.neq):
  (binOp op t (.slice a l c) (.slice none 0 0)).run P w=.ok (.bool (if qel op then a.isNone else !a.isNone)) w:=by
 rcases hop with rfl|rfl;all_goals simp_all [qhY,binOp,Op.equal,Op.maxDepth,qel]
theorem qlJ (hE:qad E C.P) (h:qK C σ a.tmps w own) (hp:qa5 (sit C σ a.tmps w own) p) {op:BinOp}{t:Nat}{x y:Operand}{b:TypeId}(hop:o.op=.binOp op t x y b) {f:Eff}(hn:qon op y=true) {e0:Ty}(hty:E.ty t=some (.slice e0))
  (he:(((opd E p t x).bind fun x=>(match x.a with
   |.nz _ xs=>okE (qaL o (.val .bool (bif qel op then eqI (qn xs) 0 else !(eqI (qn xs) 0))))
   |_=>(qlE x).bind fun x=>(match x with
    |⟨.slice _,xs,_⟩=>okE (qaL o (.amb (qel op) (eqI (qn xs) 0)))
    |_=>.fail))).run (qj σ))=some f) (hd:∀u∈f.upd,u.s<σ.length):qb5 C o a w (qh σ f.upd):=by
 obtain⟨x1,hx,he⟩:=Q.ya he;have ho1:=qF h hp hx;have hu:=(hE.elem t e0 hty).under;obtain⟨hyo,hopc⟩:y=.const (.slice none 0 0)∧(op=.eql∨op=.neq):=by
  grind [qon]
 have hya:a.eval y=.slice none 0 0:=by rw[hyo];rfl
 have key:∀ {F:Nat→Prop}{e:Ty}{xs:List e.den},q9 w F (.slice e) xs (a.eval x)→∃ad l c,a.eval x=.slice ad l c∧(ad=none→xs=[])∧(execOp a.eval o).run C.P w=.ok (.value (.bool (if qel op then ad.isNone else !ad.isNone))) w:=by
  intro F e xs rx;obtain⟨ad,l,c,hv,hl⟩:∃ad l c,a.eval x=.slice ad l c∧(ad=none→xs=[]):=by
   rcases q9.slice rx with⟨k4,k5⟩|⟨ad,cap,k4,k5,k6,k7⟩;all_goals grind
  have hg:(eqGuard op t x y (a.eval x) (a.eval y)).run C.P w=.ok () w:=by
   rw[hv,hya];rcases hopc with rfl|rfl<;>simp[eqGuard]
  simp_all [qis,execOp]
 split at he
 ·rename_i e xs hxa;have:=qE he;subst this;have hnz:qS (sit C σ a.tmps w own) (.nz e xs) (a.eval x) []:=by
   have:=ho1.unowned (by rw[hxa];rfl);grind
  obtain⟨_,rx,hnil⟩:=hnz;obtain⟨ad,l,c,hv,hl,hr⟩:=key rx;refine qt hr (h.dst0 hd ?_ (fun m hm=>by cases hm));have e1:ad.isNone=eqI (qn xs) 0:=by
   rw[qcc,qv];cases xs with
   |nil=>
    grind
   |cons x0 xs0=>
    cases ad with
    |none=>grind
    |some ad=>
     grind
  have e2:(if qel op=true then ad.isNone else !ad.isNone)=(bif qel op then eqI (qn xs) 0 else !(eqI (qn xs) 0)):=by
   grind
  rw[e2];exact⟨rfl,q9.ofBool _ _ _⟩
 ·obtain⟨xr,hxr,he⟩:=Q.ya he;have rx:=qdq h ho1 hxr;split at he;case h_2=>cases he
  rename_i e xs ow;have:=qE he;subst this;obtain⟨ad,l,c,hv,hl,hr⟩:=key rx;refine qt hr (h.dst0 hd ⟨rfl,_,rfl,fun hb=>?_⟩ (fun m hm=>by cases hm));have hnone:ad=none:=by
   rcases hopc with rfl|rfl;all_goals simp_all [qel]
  grind [qcc,qv]
theorem qmM {P:Program}{w:World}{t:TypeId}{ms:Array (String×TypeId)}(hu:P.underlying t=some (.interface ms)) {b:Bool}{v:Value}(h:(b=true∧v=.nilIface)∨(b=false∧∃t x,v=.iface t x)):(Op.equal t v .nilIface).run P w=.ok b w:=by
 have key:∀d,(Op.equalIn (d+1) t v .nilIface).run P w=.ok b w:=fun d=>by
  rcases h with⟨rfl,rfl⟩|⟨rfl,tt,x,rfl⟩<;>simp[Op.equalIn,run_underlying hu]
 exact key 9999
theorem qlN (hE:qad E C.P) (h:qK C σ a.tmps w own) (hp:qa5 (sit C σ a.tmps w own) p) {op:BinOp}{t:Nat}{x y:Operand}{b:TypeId}(hop:o.op=.binOp op t x y b) {f:Eff}(hn:qpy op y=true) (hty:E.ty t=some .err)
  (he:(((opd E p t x).bind fun x=>(qlE x).bind fun x=>(match x with
   |⟨.err,b,_⟩=>okE (qaL o (.val .bool (bif qel op then b else !b)))
   |_=>.fail)).run (qj σ))=some f) (hd:∀u∈f.upd,u.s<σ.length):qb5 C o a w (qh σ f.upd):=by
 obtain⟨x1,hx,he⟩:=Q.ya he;obtain⟨xr,hxr,he⟩:=Q.ya he;have rx:=qdq h (qF h hp hx) hxr;split at he;case h_2=>cases he
 rename_i bb ow;have:=qE he;subst this;obtain⟨ms,hu⟩:=hE.err t hty;obtain⟨hyo,hopc⟩:y=.const .nilIface∧(op=.eql∨op=.neq):=by
  grind [qpy]
 have hya:a.eval y=.nilIface:=by rw[hyo];rfl
 have hv:=q9.err rx;have hg:(eqGuard op t x y (a.eval x) (a.eval y)).run C.P w=.ok () w:=by
  rw[hya,hyo];rcases hv with⟨_,hv⟩|⟨_,tt,xx,hv⟩<;>rw[hv]<;>rcases hopc with rfl|rfl<;>simp[eqGuard]
 have hq:=qmM (w:=w) hu hv;refine qt (v:= .bool (bif qel op then bb else !bb)) ?_ (h.dst0 hd ⟨rfl,q9.ofBool _ _ _⟩ (fun m hm=>by cases hm));unfold execOp;rw[hop];simp only[Sem.run_bind,hg,Result.andThen_ok];rw[hya];rcases hv with⟨_,hv⟩|⟨_,tt,xx,hv⟩<;>rw[hv]at hq⊢ <;>rcases hopc with rfl|rfl<;>simp[binOp,hq,qel]
theorem qf5 {P:Program}{w:World}{t u:TypeId}(hu:P.underlying t=some (.pointer u)) (q:Option Addr):(Op.equal t (.pointer q) (.pointer none)).run P w=.ok q.isNone w:=by
 have key:∀d,(Op.equalIn (d+1) t (.pointer q) (.pointer none)).run P w=.ok q.isNone w:=fun d=>by
  cases q<;>simp[Op.equalIn,run_underlying hu]
 exact key 9999
theorem qlF (hE:qad E C.P) (h:qK C σ a.tmps w own) (hp:qa5 (sit C σ a.tmps w own) p) {op:BinOp}{t:Nat}{x y:Operand}{b:TypeId}(hop:o.op=.binOp op t x y b) {f:Eff}(hn:qky op y=true) {e0:Ty}(hty:E.ty t=some (.opt e0))
  (he:(((opd E p t x).bind fun x=>(qlE x).bind fun x=>(match x with
   |⟨.opt _,z,_⟩=>okE (qaL o (.val .bool (bif qel op then !(qp z)else qp z)))
   |_=>.fail)).run (qj σ))=some f) (hd:∀u∈f.upd,u.s<σ.length):qb5 C o a w (qh σ f.upd):=by
 obtain⟨x1,hx,he⟩:=Q.ya he;obtain⟨xr,hxr,he⟩:=Q.ya he;have rx:=qdq h (qF h hp hx) hxr;split at he;case h_2=>cases he
 rename_i ee z ow;have:=qE he;subst this;obtain⟨ms,hu⟩:=hE.opt t e0 hty;obtain⟨hyo,hopc⟩:y=.const (.pointer none)∧(op=.eql∨op=.neq):=by
  grind [qky]
 have hya:a.eval y=.pointer none:=by rw[hyo];rfl
 obtain⟨q,hv,hq⟩:∃q,a.eval x=.pointer q∧qp z=q.isSome:=by
  rw[qaI];rcases q9.opt rx with⟨k1,k2⟩|⟨y2,ad,cs,k1,k2,_⟩;all_goals grind
 have hg:(eqGuard op t x y (a.eval x) (a.eval y)).run C.P w=.ok () w:=by
  rw[hya,hyo,hv];rcases hopc with rfl|rfl<;>simp[eqGuard]
 have hqq:=qf5 (w:=w) hu q;refine qt (v:= .bool (bif qel op then !(qp z)else qp z)) ?_ (h.dst0 hd ⟨rfl,q9.ofBool _ _ _⟩ (fun m hm=>by cases hm));unfold execOp;rw[hop];simp only[Sem.run_bind,hg,Result.andThen_ok];rw[hya,hv,hq];rcases hopc with rfl|rfl<;>cases q<;>simp[binOp,hqq,qel]
theorem qrc (hE:qad E C.P) (h:qK C σ a.tmps w own) (hp:qa5 (sit C σ a.tmps w own) p) {op:BinOp}{t:Nat}{x y:Operand}{b:TypeId}(hop:o.op=.binOp op t x y b) {f:Eff}
  (he:(qdR E p o).run (qj σ)=some f) (hd:∀u∈f.upd,u.s<σ.length) (hc:qb9 f.chk):qb5 C o a w (qh σ f.upd):=by
 unfold qdR at he;rw[hop]at he;simp only at he;split at he
 ·rename_i hn;simp only[zad]at hn;obtain⟨e0,hty⟩:∃e0,E.ty t=some (.slice e0):=by
   have:=hn.2;unfold qoU at this;grind
  grind [qlJ]
 split at he
 ·grind [qlN,qsG]
 split at he
 ·rename_i hn;simp only[zad]at hn;obtain⟨e0,hty⟩:∃e0,E.ty t=some (.opt e0):=by
   have:=hn.2;unfold qsb at this;grind
  grind [qlF]
 obtain⟨x1,hx,he⟩:=Q.ya he;obtain⟨y1,hy,he⟩:=Q.ya he;obtain⟨xr,hxr,he⟩:=Q.ya he;obtain⟨yr,hyr,he⟩:=Q.ya he;have rx:=qdq h (qF h hp hx) hxr;have ry:=qdq h (qF h hp hy) hyr;have key:∀(r:AV×List Bool),binE E op t xr yr=some r→qb9 r.2→∃v,(binOp op t (a.eval x) (a.eval y)).run C.P w=.ok v w∧(eqGuard op t x y (a.eval x) (a.eval y)).run C.P w=.ok () w∧∃u z,r.1=.val u z∧q9 w (C.free w own) u z v:=by
  intro r hr hcr;unfold binE at hr;split at hr
  ·rename_i k m _ k' n _;split at hr
   ·rename_i hk;injection hr with hr;subst hr;obtain⟨e1,g1⟩:=q9.int rx;obtain⟨e2,g2⟩:=q9.int ry;rw[e1,e2];obtain⟨v,h1,h2⟩:=qtL (P:=C.P) (w:=w) (F:=C.free w own) g1 g2 (by simpa using hk) hcr t;exact⟨v,h1,qhl (.inl ⟨_,_,rfl⟩),h2⟩
   ·cases hr
  ·obtain⟨e1,g1⟩:=q9.str rx;obtain⟨e2,g2⟩:=q9.str ry;rw[e1,e2];obtain⟨v,h1,h2⟩:=qtz (P:=C.P) (w:=w) (F:=C.free w own) g1 g2 hr hcr t;exact⟨v,h1,qhl (.inr (.inl ⟨_,rfl⟩)),h2⟩
  ·split at hr
   ·rename_i hty;have hu:=hE.bool t hty;have e1:=q9.bool rx;have e2:=q9.bool ry;rw[e1,e2];split at hr
    ·injection hr with hr;subst hr;exact⟨_,run_eql_bool w t _ _ hu,qhl (.inr (.inr ⟨_,rfl⟩)),.bool,_,rfl,by rw[qlo];exact q9.ofBool _ _ _⟩
    ·injection hr with hr;subst hr;exact⟨_,run_neq_bool w t _ _ hu,qhl (.inr (.inr ⟨_,rfl⟩)),.bool,_,rfl,by rw[qlo];exact q9.ofBool _ _ _⟩
    ·cases hr
   ·cases hr
  ·split at hr;case isFalse=>cases hr
   rename_i hcond;obtain⟨c1,c2,c3⟩:=hcond;have hq:=hE.eq t _ c2 c3;split at hr;case h_2=>cases hr
   rename_i b' hb';obtain⟨e1,e2⟩:=Ty.yd hb';subst e1;have e2:_=b':=e2;subst e2;obtain⟨r1,ra,_⟩:=rx;obtain⟨r2,rb,_⟩:=ry;obtain⟨xs,hxs⟩:=ra c1;obtain⟨ys,hys⟩:=rb c1;rw[hxs]at r1;rw[hys]at r2;have hrun:=hq.run w _ _ _ _ _ _ r1 r2;have mk:∀zs:Array Value,mkV _ (Value.agg zs).cells.toList=Value.agg zs:=fun zs=>by
    rw[mkV,if_pos c1];simp[Value.cells]
   rw[mk,mk]at hrun;rw[hxs,hys];split at hr
   ·injection hr with hr;subst hr;exact⟨_,by rw[run_eql_struct,hrun];rfl,run_eqGuard_agg w _ _ _ _ _ _ hq.guard,.bool,_,rfl,q9.ofBool _ _ _⟩
   ·injection hr with hr;subst hr;exact⟨_,by rw[run_neq_struct,hrun];rfl,run_eqGuard_agg w _ _ _ _ _ _ hq.guard,.bool,_,rfl,q9.ofBool _ _ _⟩
   ·cases hr
 split at he
 ·rename_i r c hr;have:=Q.yb he;subst this;obtain⟨v,h1,h2,u,z,h4,h5⟩:=key (r,c) hr hc;subst h4;refine qaH h ?_ hd h5;simp_all [execOp]
 ·cases he
theorem qrE (h:qK C σ a.tmps w own) (hp:qa5 (sit C σ a.tmps w own) p) {op:UnOp}{t:Nat}{x:Operand}(hop:o.op=.unOp op t x) {f:Eff}
  (he:(qdR E p o).run (qj σ)=some f) (hd:∀u∈f.upd,u.s<σ.length) (hc:qb9 f.chk):qb5 C o a w (qh σ f.upd):=by
 unfold qdR at he;rw[hop]at he;obtain⟨x1,hx,he⟩:=Q.ya he;obtain⟨xr,hxr,he⟩:=Q.ya he;have rx:=qdq h (qF h hp hx) hxr;split at he
 ·rename_i av hav;have:=qE he;subst this;unfold unE at hav;split at hav
  ·obtain⟨e1,g1⟩:=q9.int rx;injection hav with hav;subst hav;refine qaH h ?_ hd (q9.ofInt _ _ (by rw[qqc];exact qdm _ _));simp_all [qqc,execOp,Op.unary,Op.intArith]
  ·have e1:=q9.bool rx;injection hav with hav;subst hav;refine qaH h ?_ hd (q9.ofBool _ _ _);simp_all [execOp,Op.unary]
  ·obtain⟨e1,g1⟩:=q9.int rx;injection hav with hav;subst hav;refine qaH h ?_ hd (q9.ofInt _ _ (by rw[qj4];exact qdm _ _));simp_all [qj4,execOp,Op.unary,Op.intBits]
  ·cases hav
 ·cases he
theorem qnR (hE:qad E C.P) (h:qK C σ a.tmps w own) (hp:qa5 (sit C σ a.tmps w own) p) {s d:Nat}{x:Operand}(hop:o.op=.convert s d x) {f:Eff}
  (he:(qdR E p o).run (qj σ)=some f) (hd:∀u∈f.upd,u.s<σ.length) (hc:qb9 f.chk):qb5 C o a w (qh σ f.upd):=by
 unfold qdR at he;rw[hop]at he;obtain⟨x1,hx,he⟩:=Q.ya he;have ho:=qF h hp hx;unfold convE at he;split at he
 ·rename_i k0 k h1 h2;obtain⟨n,hn,he⟩:=Q.ya he;have:=qE he;subst this;obtain⟨e1,g1⟩:=qcH h ho hn;refine qaH h ?_ hd (q9.ofInt _ _ (by rw[qiF];exact qdm _ _));unfold execOp;rw[hop];simp[e1,convert,run_underlying (hE.int s _ h1),run_underlying (hE.int d _ h2),Conv.intToInt,qiF]
 ·rename_i h1 h2;obtain⟨n,hn,he⟩:=Q.ya he;have:=qE he;subst this;have rx:=qcm h ho hn;obtain⟨e1,g1⟩:=q9.str rx;refine qaH h ?_ hd (q9.ofStr _ _ g1);unfold execOp;rw[hop];simp[e1,convert,run_underlying (hE.str s h1),run_underlying (hE.str d h2)]
 ·rename_i h1 h2;split at he;case isFalse=>cases he
  rename_i h3;obtain⟨n,hn,he⟩:=Q.ya he;have:=qE he;subst this;have rx:=qcm h ho hn;have hu:=(hE.elem s _ h1).under;have hel:=hE.int _ _ h3;have hst:=hE.str d h2;rcases q9.slice rx with⟨e1,e2⟩|⟨ad,cap,e1,e2,e3,e4⟩
  ·have e2:n.1=[]:=e2;refine qaH (v:= .string ⟨List.toArray []⟩) h ?_ hd ?_
   ·unfold execOp;rw[hop];simp only[e1,Sem.run_bind];rw[run_convert_bytes_nil w s _ hu hel _ _ d hst];rfl
   grind [qkY,q9.ofStr]
  ·refine qaH (v:= .string ⟨(qtT n.1).toArray⟩) h ?_ hd (q9.ofStr _ _ ?_)
   ·have hcs:qem w ad (n.1.map (Value.int .u8)):=by
     intro j u hj;rw[List.getElem?_map]at hj;obtain⟨z,hz,rfl⟩:=zao.1 hj;obtain⟨_,_,cs,q1,q2⟩:=e4 j z hz;have q2:cs=[.int .u8 z]:=q2.1;subst q2;have:=q1 0 _ rfl;grind [qbi,Ty.size]
    have hl:=run_loadCells_list (P:=C.P) w ad _ hcs;rw[zaH]at hl;unfold execOp;rw[hop];simp only[e1,Sem.run_bind];rw[run_convert_bytes_string w s d _ (some ad) _ cap hu hel hst,run_bytesToString w ad _ cap n.1 hl,foldl_push_bytes];rw[qkY];simp_all
   grind [qkY]
 ·rename_i h1 h2;split at he;case isFalse=>cases he
  rename_i h3;obtain⟨n,hn,he⟩:=Q.ya he;have:=qE he;subst this;obtain⟨e1,g1⟩:=q9.str (qcm h ho hn);have hu:=(hE.elem d _ h2).under;have hel:=hE.int _ _ h3;have hss:(⟨n.1.toArray⟩:ByteArray).size=n.1.length:=by simp[ByteArray.size]
  have hrun:=Lib.run_convert_string_bytes (P:=C.P) w s d _ ⟨n.1.toArray⟩ (hE.str s h1) hu hel;have hsize:=Lib.bytesWorld_size w (E.etid d) ⟨n.1.toArray⟩;have hold:=Lib.bytesWorld_at_old w (E.etid d) ⟨n.1.toArray⟩;have hkept:qaA (fun _=>False) w (Lib.bytesWorld w (E.etid d) ⟨n.1.toArray⟩):=⟨rfl,rfl,rfl,by omega,fun k hk _=>hold k hk⟩;refine qt (v:= .slice (some ⟨w.heap.size,0,none⟩) n.1.length (grownCap w n.1.length 0 (E.etid d))) (w':=Lib.bytesWorld w (E.etid d) ⟨n.1.toArray⟩) ?_ (h.dst (bs:=[]) hkept hd (fun b hb=>by cases hb) zaA ⟨rfl,?_⟩ (fun m hm=>by cases hm))
  ·simp_all [execOp]
  ·have hl:(qkZ n.1).length=n.1.length:=by rw[qfA];simp
   refine q9.ofSlice (.inr ⟨⟨w.heap.size,0,none⟩,_,by rw[hl],by grind [grownCap_ge],grownCap_le_maxLen _ _ _ _ g1,fun i x hi=>?_⟩);refine⟨⟨.inr (zax _),by grind,by simp⟩,by show w.heap.size<(Lib.bytesWorld w (E.etid d) ⟨n.1.toArray⟩).heap.size;omega,[.int .u8 x],?_,rfl,?_⟩
   ·rw[qfA,List.getElem?_map]at hi;obtain⟨z,hz,rfl⟩:=zao.1 hi;have hlt:=(zaK.1 hz).1;intro j u hj;cases j with
    |succ j=>simp at hj
    |zero=>
     simp at hj;subst hj;have:=Lib.bytesWorld_cell w (E.etid d) ⟨n.1.toArray⟩ i (by omega);have ea:((⟨w.heap.size,0,none⟩:Addr).add (i*(Ty.int .u8).size)).add 0=⟨w.heap.size,i,none⟩:=by
      grind [qx,Ty.size]
     rw[ea,qgK];refine Eq.trans this ?_;grind
   ·rw[qfA,List.getElem?_map]at hi;obtain⟨z,hz,rfl⟩:=zao.1 hi;rw[qgK];have:=z.toNat_lt;simp[IntKind.has,IntKind.min,IntKind.max,IntKind.signed,IntKind.bits];omega
 ·cases he
theorem TyB.run_part {P:Program}{t:Nat}{u:Ty}(h:TyB P t u) {cs:List Value}{off:Nat}(hl:off+u.size≤cs.length):(part t cs.toArray off).run P w=.ok (mkV u ((cs.drop off).take u.size)) w:=by
 simp only[part,Sem.run_bind,h.run_isAgg,Result.andThen_ok];cases hu:u.agg with
 |true=>
  simp only[if_true,Sem.run_bind,h.run_sizeOf,Result.andThen_ok,Sem.run_pure,mkV,hu];grind
 |false=>
  have hs:u.size=1:=by cases u<;>simp[Ty.agg]at hu<;>rfl
  grind [zaB,Sem.run_pure,mkV]
theorem qqM (hE:qad E C.P) (h:qK C σ a.tmps w own) (hp:qa5 (sit C σ a.tmps w own) p) {t:Nat}{x ix:Operand}(hop:o.op=.index t x ix) {f:Eff}
  (he:(qdR E p o).run (qj σ)=some f) (hd:∀u∈f.upd,u.s<σ.length) (hc:qb9 f.chk):qb5 C o a w (qh σ f.upd):=by
 unfold qdR at he;rw[hop]at he;obtain⟨x1,hx,he⟩:=Q.ya he;obtain⟨i1,hi,he⟩:=Q.ya he;obtain⟨i,hn,he⟩:=Q.ya he;obtain⟨xr,hxr,he⟩:=Q.ya he;have rx:=qdq h (qF h hp hx) hxr;obtain⟨e2,g2⟩:=qcH h (qF h hp hi) hn;split at he
 ·rename_i xs _;split at he
  ·rename_i hty;have:=Q.yb he;subst this;obtain⟨e1,g1⟩:=q9.str rx;have hb:0≤i.2∧i.2<xs.length:=by
    have:=hc _ (zah.2 rfl);grind [qf4,qv]
   have hlt:i.2.toNat<xs.length:=by omega
   refine qaH h (v:= .int .u8 (qpk (qJ xs i.2 0))) ?_ hd (q9.ofInt _ _ ?_)
   ·unfold execOp;rw[hop];simp only[e1,e2,Sem.run_bind];rw[run_index_string w t _ i.1 i.2 (hE.str t hty),dif_pos (by exact⟨hb.1,by show i.2<(xs.toArray.size:Int);grind⟩)];have:qJ xs i.2 0=xs[i.2.toNat]:=qeo (zac hlt);simp only[Result.andThen_ok,Sem.run_pure,qgK,this];rfl
   ·have:=(qJ xs i.2 0).toNat_lt;simp[IntKind.has,IntKind.min,IntKind.max,IntKind.signed,IntKind.bits,qgK];omega
  ·cases he
 ·rename_i n e xs;split at he;case isFalse=>cases he
  rename_i hty;have:=Q.yb he;subst this;have hb:0≤i.2∧i.2<(n:Int):=by
   have:=hc _ (zah.2 rfl);grind [qf4]
  obtain⟨r1,r2,_⟩:=rx;obtain⟨cs,hcs⟩:=r2 rfl;have r1:Rep w _ (.arr n e) xs (a.eval x).cells.toList:=r1;rw[hcs]at r1;have r1:Rep w (C.free w own) (.arr n e) xs cs.toList:=by
   refine r1.keep fun b hb hs=>⟨?_,hs,rfl⟩;rcases hb with hb|⟨s,hs,_⟩
   ·exact hb
   ·cases hs
  obtain⟨z,k1,k2,k3⟩:=r1.elem (i:=i.2.toNat) (by omega);refine qaH h (v:=mkV e ((cs.toList.drop (i.2.toNat*e.size)).take e.size)) ?_ hd (.ofCells (by grind [qeo]));unfold execOp;rw[hop];have hsz:=congrFun (hE.size t e (.inr ⟨n,hty.1⟩)) w;have hpt:=(hE.ty _ _ hty.2).run_part (w:=w) (cs:=cs.toList) (off:=i.2.toNat*e.size) k3;simp only[Array.toArray_toList]at hpt;simp only[Sem.run_bind,Instr.index,e2,asIntOf,Sem.run_pure,Result.andThen_ok,run_underlying (hE.arr t n e hty.1),hcs];simp_all
 ·cases he
end
end Go.Vi
namespace Go.Vi
open Go.RowKit
section
variable {C:Ctx}{E:Env}{σ:St}{tm:Array Value}{a:Act}{w w':World}{own:Own}{o:Oper}{p:qdU} [Tabbed E C]
def qkf (v:Option Value) (l d:Int):Prop:=(v=none∧l=d)∨∃k,v=some (.int k l)
theorem qdl (h:qK C σ a.tmps w own) {b:Option Op1}{v:Option Value}(hb:(b=none∧v=none)∨∃b' v',b=some b'∧v=some v'∧qaC (sit C σ a.tmps w own) b' v') {d l:Int}(he:(qfh b d).run (qj σ)=some l):qkf v l d:=by
 unfold qfh at he;rcases hb with⟨rfl,rfl⟩|⟨b',v',rfl,rfl,ho⟩
 ·have:=Q.yb he;exact .inl ⟨rfl,this.symm⟩
 ·obtain⟨i,hi,he⟩:=Q.ya he;have:=Q.yb he;obtain⟨e1,_⟩:=qcH h ho hi;exact .inr ⟨i.1,by rw[e1,this]⟩
theorem qmZ {P:Program}{t:Nat}(ht:P.underlying t=some .string) {s:ByteArray}{vl vh:Option Value}{l h:Int}(hl:qkf vl l 0) (hh:qkf vh h (s.size:Int)) (h0:0≤l) (h1:l≤h) (h2:h≤s.size):
  (Instr.sliceAt t (.string s) vl vh none).run P w=.ok (.string (s.extract l.toNat h.toNat)) w:=by
 rw[run_sliceAt_string w t _ _ _ _ ht];rcases hl with⟨rfl,rfl⟩|⟨k,rfl⟩<;>rcases hh with⟨rfl,rfl⟩|⟨k',rfl⟩;all_goals grind [run_slice_string_all,run_slice_string_h,run_slice_string_l,run_slice_string]
theorem qhG {P:Program}{t e:Nat}(ht:P.underlying t=some (.slice e)) {sz:Nat}(hs:(sizeOf e).run P=fun w=>.ok sz w) {ad:Option Addr}{len cap:Nat}{vl vh:Option Value}{l h:Int}(hl:qkf vl l 0) (hh:qkf vh h (len:Int)) (h0:0≤l) (h1:l≤h) (h2:h≤cap):
  (Instr.sliceAt t (.slice ad len cap) vl vh none).run P w=.ok (sliced ad l.toNat h.toNat cap sz) w:=by
 have he:P.elem t=e:=by simp[Program.elem,ht]
 have ht':P.underlying t=some (.slice (P.elem t)):=by grind
 rw[run_sliceAt_slice w t _ _ _ _ ht'];have hs':∀w,(sizeOf (P.elem t)).run P w=.ok sz w:=fun w=>by rw[he,hs]
 rcases hl with⟨rfl,rfl⟩|⟨k,rfl⟩<;>rcases hh with⟨rfl,rfl⟩|⟨k',rfl⟩;all_goals simp_all [run_slice_all,run_slice_h,run_slice_l,run_slice_lh]
theorem qeH {P:Program}{t e:Nat}(ht:P.underlying t=some (.slice e)) {sz:Nat}(hs:(sizeOf e).run P=fun w=>.ok sz w) {ad:Option Addr}{len cap:Nat}(hlc:len≤cap) {vl vh:Option Value}{l h:Int}(hl:qkf vl l 0) (hh:qkf vh h (len:Int)) (h0:0≤l) (h1:l≤h) (h2:h≤len):
  (Instr.sliceAt t (.slice ad len cap) vl vh none).run P w=.ok (sliced ad l.toNat h.toNat cap sz) w:=qhG ht hs hl hh h0 h1 (by omega)
theorem qgS {α:Type}{xs:List α}{l h:Int}{i:Nat}{x:α}(hx:(qb6 xs l h)[i]? =some x):xs[l.toNat+i]? =some x:=by
 grind [qeL]
theorem qgc {α:Type}{xs:List α}{l h:Int}(h0:0≤l) (h1:l≤h) (h2:h≤xs.length):(qb6 xs l h).length=h.toNat-l.toNat:=by
 simp[qeL];omega
theorem qdJ.slice {α:Type}{F:Nat→Prop}{R:α→List Value→Prop}{sz:Nat}{xs:List α}{v:Value}(hr:qdJ w F R sz xs v) {l h:Int}(h0:0≤l) (h1:l≤h) (h2:h≤xs.length):
  ∃ad len cap,v=.slice ad len cap∧len=xs.length∧len≤cap∧qdJ w F R sz (qb6 xs l h) (sliced ad l.toNat h.toNat cap sz):=by
 have hlen:=qgc (xs:=xs) h0 h1 h2;rcases hr with⟨rfl,rfl⟩|⟨ad,cap,rfl,hc,hm,hx⟩
 ·refine⟨none,0,0,rfl,rfl,zax _,.inl ⟨?_,?_⟩⟩;all_goals grind [qeL,sliced]
 ·refine⟨some ad,xs.length,cap,rfl,rfl,hc,?_⟩;by_cases hcl:cap=l.toNat
  ·have e1:(qb6 xs l h)=[]:=zaz (by omega);refine .inr ⟨ad,0,?_,by rw[e1];simp,by simp[maxLen],fun i x hi=>by grind⟩;grind [sliced]
  ·refine .inr ⟨ad.add (l.toNat*sz),cap-l.toNat,?_,by omega,by omega,fun i x hi=>?_⟩
   ·grind [sliced]
   ·obtain⟨k1,k2,cs,k3,k4⟩:=hx _ _ (qgS hi);grind [qam,qbi]
theorem qO.form {F:Nat→Prop}{et:Nat}{e:Ty}{xs:List e.den}{v:Value}{bs:List Nat}(hr:qO w F et e xs v bs):∃ad cap,v=.slice ad xs.length cap∧xs.length≤cap:=by
 obtain⟨cells,ho,_,_⟩:=hr;rcases ho.2 with⟨h1,h2⟩|⟨g,cap,cur,hv,_,_,hnc,_⟩;all_goals grind
theorem qsl (h:qK C σ a.tmps w own) {x1:Op1}{v:Value}(ho:qaC (sit C σ a.tmps w own) x1 v) {q:Site}(he:(qsn x1).run (qj σ)=some q):
  q.v=(qj σ q.s).1∧qe7 (sit C σ a.tmps w own) q.s q.fo v∧∃bs,qO w (C.free w own) q.et q.e q.xs v bs:=by
 obtain⟨os,ov,oa⟩:=x1;unfold qsn at he;split at he
 ·rename_i s et e xs h1 h2;simp only at h1 h2;subst h1;subst h2;have:=Q.yb he;subst this;exact⟨ho.2.1,ho.1.symm,_,ho.2.2⟩
 ·rename_i _ s v0 h2;simp only at h2;subst h2;rw[Q.yc]at he;split at he;case isFalse=>cases he
  rename_i hv;split at he;case h_2=>cases he
  rename_i et e xs ha;have:=Q.yb he;subst this;have qfS:a.tmps.getD s undef=v:=(ho.unowned rfl).2 hv;have hat:=h.at_ s;rw[ha,qfS]at hat;exact⟨hv.symm,qfS,_,hat⟩
 ·rename_i _ s v0 off u h2;simp only at h2;subst h2;split at he;case isFalse=>cases he
  rename_i hu;rw[Q.yc]at he;split at he;case isFalse=>cases he
  rename_i hv;split at he;case h_2=>cases he
  rename_i r ha;have:=Q.yb he;subst this;obtain⟨b,k1,k2,k3⟩:=(ho.unowned rfl).2 hv;have hh:qe7 (sit C σ a.tmps w own) s (some off) v:=by
   refine⟨b,k1,k2,?_⟩;rcases k3 with⟨k3,_⟩|⟨_,k3⟩;all_goals grind
  obtain⟨_,_,b2,_,q1,_⟩:=h.rowAt ha hh;grind
 ·cases he
theorem qgB (hE:qad E C.P) (h:qK C σ a.tmps w own) {t:Nat}{x1:Op1}{v:Value}(hx:qaC (sit C σ a.tmps w own) x1 v) {lo hi:Option Op1}{vl vh:Option Value}
  (hl:(lo=none∧vl=none)∨∃b' v',lo=some b'∧vl=some v'∧qaC (sit C σ a.tmps w own) b' v') (hh:(hi=none∧vh=none)∨∃b' v',hi=some b'∧vh=some v'∧qaC (sit C σ a.tmps w own) b' v')
  (hr:(execOp a.eval o).run C.P w=((Instr.sliceAt t v vl vh none).run C.P w).andThen fun v w=>.ok (.value v) w) {f:Eff}
  (he:(qlh E o t x1 lo hi).run (qj σ)=some f) (hd:∀u∈f.upd,u.s<σ.length) (hc:qb9 f.chk):qb5 C o a w (qh σ f.upd):=by
 unfold qlh at he;obtain⟨r,hxr,he⟩:=Q.ya he;have rx:=qdq h hx hxr;have chk:∀ {l h n:Int},qb9 [inS l h n]→0≤l∧l≤h∧h≤n:=fun {l h n} hc=>by
  have:=hc _ (zah.2 rfl);grind [qhS]
 split at he
 ·rename_i xs _;obtain⟨l,h1,he⟩:=Q.ya he;obtain⟨hh',h2,he⟩:=Q.ya he;split at he
  ·rename_i hty;have:=Q.yb he;subst this;have b1:=qdl h hl h1;have b2:=qdl h hh h2;obtain⟨c1,c2,c3⟩:=chk hc;obtain⟨e1,g1⟩:=q9.str rx;refine qaH h (v:= .string ⟨(qb6 xs l hh').toArray⟩) ?_ hd (q9.ofStr _ _ ?_)
   ·have hsz:((⟨xs.toArray⟩:ByteArray).size:Int)=qn xs:=by simp[qv,ByteArray.size]
    rw[hr,e1,qmZ (w:=w) (hE.str t hty) b1 (h:=hh') (by grind) c1 c2 (by grind)];rw[ByteArray.extract_mk];simp[qeL,List.drop_take]
   grind [qgc,qv]
  ·cases he
 ·rename_i e xs;obtain⟨l,h1,he⟩:=Q.ya he;obtain⟨hh',h2,he⟩:=Q.ya he;split at he
  ·rename_i hty;have:=Q.yb he;subst this;have b1:=qdl h hl h1;have b2:=qdl h hh h2;obtain⟨c1,c2,c3⟩:=chk hc;have rs:=q9.slice rx;obtain⟨ad,len,cap,e1,e2,e3,e4⟩:=rs.slice c1 c2 (by grind [qv]);subst e1;subst e2;have hem:=hE.elem t e hty;refine qaH h (v:=sliced ad l.toNat hh'.toNat cap e.size) ?_ hd ((q9.ofSlice e4).mono fun b hb _=>qld hb);rw[hr,qeH (w:=w) hem.under (hE.size t e (.inl hty)) e3 b1 (by simpa[qv]using b2) c1 c2 (by simpa[qv]using c3)];rfl
  ·cases he
 ·obtain⟨q,h0,he⟩:=Q.ya he;obtain⟨l,h1,he⟩:=Q.ya he;obtain⟨hh',h2,he⟩:=Q.ya he;split at he;case isFalse=>cases he
  rename_i hty;have:=Q.yb he;subst this;have b1:=qdl h hl h1;have b2:=qdl h hh h2;obtain⟨c1,c2,c3⟩:=chk hc;obtain⟨s1,s2,bs,s3⟩:=qsl h hx h0;obtain⟨ad,cap,e1,e2⟩:=s3.form;subst e1;rw[qv]at c3 b2;have hrun:=qeH (w:=w) (hE.elem t q.e hty).under (hE.size t q.e (.inl hty)) (ad:=ad) e2 b1 b2 c1 c2 c3;have hr2:(execOp a.eval o).run C.P w=.ok (.value (sliced ad l.toNat hh'.toNat cap q.e.size)) w:=by simp_all
  refine qt hr2 (h.dst0 hd ⟨rfl,fun _=>⟨ad,q.xs.length,cap,s2,c1,c2,c3,rfl⟩⟩ (fun m hm=>?_));grind [AV.mentions]
 ·cases he
theorem qO.front {F:Nat→Prop}{et:Nat}{e:Ty}{xs:List e.den}{v:Value}{bs:List Nat}(hr:qO w F et e xs v bs) {h:Int}(h1:0≤h) (h2:h≤xs.length):
  ∃ad cap,v=.slice ad xs.length cap∧xs.length≤cap∧qO w F et e (qb6 xs 0 h) (sliced ad 0 h.toNat cap e.size) bs:=by
 have hlen:=qgc (xs:=xs) (l:=0) (zaF _) h1 h2;obtain⟨cells,hc,hbs,hx⟩:=hr;have hx':∀(i:Nat) (x:e.den),(qb6 xs 0 h)[i]? =some x→Rep w F e x (((cells.take (h.toNat*e.size)).drop (i*e.size)).take e.size):=by
  intro i x hi;have hlt:i<h.toNat:=by
   grind
  have:=hx _ _ (qgS hi);rw[Int.toNat_zero,zaP]at this;have e1:((cells.take (h.toNat*e.size)).drop (i*e.size)).take e.size=(cells.drop (i*e.size)).take e.size:=by
   have hle:i*e.size+e.size≤h.toNat*e.size:=by
    have:=zam e.size (show i+1≤h.toNat by omega);grind
   grind [List.drop_take]
  grind
 rcases hc.2 with⟨k1,k2⟩|⟨g,cap,cur,k1,k2,k3,k4,k5,k6,k7⟩
 ·have hxn:xs=[]:=zaz k2;subst hxn;refine⟨none,0,k1,zax _,?_⟩;have h0:h.toNat=0:=by omega
  have e1:qb6 ([]:List e.den) 0 h=[]:=by grind
  rw[e1,h0];have e2:sliced none 0 0 0 e.size=.slice none 0 0:=by simp[sliced]
  rw[e2,hbs,k1];exact qO.nil_ _ _ _ _
 ·refine⟨some ⟨g,0,none⟩,cap,k1,k4,?_⟩;have e2:sliced (some ⟨g,0,none⟩) 0 h.toNat cap e.size=.slice (some ⟨g,0,none⟩) h.toNat cap:=by
   simp[sliced,Addr.add]
  rw[e2];have hhl:h.toNat≤xs.length:=by omega
  refine⟨cells.take (h.toNat*e.size),⟨?_,.inr ⟨g,cap,cur,?_,k2,k3,?_,k5,k6,?_⟩⟩,by rw[hbs,k1];rfl,hx'⟩;all_goals grind [zam]
theorem qoP {E:Env}{tid:Nat}{x:Operand}{o1:Op1}(ho:(opd E p tid x).run (qj σ)=some o1):∀s,o1.s=some s→o1.a≠ .undef→s<σ.length:=by
 intro s hs ha;unfold opd at ho;split at ho
 ·rename_i t;rw[Q.yc]at ho;have:=Q.yb ho;subst this;have hs:t=s:=by injection hs
  subst hs;by_cases h:t<σ.length
  ·exact h
  ·have:qj σ t=(0,.undef):=by grind [qj]
   rw[this]at ha;exact absurd rfl ha
 ·split at ho
  ·grind [Q.yb]
  ·cases ho
 ·grind [Q.yb]
 ·split at ho
  ·grind [Q.yb]
  ·cases ho
theorem qnQ (hE:qad E C.P) (h:qK C σ a.tmps w own) {t s d:Nat}{et:Nat}{e:Ty}{xs:List e.den}{v:Value}(qN:qO w (C.free w own) et e xs v (own s)) {hi:Option Op1}{vh:Option Value}
  (hh:(hi=none∧vh=none)∨∃b' v',hi=some b'∧vh=some v'∧qaC (sit C σ a.tmps w own) b' v')
  (hr:(execOp a.eval o).run C.P w=((Instr.sliceAt t v none vh none).run C.P w).andThen fun v w=>.ok (.value v) w) (hdst:o.dst=some d) (hne:d≠s) (hty:E.ty t=some (.slice e)) {l:Int}(h3:(qfh hi (qn xs)).run (qj σ)=some l)
  (hds:d<σ.length) (hss:s<σ.length) (hc:qb9 [inS 0 l (qn xs)]):qb5 C o a w (qh σ [⟨s,true,.undef⟩,⟨d,true,.own et e (qb6 xs 0 l)⟩]):=by
 have b2:=qdl h hh h3;obtain⟨c1,c2⟩:0≤l∧l≤qn xs:=by
  have:=hc _ (zah.2 rfl);grind [qhS]
 have c2':l≤xs.length:=by grind [qv]
 obtain⟨ad,cap,k1,k2,k3⟩:=qO.front qN c1 c2';have hsz:(sizeOf (E.etid t)).run C.P=fun w=>.ok e.size w:=hE.size t e (.inl hty);have hrun:=qeH (w:=w) (hE.elem t e hty).under hsz (ad:=ad) k2 (vl:=none) (.inl ⟨rfl,rfl⟩) (by rw[qv]at b2;exact b2) (zaF _) c1 c2';have hr2:(execOp a.eval o).run C.P w=.ok (.value (sliced ad 0 l.toNat cap e.size)) w:=by
  simp_all
 refine qt hr2 ?_;rw[qdG a hdst];exact h.mut hds [s] (fun s' hs'=>by grind) (qaA.refl _ _) (fun b hb=>.inr (.inr ⟨s,by simp,hb⟩)) (h.nodup s) k3 rfl
theorem qsD (hE:qad E C.P) (h:qK C σ a.tmps w own) {t:Nat}{x1:Op1}{v:Value}(hx:qaC (sit C σ a.tmps w own) x1 v) (hs:∀s,x1.s=some s→x1.a≠ .undef→s<σ.length) {hi:Option Op1}{vh:Option Value}
  (hh:(hi=none∧vh=none)∨∃b' v',hi=some b'∧vh=some v'∧qaC (sit C σ a.tmps w own) b' v')
  (hr:(execOp a.eval o).run C.P w=((Instr.sliceAt t v none vh none).run C.P w).andThen fun v w=>.ok (.value v) w) {q:Q Eff}(hq:cutE E o t x1 hi=some q) {f:Eff}
  (he:q.run (qj σ)=some f) (hd:∀u∈f.upd,u.s<σ.length) (hc:qb9 f.chk):qb5 C o a w (qh σ f.upd):=by
 obtain⟨os,ov,oa⟩:=x1;have chk:∀ {h n:Int},qb9 [inS 0 h n]→0≤h∧h≤n:=fun {h n} hc=>by
  have:=hc _ (zah.2 rfl);grind [qhS]
 unfold cutE at hq;split at hq
 ·rename_i s et e xs d h1 h2 hdst;simp only at h1 h2;subst h1;subst h2;split at hq;case isFalse=>cases hq
  rename_i hcond;obtain⟨hne,hty⟩:=hcond;injection hq with hq;subst hq;obtain⟨l,h3,he⟩:=Q.ya he;have:=Q.yb he;subst this;exact qnQ hE h hx.2.2 hh hr hdst hne hty h3 (hd ⟨d,true,.own et e (qb6 xs 0 l)⟩ (by simp)) (hd ⟨s,true,.undef⟩ (by simp)) hc
 ·rename_i _ et e h2;simp only at h2;subst h2;split at hq;case isFalse=>cases hq
  rename_i hty;injection hq with hq;subst hq;obtain⟨l,h3,he⟩:=Q.ya he;have:=Q.yb he;subst this;have b2:=qdl h hh h3;obtain⟨c1,c2⟩:=chk hc;have hv:v=.slice none 0 0:=(hx.unowned rfl).2;have hsz:(sizeOf (E.etid t)).run C.P=fun w=>.ok e.size w:=hE.size t e (.inl hty);have hrun:=qeH (w:=w) (hE.elem t e hty).under hsz (ad:=none) (zax 0) (vl:=none) (.inl ⟨rfl,rfl⟩) b2 (zaF _) c1 c2;have h0:l.toNat=0:=by omega
  have hr2:(execOp a.eval o).run C.P w=.ok (.value (.slice none 0 0)) w:=by
   simp_all [sliced]
  exact qt hr2 (h.dst0 hd ⟨rfl,rfl⟩ (fun m hm=>by cases hm))
 ·rename_i _ s v0 d h2 hdst;simp only at h2;subst h2;injection hq with hq;subst hq;unfold qte at he;rw[Q.yc]at he;split at he;case isFalse=>cases he
  rename_i hv;split at he
  ·rename_i et e xs ha;split at he;case isFalse=>cases he
   rename_i hcond;obtain⟨hne,hty⟩:=hcond;obtain⟨l,h3,he⟩:=Q.ya he;have:=Q.yb he;subst this;have qfS:a.tmps.getD s undef=v:=(hx.unowned rfl).2 hv;have hat:=h.at_ s;rw[ha,qfS]at hat;exact qnQ hE h hat hh hr hdst hne hty h3 (hd ⟨d,true,.own et e (qb6 xs 0 l)⟩ (by simp)) (hd ⟨s,true,.undef⟩ (by simp)) hc
  grind [qgB]
 ·cases hq
theorem qqR (hE:qad E C.P) (h:qK C σ a.tmps w own) (hp:qa5 (sit C σ a.tmps w own) p) {t:Nat}{x:Operand}{lo hi:Option Operand}(hop:o.op=.slice t x lo hi none) {f:Eff}
  (he:(qdR E p o).run (qj σ)=some f) (hd:∀u∈f.upd,u.s<σ.length) (hc:qb9 f.chk):qb5 C o a w (qh σ f.upd):=by
 unfold qdR at he;rw[hop]at he;obtain⟨x1,hx,he⟩:=Q.ya he;have ho:=qF h hp hx;have hr:(execOp a.eval o).run C.P w=((Instr.sliceAt t (a.eval x) (lo.map a.eval) (hi.map a.eval) none).run C.P w).andThen fun v w=>.ok (.value v) w:=by
  simp_all [execOp]
 cases lo with
 |none=>cases hi with
  |none=>
   grind [qsD,qoP,qgB]
  |some hi=>
   obtain⟨b,hb,he⟩:=Q.ya he;split at he
   ·rename_i q hq;exact qsD hE h ho (qoP hx) (.inr ⟨_,_,rfl,rfl,qF h hp hb⟩) hr hq he hd hc
   ·exact qgB hE h ho (.inl ⟨rfl,rfl⟩) (.inr ⟨_,_,rfl,rfl,qF h hp hb⟩) hr he hd hc
 |some lo=>cases hi with
  |none=>
   obtain⟨b,hb,he⟩:=Q.ya he;exact qgB hE h ho (.inr ⟨_,_,rfl,rfl,qF h hp hb⟩) (.inl ⟨rfl,rfl⟩) hr he hd hc
  |some hi=>
   obtain⟨b,hb,he⟩:=Q.ya he;obtain⟨b',hb',he⟩:=Q.ya he;exact qgB hE h ho (.inr ⟨_,_,rfl,rfl,qF h hp hb⟩) (.inr ⟨_,_,rfl,rfl,qF h hp hb'⟩) hr he hd hc
theorem qrx (hE:qad E C.P) (h:qK C σ a.tmps w own) (hp:qa5 (sit C σ a.tmps w own) p) {t:Nat}{x:Operand}{fl:Nat}(hop:o.op=.field t x fl) {f:Eff}
  (he:(qdR E p o).run (qj σ)=some f) (hd:∀u∈f.upd,u.s<σ.length) (hc:qb9 f.chk):qb5 C o a w (qh σ f.upd):=by
 unfold qdR at he;rw[hop]at he;obtain⟨x1,hx,he⟩:=Q.ya he;have ho:=qF h hp hx;split at he
 ·rename_i t' off u h1 h2 h3;obtain⟨r,hr,he⟩:=Q.ya he;have rx:=qcm h ho hr;split at he
  ·rename_i y hy;obtain⟨fz,hf,he⟩:=Q.ya he;have:=qE he;subst this;obtain⟨fs,fd,k1,k2,k3,k4,_⟩:=hE.off t fl off h2;obtain⟨q1,q2⟩:=rx.1.sub hy;have hag:t'.agg=true:=by
    obtain⟨d,d1,d2⟩:=(hE.ty t t' h1).desc;grind
   obtain⟨cs,ecs⟩:=rx.2.1 hag;refine qgR h (v:=mkV u (((a.eval x).cells.toList.drop off).take u.size)) ?_ hf hd (.ofCells q2);unfold execOp;rw[hop];simp only[Sem.run_bind,Instr.field,run_underlying k1,Result.andThen_ok,k2,ecs,asAgg,Sem.run_pure];rw[ecs]at q1;have hl:off+u.size≤cs.toList.length:=by simpa[Value.cells]using q1
   have:=(hE.ty _ _ h3).run_part (w:=w) (cs:=cs.toList) (off:=off) hl;simp_all [Value.cells]
  ·cases he
 ·cases he
theorem qlR (hE:qad E C.P) (h:qK C σ a.tmps w own) (hp:qa5 (sit C σ a.tmps w own) p) {t:Nat}{x:Operand}{fl:Nat}(hop:o.op=.fieldAddr t x fl) {f:Eff}
  (he:(qdR E p o).run (qj σ)=some f) (hd:∀u∈f.upd,u.s<σ.length) (hc:qb9 f.chk):qb5 C o a w (qh σ f.upd):=by
 unfold qdR at he;rw[hop]at he;obtain⟨x1,hx,he⟩:=Q.ya he;have ho:=qF h hp hx;split at he
 ·rename_i off h2;obtain⟨fs,fd,k1,k2,k3,k4,i,k5,k6⟩:=hE.off t fl off h2;refine qtP h hp.1 ho (qqi h hx) he hd fun ad hv=>?_;simp_all [run_underlying,execOp,Instr.fieldAt,Instr.sureAddr,fieldPlace,sizeOf,typeInfo]
 ·cases he
theorem qdY {P:Program}{t e:Nat}(ht:P.underlying t=some (.slice e)) {sz:Nat}(hs:(sizeOf e).run P=fun w=>.ok sz w) {ad:Addr}{len cap:Nat}{k:IntKind}{i:Int}(h0:0≤i) (h1:i<len):
  (Instr.indexAt t (.slice (some ad) len cap) (.int k i)).run P w=.ok (.pointer (some (ad.add (i.toNat*sz)))) w:=by
 simp[Instr.indexAt,asIntOf,run_underlying ht,h0,h1,hs]
theorem qlG (hE:qad E C.P) (h:qK C σ a.tmps w own) (hp:qa5 (sit C σ a.tmps w own) p) {t:Nat}{x ix:Operand}(hop:o.op=.indexAddr t x ix) {f:Eff}
  (he:(qdR E p o).run (qj σ)=some f) (hd:∀u∈f.upd,u.s<σ.length) (hc:qb9 f.chk):qb5 C o a w (qh σ f.upd):=by
 unfold qdR at he;rw[hop]at he;obtain⟨x1,hx,he⟩:=Q.ya he;obtain⟨i1,hi,he⟩:=Q.ya he;have ho:=qF h hp hx;have hoi:=qF h hp hi;unfold qmt at he;obtain⟨i,hn,he⟩:=Q.ya he;obtain⟨e2,g2⟩:=qcH h hoi hn;have hr:(execOp a.eval o).run C.P w=((Instr.indexAt t (a.eval x) (.int i.1 i.2)).run C.P w).andThen fun v w=>.ok (.value v) w:=by
  unfold execOp;rw[hop];simp[Sem.run_bind,e2]
 split at he;case h_2=>
  rename_i n e0 hty;split at he
  ·cases he
  rename_i hn2;have chk:qb9 [inB i.2 n]→0≤i.2∧i.2<(n:Int):=fun hc=>by
   have:=hc _ (zah.2 rfl);grind [qf4]
  have hsz:=hE.size t e0 (.inr ⟨n,hty⟩);have run:∀ {ad:Addr},0≤i.2→i.2<(n:Int)→(Instr.indexAt t (.pointer (some ad)) (.int i.1 i.2)).run C.P w=.ok (.pointer (some (ad.add (i.2.toNat*e0.size)))) w:=fun {ad} h0 h1=>by
   simp[Instr.indexAt,Instr.sureAddr,asIntOf,run_underlying (hE.arr t n e0 hty),h0,h1,hsz]
  split at he
  ·rename_i s v b hb;rw[Q.yc]at he;split at he;case isFalse=>cases he
   rename_i hv;have:=Q.yb he;subst this;obtain⟨i0,i1⟩:=chk hc;obtain⟨bb,k1,k2,k3⟩:=qeU h hp.1 ho hb hv;rw[k2,show ptr bb b=.pointer (some ⟨bb,b,none⟩)from rfl,run i0 i1]at hr;obtain⟨q1,q2⟩:=qr7 (C:=C) (w:=w) (own:=own) (off:=b) (e:=e0) (o2:=0) (v:= .pointer (some ((⟨bb,b,none⟩:Addr).add (i.2.toNat*e0.size)))) hv i0 i1 k1 (by rw[qx,Nat.add_zero];rfl) k3;exact qt hr (h.dst0 hd q1 q2 (by first|rfl|exact qfG _ _ _))
  ·split at he
   ·rename_i t' y off hxa;split at he
    ·rename_i ys hs;have:=Q.yb he;subst this;obtain⟨i0,i1⟩:=chk hc;obtain⟨_,ad,cs,k1,g1,g2,g3,g4⟩:=hxa▸ho.unowned (by rw[hxa];rfl);rw[k1,run i0 i1]at hr;obtain⟨m1,m2⟩:=g4.sub hs;obtain⟨z,z1,z2,z3⟩:=m2.elem (i:=i.2.toNat) (by omega);refine qt hr (h.dst0 hd ⟨rfl,(ad.add off).add (i.2.toNat*e0.size),(((cs.drop off).take (Ty.arr n e0).size).drop (i.2.toNat*e0.size)).take e0.size,?_,?_,?_,?_,?_⟩ (fun m hm=>by cases hm))
     ·rw[qbi _ _ 0];rfl
     ·grind [qam]
     ·grind [qam]
     ·intro j u hj;rw[qbi,qbi];refine g3 _ _ ?_;grind
     grind [qeo]
    ·cases he
   ·cases he
 case h_3=>cases he
 rename_i e0 hty;have hem:=hE.elem t e0 hty;have chk:∀ {n:Int},qb9 [inB i.2 n]→0≤i.2∧i.2<n:=fun {n} hc=>by
  have:=hc _ (zah.2 rfl);grind [qf4]
 have kOwn:∀(s v0:Nat) (fo:Option Nat) (et:Nat) (e:Ty) (xs:List e.den) (bs:List Nat),(qj σ s).1=v0→qe7 (sit C σ a.tmps w own) s fo (a.eval x)→qO w (C.free w own) et e xs (a.eval x) bs→e.size=e0.size→f=⟨qaL o (.prow s v0 fo e.size i.2 0),[inB i.2 (qn xs)]⟩→qb5 C o a w (qh σ f.upd):=by
  intro s v0 fo et e xs bs hv htm qN hsz hf;subst hf;obtain⟨c1,c2⟩:=chk hc;obtain⟨cells,k1,k2,k3⟩:=qN;rcases k1.2 with⟨k4,k5⟩|⟨g,cap,cur,k4,k5,k6,k7,k8,k9,k10⟩
  ·grind [qv]
  ·rw[k4]at hr;rw[qdY (w:=w) hem.under (hE.size t e0 (.inl hty)) c1 (by simpa[qv]using c2)]at hr;refine qt hr (h.dst0 hd ⟨rfl,fun _=>⟨g,xs.length,cap,k4▸htm,c1,by grind [qv],?_⟩⟩ (fun m hm=>?_));all_goals grind [qx,ptr,AV.mentions]
 have val:∀(e:Ty) (xs:List e.den),q9 w (C.free w own) (.slice e) xs (a.eval x)→e.size=e0.size→f=⟨qaL o (.view e (qJ xs i.2 e.dflt) 0),[inB i.2 (qn xs)]⟩→qb5 C o a w (qh σ f.upd):=by
  intro e xs qN hsz hf;subst hf;obtain⟨c1,c2⟩:=chk hc;rcases q9.slice qN with⟨_,k5⟩|⟨ad,cap,k4,k5,k6,k7⟩
  ·grind [qv]
  ·have hlt:i.2.toNat<xs.length:=by grind [qv]
   rw[k4]at hr;rw[qdY (w:=w) hem.under (hE.size t e0 (.inl hty)) c1 (by omega)]at hr;obtain⟨q1,q2,cs,q3,q4⟩:=k7 _ _ (zac hlt);refine qt hr (h.dst0 hd ⟨rfl,ad.add (i.2.toNat*e.size),cs,?_,?_,?_,q3,?_⟩ (fun m hm=>by cases hm))
   ·rw[qbi,hsz];rfl
   ·rw[qam];exact q1
   ·rw[qam];exact q2
   ·rw[qeo (zac hlt)];exact q4
 obtain⟨os,ov,oa⟩:=x1;cases oa with
 |own et e xs=>
  cases os with
  |none=>simp only[hty]at he;cases he
  |some s=>
   simp only[hty]at he;split at he
   ·rename_i hsz;obtain⟨k1,k2,k3⟩:=ho;exact kOwn s ov none et e xs _ k2.symm k1.symm k3 hsz (Q.yb he).symm
   ·cases he
 |ref s v=>
  cases os;all_goals
   simp only[hty,Q.yc]at he
   split at he
   ·rename_i hv
    have hu:=(ho.unowned rfl).2 hv
    have hu:a.tmps.getD s undef=a.eval x:=hu
    have hat:=h.at_ s
    rw[hu]at hat
    split at he
    ·rename_i et e xs h3
     rw[h3]at hat
     split at he
     ·rename_i hsz
      exact kOwn s v none et e xs _ hv hu hat hsz (Q.yb he).symm
     ·cases he
    ·rename_i e xs h3
     rw[h3]at hat
     split at he
     ·rename_i hsz
      exact val e xs hat.2 hsz (Q.yb he).symm
     ·cases he
    ·cases he
   ·cases he
 |val t' xs=>
  cases t' with
  |slice e=>
   cases os;all_goals
    simp only[hty]at he
    split at he
    ·rename_i hsz
     exact val e xs (ho.unowned rfl).2 hsz (Q.yb he).symm
    ·cases he
  |_=>cases os<;>simp only[hty]at he<;>cases he
 |bref s v off u=>
  cases os;all_goals
   simp only[hty]at he
   split at he
   ·rename_i hag
    rw[Q.yc]at he
    split at he
    ·rename_i hv
     split at he
     ·rename_i et e xs h3
      split at he
      ·rename_i hsz
       have hh:=qh8 (ho.unowned rfl) hag hv
       obtain⟨_,b1,b2,b3,q1,_⟩:=h.rowAt h3 hh
       grind [Q.yb]
      ·cases he
     ·cases he
    ·cases he
   ·cases he
 |_=>cases os<;>simp only[hty]at he<;>cases he
end
end Go.Vi
namespace Go.Vi
open Go.RowKit
section
variable {C:Ctx}{E:Env}{σ:St}{tm:Array Value}{a:Act}{w w':World}{own:Own}{o:Oper}{p:qdU} [Tabbed E C]
theorem qn3 (hE:qad E C.P) {t:Nat}{u:Ty}(h:vty E t=some u):TyB C.P t u:=by
 unfold vty at h;split at h
 ·rename_i u' hu;injection h with h;exact h▸hE.heap.ty t u' hu
 ·exact hE.ty t u h
theorem qfg {X:Sit}{t:Ty}{x:t.den}{v:Value}(h:qb3 X.w X.F X.gh t x v):qS X (qjy t x) v []∧(qjy t x).mentions=[]:=by
 unfold qjy;cases hp:t.plain with
 |true=>exact⟨⟨rfl,h.plain hp⟩,rfl⟩
 |false=>exact⟨⟨rfl,h⟩,rfl⟩
theorem qb7 (h:qK C σ a.tmps w own) {ps:List qQ}(he:(qfK E).run (qj σ)=some ps):(qj σ E.hs).2=.heap ps∧(ps.map (·.k)).Nodup∧qL w (C.free w own) own.gh ps (own E.hs)∧qil C w own (a.tmps.getD E.hs undef):=by
 unfold qfK at he;rw[Q.yc]at he;split at he
 ·rename_i ps' hps;have:=Q.yb he;subst this;have hat:=h.at_ E.hs;rw[hps]at hat;exact⟨hps,hat⟩
 ·cases he
theorem qpO {X:Sit}{x1:Op1}{v:Value}(ho:qaC X x1 v) {k sz off:Nat}{id i:Int}(hq:qmK x1=some (k,sz,id,i,off)) (h0:0≤id):
  0≤i∧∃g n cap,X.gh k id.toNat=some (.slice (some ⟨g,0,none⟩) n cap)∧i<(n:Int)∧v=ptr g (i.toNat*sz+off):=by
 unfold qmK at hq;split at hq
 ·rename_i ha;have hr:=ho.unowned (by rw[ha];rfl);rw[ha]at hr;injection hq with hq;simp only[Prod.mk.injEq]at hq;obtain⟨rfl,rfl,rfl,rfl,rfl⟩:=hq;exact hr.2.2
 ·rename_i y ha;have hr:=ho.unowned (by rw[ha];rfl);rw[ha]at hr;injection hq with hq;simp only[Prod.mk.injEq]at hq;obtain⟨rfl,rfl,rfl,rfl,rfl⟩:=hq;obtain⟨_,⟨v',hc,hr⟩,_,hn⟩:=hr;have hv:v.cells.toList=[v]:=by rw[qaN (hn rfl)]
  rw[hv]at hc;injection hc with hc;subst hc;rcases hr with⟨e,_⟩|⟨_,h1,g,n,cap,h2,h3,h4⟩;all_goals grind
 ·cases hq
theorem qvc (h:qK C σ a.tmps w own) {ps:List qQ}{q:qQ}{k g n cap:Nat}{id i:Int}{xs:List q.e.den}(hn:(ps.map (·.k)).Nodup) (hh:qL w (C.free w own) own.gh ps (own E.hs)) (hq:qcg k ps=some q) (hr:qkn k ps q id=some xs)
  (hg:own.gh k id.toNat=some (.slice (some ⟨g,0,none⟩) n cap)) (i0:0≤i) (i1:i<(n:Int)):
  xs.length=n∧∃cs,qem w ⟨g,i.toNat*q.e.size,none⟩ cs∧qa6 w (C.free w own) own.gh q.e (qJ xs i q.e.dflt) cs:=by
 exact hh.atX hn hq hr hg i0 i1
theorem qiv (h:qK C σ a.tmps w own) (hpt:qpW (sit C σ a.tmps w own)) {x1:Op1}{v:Value}(ho:qaC (sit C σ a.tmps w own) x1 v) {s off:Nat}{v0:Option Nat}(hb:qmg x1=some (s,v0,off)) (hv:vOk (qj σ s).1 v0=true):∃b,a.tmps.getD s undef=ptr b 0∧v=ptr b off∧(v0=none→C.pn s=some b):=by
 obtain⟨os,ov,oa⟩:=x1;unfold qmg at hb;split at hb
 ·rename_i s' t' y' h1 h2;simp only at h1 h2;subst h1;subst h2;injection hb with hb;injection hb with h3 h4;injection h4 with h4 h5;subst h3;subst h5;obtain⟨e1,_,b,_,_,e2,_⟩:=ho;exact⟨b,by rw[←e2];exact e1.symm,e2,fun h=>by grind⟩
 ·rename_i s' v' off' h2;simp only at h2;subst h2;injection hb with hb;injection hb with h3 h4;injection h4 with h4 h5;subst h3;subst h4;subst h5;obtain⟨b,k1,k2⟩:=(ho.unowned rfl).2 (of_decide_eq_true hv);exact⟨b,k1,k2,fun h=>by cases h⟩
 ·rename_i k' off' h2;simp only at h2;subst h2;injection hb with hb;injection hb with h3 h4;injection h4 with h4 h5;subst h3;subst h4;subst h5;obtain⟨_,b,k1,k2⟩:=ho.unowned rfl;exact⟨b,hpt _ b k1,k2,fun _=>k1⟩
 ·cases hb
theorem qgU {α:Type}{x:Option α}{d:α}(h:qp x=true):x=some (qy x d):=by
 rw[qaI]at h;rw[qbh];cases x with
 |none=>cases h
 |some y=>rfl
theorem qsO (hE:qad E C.P) (h:qK C σ a.tmps w own) (hpt:qpW (sit C σ a.tmps w own)) {t:Nat}{x1:Op1}{v:Value}(ho:qaC (sit C σ a.tmps w own) x1 v) {f:Eff}
  (he:(qoH E o t x1).run (qj σ)=some (some f)) (hd:∀u∈f.upd,u.s<σ.length) (hc:qb9 f.chk) (hx:(execOp a.eval o).run C.P w=((Instr.loadAt t v).run C.P w).andThen fun v w'=>.ok (.value v) w'):qb5 C o a w (qh σ f.upd):=by
 unfold qoH at he;split at he
 ·rename_i k sz id i off hq;obtain⟨ps,hps,he⟩:=Q.ya he;obtain⟨hs,hn,hh,hnp⟩:=qb7 h hps;split at he;case h_2=>cases he
  rename_i u q hu hq';split at he;case isFalse=>cases he
  rename_i hsz;split at he;case h_2=>cases he
  rename_i y hy;have:=Q.yb he;injection this with this;subst this;have hrow':=qgU (d:=[]) (hc _ (zah.2 rfl));obtain⟨i0,g,n,cap,hg,i1,rfl⟩:=qpO ho hq (qro hrow');obtain⟨hxn,cs,k1,k2⟩:=qvc h hn hh hq' hrow' hg i0 i1;obtain⟨q1,q2⟩:=k2.sub hy;have hT:=qn3 hE hu;rw[hsz]at k1;have hcells:qem w ⟨g,i.toNat*sz+off,none⟩ ((cs.drop off).take u.size):=fun j z hj=>by
   rw[zap]at hj;split at hj
   ·rw[zav]at hj;have:=k1 _ _ hj;grind [qx]
   ·cases hj
  have hrun:=qcC hT hcells (by grind);obtain⟨r1,r2⟩:=qfg (X:=sit C σ a.tmps w own) (qb3.ofCells q2);refine qt (v:=mkV u ((cs.drop off).take u.size)) ?_ (h.dst0 hd r1 (fun m hm=>by grind) (by unfold qjy;split<;>rfl));rw[hx,show ptr g (i.toNat*sz+off)=.pointer (some ⟨g,i.toNat*sz+off,none⟩)from rfl,hrun];rfl
 ·split at he;case h_2=>cases Q.yb he
  rename_i s v0 off hb;rw[Q.yc]at he;split at he;case h_2=>cases Q.yb he
  rename_i T y hbx;split at he;case isFalse=>cases he
  rename_i hv;obtain⟨b,hp,rfl,_⟩:=qiv h hpt ho hb hv;have hat:=h.at_ s;rw[hbx]at hat;obtain⟨b',cs,te,h1,h2,h3,h4⟩:=hat;rw[hp]at h1;obtain⟨rfl,_⟩:=qdC h1;have main:∀ {u:Ty}{z:u.den},TyB C.P t u→T.sub y off u=some z→(∀u'∈qaL o (qjy u z),u'.s<σ.length)→qb5 C o a w (qh σ (qaL o (qjy u z))):=by
   intro u z hu hz hd;obtain⟨q1,q2⟩:=h3.sub hz;have hrun:=qcC (w:=w) hu (qff h2 (off:=off) (n:=u.size)) (by grind);obtain⟨r1,r2⟩:=qfg (X:=sit C σ a.tmps w own) (qb3.ofCells q2);refine qt (v:=mkV u ((cs.drop off).take u.size)) ?_ (h.dst0 hd r1 (fun m hm=>by grind) (by unfold qjy;split<;>rfl));rw[hx,show ptr b off=.pointer (some ⟨b,off,none⟩)from rfl,hrun];rfl
  split at he
  ·grind [Option.bind_eq_some_iff,zao,Q.yb,qn3]
  ·split at he;case h_2=>cases he
   rename_i av hav;obtain⟨u,hu,hav⟩:=Option.bind_eq_some_iff.1 hav;obtain⟨z,hz,rfl⟩:=zao.1 hav;have:=Q.yb he;injection this with this;subst this;exact main (hE.ty t u hu) hz hd
theorem qnX (h:qK C σ a.tmps w own) (hpt:qpW (sit C σ a.tmps w own)) {n:Nat}{x1:Op1}{v:Value}(ho:qaC (sit C σ a.tmps w own) x1 v) {f:Eff}(he:(qqm o n x1).run (qj σ)=some (some f)) (hd:∀u∈f.upd,u.s<σ.length) (hc:qb9 f.chk)
  (hx:∀ad,v=.pointer (some ad)→(execOp a.eval o).run C.P w=.ok (.value (.pointer (some (ad.add n)))) w):qb5 C o a w (qh σ f.upd):=by
 unfold qqm at he;split at he
 ·rename_i k sz id i off hq;have:=Q.yb he;injection this with this;subst this;have h0:0≤id:=by
   have:=hc _ (zah.2 rfl);grind [qdZ]
  obtain⟨i0,g,m,cap,hg,i1,rfl⟩:=qpO ho hq h0;refine qt (hx _ rfl) (h.dst0 hd ⟨rfl,h0,i0,g,m,cap,hg,i1,?_⟩ fun m hm=>by cases hm);rw[qx,Nat.add_assoc];rfl
 ·split at he;case h_2=>cases Q.yb he
  rename_i s v0 off hb;rw[Q.yc]at he;split at he;case h_2=>cases Q.yb he
  split at he;case isFalse=>cases he
  rename_i hv;have:=Q.yb he;injection this with this;subst this;obtain⟨b,h1,rfl,h2⟩:=qiv h hpt ho hb hv;obtain⟨q1,q2⟩:=qng (off:=off+n) (v:= .pointer (some ((⟨b,off,none⟩:Addr).add n))) h hv h1 (by rw[qx];rfl) h2;exact qt (hx _ rfl) (h.dst0 hd q1 q2 (by grind [qfG]))
theorem qf6 {X:Sit}{x1:Op1}{v:Value}(ho:qaC X x1 v) {k sz:Nat}{s:Int×(Int×Int)}(hq:qqt x1=some (k,sz,s)):qe2 X.gh k sz s v:=by
 unfold qqt at hq;split at hq
 ·rename_i y ha;have hr:=ho.unowned (by rw[ha];rfl);rw[ha]at hr;injection hq with hq;simp only[Prod.mk.injEq]at hq;obtain⟨rfl,rfl,rfl⟩:=hq;obtain⟨_,⟨v',hc,hr⟩,_,hn⟩:=hr;have hv:v.cells.toList=[v]:=by rw[qaN (hn rfl)]
  grind
 ·cases hq
theorem qqJ (hE:qad E C.P) (h:qK C σ a.tmps w own) {t:Nat}{x1 i1:Op1}{v vi:Value}(ho:qaC (sit C σ a.tmps w own) x1 v) (hi:qaC (sit C σ a.tmps w own) i1 vi) {k0 sz0:Nat}(ht:E.hty t=some (.sl k0 sz0)) {f:Eff}
  (hsz:∀k sz s,qqt x1=some (k,sz,s)→sz=sz0)
  (he:(qpA o x1 i1).run (qj σ)=some (some f)) (hd:∀u∈f.upd,u.s<σ.length) (hc:qb9 f.chk)
  (hx:(execOp a.eval o).run C.P w=((Instr.indexAt t v vi).run C.P w).andThen fun v w'=>.ok (.value v) w'):qb5 C o a w (qh σ f.upd):=by
 unfold qpA at he;split at he;case h_2=>cases Q.yb he
 rename_i k sz s hq;obtain⟨i,h1,he⟩:=Q.ya he;have:=Q.yb he;injection this with this;subst this;have hb:=hc _ (zah.2 rfl);rw[qf4,qdF]at hb;simp only[zad,decide_eq_true_eq]at hb;obtain⟨b0,b1⟩:=hb;obtain⟨e1,_⟩:=qcH h hi h1;rcases qf6 ho hq with⟨_,e2,e3,_⟩|⟨s0,s1,s2,ad,n,cap,g1,⟨g2,g3,g4⟩,g5,rfl|⟨_,e4,_⟩⟩
 ·omega
 rotate_left
 ·omega
 have hn:n≠0:=by omega
 obtain⟨g,rfl⟩:=g4.resolve_left hn;obtain⟨q1,q2⟩:=hE.heap.sl t k0 sz0 ht;have hsz:=hsz _ _ _ hq;subst hsz;have hlen:s.2.2.toNat-s.2.1.toNat≤cap-s.2.1.toNat:=by omega
 refine qt (v:=ptr g ((qX s.2.1 i.2).toNat*sz)) ?_ (h.dst0 hd ⟨rfl,s0,by rw[qed];omega,g,n,cap,g1,by rw[qed];omega,by rw[Nat.add_zero]⟩ fun m hm=>by cases hm);rw[hx,e1];have hsl:sliced (some ⟨g,0,none⟩) s.2.1.toNat s.2.2.toNat cap sz=.slice (some ⟨g,s.2.1.toNat*sz,none⟩) (s.2.2.toNat-s.2.1.toNat) (cap-s.2.1.toNat):=by
  grind [qx,sliced]
 rw[hsl,qdY q1 q2 b0 (by omega)];simp only[Result.andThen_ok,qx,ptr,qed];rw[←zaS,show s.2.1.toNat+i.2.toNat=(s.2.1+i.2).toNat by omega]
end
end Go.Vi
namespace Go.Vi
open Go.RowKit
section
variable {w:World}{F:Nat→Prop}{gh:Nat→Nat→Option Value}
theorem qO.toH {et:Nat}{e:Ty}{xs:List e.den}{v:Value}{bs:List Nat}(h:qO w F et e xs v bs):qI w F gh et e xs v bs:=by
 obtain⟨cells,h1,h2,h3⟩:=h;exact⟨cells,h1,h2,fun i x hi=>(h3 i x hi).toH⟩
theorem qI.form {et:Nat}{e:Ty}{xs:List e.den}{v:Value}{bs:List Nat}(h:qI w F gh et e xs v bs):∃ad cap,v=.slice ad xs.length cap∧HdOk ad xs.length cap:=by
 obtain⟨cells,h1,_,_⟩:=h;rcases h1.2 with⟨rfl,h2⟩|⟨g,cap,cur,rfl,_,_,h3,h4,_⟩
 ·exact⟨none,0,by rw[h2],by rw[h2];exact⟨zax _,zaD _,.inl rfl⟩⟩
 ·exact⟨some ⟨g,0,none⟩,cap,rfl,h3,h4,.inr ⟨g,rfl⟩⟩
theorem qbL (ad:Option Addr) (n cap sz:Nat):sliced ad 0 n cap sz=.slice ad n cap:=by
 simp_all [sliced,Addr.add]
theorem qL.add {ps:List qQ}{bs:List Nat}{k:Nat}{q:qQ}(hn:(ps.map (·.k)).Nodup) (h:qL w F gh ps bs) (hq:qcg k ps=some q) {ys:List q.e.den}{hd:Value}{c:List Nat}(hr:qI w F gh q.et q.e ys hd c):
  ∃b1 b2 b3,bs=b1++(b2++b3)∧qr4 k gh (qfr gh k q.rows.length hd)∧qL w F (qfr gh k q.rows.length hd) (pset { q with rows:=qdc q.rows ys } ps) (b1++((b2++c)++b3)):=by
 obtain⟨b1,b2,b3,h1,h2,h3⟩:=h.find hn hq;have hk:=(qcF hq).1;subst hk;have hg:gh q.k q.rows.length=none:=by
  obtain⟨_,_,_,g,_⟩:=h2;grind
 have ho:=qg1 (hd:=hd) hg;refine⟨b1,b2,b3,h1,ho,h3 w F _ _ _ (fun b hb hl=>⟨hb,hl,rfl⟩) ho (fun _ _ _=>rfl) rfl (by rw[qbW];exact h2.add hr),?_⟩;refine qhX.add hn (qcF hq).2 (qcD hq).1 (fun j ys hj=>by grind [qbW]) ho.1 (fun b hb=>?_) h.2;grind
end
section
variable {C:Ctx}{E:Env}{σ:St}{tm:Array Value}{a:Act}{w w':World}{own:Own}{o:Oper}{p:qdU} [Tabbed E C]
theorem qa6.mono {F:Nat→Prop}{gh gh':Nat→Nat→Option Value}(hg:qaJ gh gh') {t:Ty}{x:t.den}{cs:List Value}(h:qa6 w F gh t x cs):qa6 w F gh' t x cs:=h.keep (fun b hb hl=>⟨hb,hl,rfl⟩) hg
theorem qb3.mono {F:Nat→Prop}{gh gh':Nat→Nat→Option Value}(hg:qaJ gh gh') {t:Ty}{x:t.den}{v:Value}(h:qb3 w F gh t x v):qb3 w F gh' t x v:=⟨h.1.mono hg,h.2⟩
def qaw (E:Env) (w:World) (F:Nat→Prop) (own:Own) (gh0:Nat→Nat→Option Value) (nb0:List Nat) (c:List qQ×List U) (Q:(Nat→Nat→Option Value)→Prop):Prop:=
 ∃(gh':Nat→Nat→Option Value) (nb:List Nat),qaJ gh0 gh'∧Q gh'∧(c.1.map (·.k)).Nodup∧qL w F gh' c.1 nb∧nb.Perm (nb0++c.2.flatMap fun u=>own u.s)∧(∀u∈c.2,(u.a=.undef∧u.bump=true)∧u.s≠E.hs)∧(c.2=[]→gh'=gh0)
theorem qaw.imp {F:Nat→Prop}{gh0:Nat→Nat→Option Value}{nb0:List Nat}{c:List qQ×List U}{Q R:(Nat→Nat→Option Value)→Prop}(h:qaw E w F own gh0 nb0 c Q) (hq:∀gh',qaJ gh0 gh'→Q gh'→R gh'):qaw E w F own gh0 nb0 c R:=by
 obtain⟨gh',nb,g1,g2,g3⟩:=h;exact⟨gh',nb,g1,hq _ g1 g2,g3⟩
theorem qaw.yu {F:Nat→Prop}{gh0:Nat→Nat→Option Value}{nb0:List Nat}{ps:List qQ}{Q:(Nat→Nat→Option Value)→Prop}(hn:(ps.map (·.k)).Nodup) (hh:qL w F gh0 ps nb0) (hq:Q gh0):qaw E w F own gh0 nb0 (ps,[]) Q:=
 ⟨gh0,nb0,qaJ.refl _,hq,hn,hh,by simp,fun u hu=>(by cases hu),fun _=>rfl⟩
theorem qaw.now {F:Nat→Prop}{gh0:Nat→Nat→Option Value}{nb0:List Nat}{c:List qQ×List U}{Q:(Nat→Nat→Option Value)→Prop}(h:qaw E w F own gh0 nb0 c Q) (he:c.2.isEmpty=true):Q gh0:=by
 obtain⟨gh',nb,_,g2,_,_,_,_,g7⟩:=h;grind
theorem qaw.join {F:Nat→Prop}{gh0 gh1:Nat→Nat→Option Value}{nb0 nb1:List Nat}{c:List U}{d:List qQ×List U}{R:(Nat→Nat→Option Value)→Prop}(g1:qaJ gh0 gh1) (g5:nb1.Perm (nb0++c.flatMap fun u=>own u.s)) (g6:∀u∈c,(u.a=.undef∧u.bump=true)∧u.s≠E.hs) (g7:c=[]→gh1=gh0)
  (k:qaw E w F own gh1 nb1 d R):qaw E w F own gh0 nb0 (d.1,c++d.2) R:=by
 obtain⟨gh2,nb2,k1,k2,k3,k4,k5,k6,k7⟩:=k;refine⟨gh2,nb2,g1.trans k1,k2,k3,k4,?_,fun u hu=>?_,fun he=>(k7 (List.append_eq_nil_iff.1 he).2).trans (g7 (List.append_eq_nil_iff.1 he).1)⟩;all_goals grind
def qmh (E:Env) (w:World) (F:Nat→Prop) (own:Own) (gh0:Nat→Nat→Option Value) (nb0:List Nat) (t:Ty) (v:Value) (c:t.den×List qQ×List U):Prop:=
 c.2.2.length≤1∧qaw E w F own gh0 nb0 c.2 fun gh'=>qb3 w F gh' t c.1 v
theorem qmz {gh0:Nat→Nat→Option Value}{nb0:List Nat}{ps:List qQ}{k sz:Nat}(hn:(ps.map (·.k)).Nodup) (hh:qL w (C.free w own) gh0 ps nb0) {q:qQ}(hq:qcg k ps=some q) {s:Nat}(hs:s≠E.hs) {e:Ty}{ys:List e.den}{zs:List q.e.den}{v:Value}
  (he:Ty.as (t:= .slice e) (.slice q.e) ys=some zs) (hsz:e.size=sz) (hr:qI w (C.free w own) gh0 q.et e ys v (own s)):
  qmh E w (C.free w own) own gh0 nb0 (.sl k sz) v ((qn q.rows,(0,qn zs)),pset { q with rows:=qdc q.rows zs } ps,[⟨s,true,.undef⟩]):=by
 obtain⟨e1,e2⟩:=Ty.yd he;injection e1 with e1;subst e1;have e2:ys=zs:=e2;subst e2;obtain⟨b1,b2,b3,h1,h2,h3⟩:=hh.add hn hq hr;obtain⟨ad,cap,hv,hok⟩:=hr.form;refine⟨zax _,_,_,h2.1,⟨?_,fun h=>(by cases h),fun _ cs hc=>by grind⟩,by rw[qe5];exact hn,h3,?_,fun u hu=>(by grind),fun h=>(by cases h)⟩;rotate_left
 ·grind
 refine⟨v,by rw[hv];rfl,.inr ⟨?_,zaF _,?_,ad,ys.length,cap,?_,hok,?_,?_⟩⟩;all_goals grind [qbL,qn,qfr]
theorem qn2 {gh0:Nat→Nat→Option Value}{nb0:List Nat}(hg0:qaJ own.gh gh0) {ps:List qQ}{k sz:Nat}(hn:(ps.map (·.k)).Nodup) (hh:qL w (C.free w own) gh0 ps nb0) {x1:Op1}{v:Value}(ho:qaC (sit C σ a.tmps w own) x1 v) {c:(Int×(Int×Int))×List qQ×List U}
  (he:(qpX E k sz x1 ps).run (qj σ)=some c):qmh E w (C.free w own) own gh0 nb0 (.sl k sz) v c:=by
 obtain⟨os,ov,oa⟩:=x1;have nilc:v=.slice none 0 0→qmh E w (C.free w own) own gh0 nb0 (.sl k sz) v ((-1,(0,0)),ps,[]):=fun hv=>
  ⟨zaD _,qaw.yu hn hh ⟨⟨v,by rw[hv];rfl,.inl ⟨rfl,rfl,rfl,hv⟩⟩,fun h=>(by cases h),fun _ cs hc=>by grind⟩⟩
 unfold qpX at he;split at he
 ·rename_i s et e ys h1 h2;simp only at h1 h2;subst h1;subst h2;split at he;case h_2=>cases he
  rename_i q hq;split at he;case isFalse=>cases he
  rename_i hc;obtain⟨c1,c2,c3⟩:=hc;split at he;case h_2=>cases he
  rename_i zs hzs;have:=Q.yb he;subst this;obtain⟨_,_,e3⟩:=ho;have e3:qO w (C.free w own) et e ys v (own s):=e3;exact qmz (E:=E) hn hh hq c3 hzs c2 (c1▸e3.toH)
 ·rename_i s et e ys h1 h2;simp only at h1 h2;subst h1;subst h2;split at he;case h_2=>cases he
  rename_i q hq;split at he;case isFalse=>cases he
  rename_i hc;obtain⟨c1,c2,c3⟩:=hc;split at he;case h_2=>cases he
  rename_i zs hzs;have:=Q.yb he;subst this;obtain⟨_,_,e3⟩:=ho;have e3:qI w (C.free w own) own.gh et e ys v (own s):=e3;grind [qmz,qI.keep]
 ·rename_i et e h1 h2;simp only at h1 h2;subst h1;subst h2;have:=Q.yb he;subst this;refine nilc ?_;have e3:qO w (C.free w own) et e [] v []:=ho;obtain⟨cells,g1,g2,_⟩:=e3;rcases g1.2 with⟨rfl,_⟩|⟨g,cap,cur,rfl,_⟩
  ·rfl
  ·cases g2
 ·rename_i et e h2;simp only at h2;subst h2;have:=Q.yb he;subst this;exact nilc (ho.unowned rfl).2
 ·rename_i k' sz' y h2;simp only at h2;subst h2;split at he;case isFalse=>cases he
  rename_i hc;obtain⟨rfl,rfl⟩:=hc;have:=Q.yb he;subst this;exact⟨zaD _,qaw.yu hn hh (qb3.mono hg0 (ho.unowned rfl).2)⟩
 ·cases he
theorem qhn (h:qK C σ a.tmps w own) {gh0:Nat→Nat→Option Value}{nb0:List Nat}(hg0:qaJ own.gh gh0) {ps:List qQ}(hn:(ps.map (·.k)).Nodup) (hh:qL w (C.free w own) gh0 ps nb0) {x1:Op1}{v:Value}(ho:qaC (sit C σ a.tmps w own) x1 v) {t:Ty}{c:t.den×List qQ×List U}
  (he:(qoi E x1 ps t).run (qj σ)=some c):qmh E w (C.free w own) own gh0 nb0 t v c:=by
 have same:∀y:t.den,qb3 w (C.free w own) own.gh t y v→qmh E w (C.free w own) own gh0 nb0 t v (y,ps,[]):=fun y hy=>
  ⟨zaD _,qaw.yu hn hh (hy.mono hg0)⟩
 have hvs:∀ {t':Ty}{y:t'.den}{z:t.den},x1.a=.hv t' y→Ty.as t y=some z→qb3 w (C.free w own) own.gh t z v:=fun {t'} {y} {z} ha hz=>by
  have hr:=ho.unowned (by rw[ha];rfl);rw[ha]at hr;obtain⟨rfl,rfl⟩:=Ty.yd hz;exact hr.2
 have gen:(match x1.a with
   |.hv t' y=>(match Ty.as (t:=t') t y with
    |some y=>Q.ret (y,ps,[])
    |none=>.fail)
   |_=>(toVal t x1).bind fun r=>if r.2.isEmpty=true then .ret (r.1,ps,[])else .fail).run (qj σ)=some c→qmh E w (C.free w own) own gh0 nb0 t v c:=fun he=>by
  split at he
  ·rename_i t' y ha;split at he;case h_2=>cases he
   grind [Q.yb]
  ·obtain⟨r,h1,he⟩:=Q.ya he;split at he;case isFalse=>cases he
   rename_i h0;have:=Q.yb he;subst this;have hv:=qcm h ho h1;rw[List.isEmpty_iff.1 h0]at hv;exact same r.1 (q9.toH (hv.mono fun b hb _=>qld hb))
 cases t with
 |sl k sz=>exact qn2 hg0 hn hh ho he
 |ptr k sz=>
  simp only[qoi]at he;split at he
  ·grind
  ·rename_i k' sz' id i ha;split at he;case isFalse=>cases he
   rename_i hc;obtain⟨rfl,rfl⟩:=hc;have:=Q.yb he;subst this;have hr:=ho.unowned (by rw[ha];rfl);rw[ha]at hr;obtain⟨_,h0,h1,g,n,cap,h2,h3,rfl⟩:=hr;exact same _ ⟨⟨_,rfl,.inr ⟨h0,h1,g,n,cap,h2,h3,by rw[Nat.add_zero]⟩⟩,fun h=>(by cases h),fun _ cs h=>by cases h⟩
  ·rename_i e hs ha;have:=Q.yb he;subst this;refine same _ ?_;have hr:=ho.unowned (by rw[ha];rfl);rw[ha]at hr;obtain⟨_,⟨v',hc,hr⟩,_,hnv⟩:=hr;have hv:v.cells.toList=[v]:=by rw[qaN (hnv rfl)]
   rw[hv]at hc;injection hc with hc;subst hc;refine⟨⟨v,hv,.inl ⟨rfl,rfl,?_⟩⟩,fun h=>(by cases h),fun _=>hnv rfl⟩;rcases hr with⟨_,hr⟩|⟨y,_,_,hy,_⟩;all_goals grind
  ·cases he
 |int k=>exact gen he
 |bool=>exact gen he
 |str=>exact gen he
 |unit=>exact gen he
 |pair x y=>exact gen he
 |slice e=>exact gen he
 |arr n e=>exact gen he
 |err=>exact gen he
 |opt e=>exact gen he
 |map k e=>exact gen he
def qtk (E:Env) (us:List U):Prop:=(∀u∈us,(u.a=.undef∧u.bump=true)∧u.s≠E.hs)∧(us.map (·.s)).Nodup
theorem qtk.nil:qtk E []:=⟨fun _ h=>(by cases h),zaA⟩
theorem qe4 {l:List U}(h:l.length≤1):(l.map (·.s)).Nodup:=by
 match l,h with
 |[],_=>grind
 |[_],_=>simp
theorem qme (h:qK C σ tm w own): {us:List U}→(us.map (·.s)).Nodup→(us.flatMap fun u=>own u.s).Nodup
 |[],_=>zaA
 |u::us,hn=>by
  rw[zaC,zaJ]at hn;rw[List.flatMap_cons];refine zai.2 ⟨h.nodup _,qme h hn.2,fun b hb b' hb' e=>?_⟩;subst e;obtain⟨v,hv,hbv⟩:=List.mem_flatMap.1 hb';exact hn.1 (h.apart _ _ _ hb hbv▸List.mem_map_of_mem (f:=(·.s)) hv)
theorem qaw.nodup (h:qK C σ tm w own) {c:List qQ×List U}{Q:(Nat→Nat→Option Value)→Prop}(hc:qaw E w (C.free w own) own own.gh (own E.hs) c Q) (hnd:(c.2.map (·.s)).Nodup):
  ∃(gh':Nat→Nat→Option Value) (nb:List Nat),qaJ own.gh gh'∧Q gh'∧(c.1.map (·.k)).Nodup∧qL w (C.free w own) gh' c.1 nb∧qtk E c.2∧nb.Nodup∧∀b∈nb,b∈own E.hs∨∃u∈c.2,b∈own u.s:=by
 obtain⟨gh',nb,g1,g2,g3,g4,g5,g6,_⟩:=hc;refine⟨gh',nb,g1,g2,g3,g4,⟨g6,hnd⟩,g5.nodup_iff.2 (zai.2 ⟨h.nodup _,qme h hnd,fun b hb b' hb' e=>?_⟩),fun b hb=>?_⟩
 ·subst e;obtain⟨v,hv,hbv⟩:=List.mem_flatMap.1 hb';exact(g6 v hv).2 (h.apart _ _ _ hbv hb)
 grind
theorem qK.oneU {tm':Array Value}(h:qK C σ tm w own) {s:Nat}{av:AV}{bs:List Nat}(hlt:s<σ.length) (htm:tm'.size=tm.size) (htms:∀x,x≠s→tm'.getD x undef=tm.getD x undef) (hk:qaA (fun k=>k∈own s) w w')
  (hnb:(∀b∈bs,(w.heap.size≤b∧b<w'.heap.size)∨b∈own s)∧bs.Nodup) (hav:av.mentions=[]∧av.isHeap=false)
  (hrep:∀X':Sit,X'.P=C.P→X'.pn=C.pn→X'.gh=own.gh→X'.w=w'→(∀b,C.free w own b→X'.F b)→qS X' av (tm'.getD s undef) bs):∃own',qK C (qh σ [⟨s,true,av⟩]) tm' w' own':=by
 have mem:∀ {u:U},u∈[(⟨s,true,av⟩:U)]→u=⟨s,true,av⟩:=fun hu=>zah.1 hu;obtain⟨own',q,_⟩:=h.multi (tm':=tm') (w':=w') [⟨s,true,av⟩] (fun _=>bs) own.gh (.inl rfl) (by simp) (fun u hu=>by grind) htm (fun x hx=>htms x (by simpa using hx))
  (fun u hu=>by grind) (hk.mono fun b hb=>⟨_,zah.2 rfl,hb⟩)
  (fun u hu=>⟨fun b hb=>(hnb.1 b hb).elim .inl fun h1=>.inr ⟨_,zah.2 rfl,h1⟩,hnb.2⟩)
  (fun u hu u' hu' b _ _=>by grind)
  (fun X' x1 x2 x3 x4 x5 _ _ _ _ u hu=>by grind)
  (fun u hu m hm=>by grind) (fun u hu hh=>by grind)
 grind
theorem qK.heapT2 {F2:Nat→Prop}{tm':Array Value}(h:qK C σ tm w own) {us0:List U}(hu:qtk E us0) (ext:List U) (nbE:List Nat) (hext:ext=[]∧tm'=tm∨∃d av,ext=[⟨d,true,av⟩]∧d≠E.hs∧d∉us0.map (·.s)∧(av.mentions=[]∧av.isHeap=false)∧tm'.size=tm.size∧(∀s,s≠d→tm'.getD s undef=tm.getD s undef))
  {ps2:List qQ}{gh':Nat→Nat→Option Value}{nb:List Nat}(hgh:qaJ own.gh gh')
  (hd:∀u∈us0++(⟨E.hs,true,.heap ps2⟩::ext),u.s<σ.length) (hk:qaA (fun b=>b∈own E.hs∨∃u∈us0++ext,b∈own u.s) w w') (hks:(ps2.map (·.k)).Nodup) (hheap2:qL w' F2 gh' ps2 nb)
  (hF2:∀b,F2 b→b<w'.heap.size→C.free w own b∨((w.heap.size≤b∨b∈own E.hs∨∃u∈us0,b∈own u.s)∧b∉nb∧b∉nbE))
  (hF:∀b,C.free w own b→b<w'.heap.size∧w'.heap[b]? =w.heap[b]?)
  (hnb:nb.Nodup∧nbE.Nodup∧(∀b∈nb,b∉nbE)∧(∀b,b∈nb∨(ext≠[]∧b∈nbE)→(w.heap.size≤b∧b<w'.heap.size)∨b∈own E.hs∨∃u∈us0++ext,b∈own u.s))
  (hnp:qil C w own (tm.getD E.hs undef)) (hrep:∀u∈ext,∀X':Sit,X'.P=C.P→X'.pn=C.pn→X'.gh=gh'→X'.w=w'→(∀b,C.free w own b→X'.F b)→(∀b,F2 b→b<w'.heap.size→X'.F b)→qS X' u.a (tm'.getD u.s undef) nbE):
  ∃own',qK C (qh σ (us0++(⟨E.hs,true,.heap ps2⟩::ext))) tm' w' own':=by
 classical
 have hus0:∀u∈us0,u.a=.undef∧u.bump=true∧u.s≠E.hs:=fun u hm=>⟨(hu.1 u hm).1.1,(hu.1 u hm).1.2,(hu.1 u hm).2⟩;have hex:∀u∈ext,u.bump=true∧u.s≠E.hs∧u.s∉us0.map (·.s)∧(u.a.mentions=[]∧u.a.isHeap=false):=fun u hm=>by
  grind
 have hnd:((us0++(⟨E.hs,true,.heap ps2⟩::ext)).map (·.s)).Nodup:=by
  rw[List.map_append,zaC,zai];refine⟨?_,?_,?_⟩
  ·exact hu.2
  all_goals grind
 have htm:tm'.size=tm.size:=by
  grind
 have htms:∀s,s∉ext.map (·.s)→tm'.getD s undef=tm.getD s undef:=fun s hs=>by
  grind
 obtain⟨own',q1,_⟩:=h.multi (tm':=tm') (w':=w') (us0++(⟨E.hs,true,.heap ps2⟩::ext)) (fun x=>if x=E.hs then nb else if x∈ext.map (·.s)then nbE else[]) gh'
  (by
   by_cases e:gh'=own.gh
   ·exact .inl e
   ·refine .inr ⟨hgh,fun s hs=>?_⟩;cases hh:(qj σ s).2.isHeap with
    |false=>rfl
    |true=>
     refine absurd ?_ hs;rw[h.hat s hh,←Tabbed.hs (E:=E),List.map_append,zaC];simp) hnd hd htm
  (fun s hs=>htms s fun hm=>hs (by grind))
  (fun u hm=>by
   grind)
  (hk.mono fun b hb=>by
   rcases hb with hb|⟨u,hm,hb⟩
   ·exact⟨⟨E.hs,true,.heap ps2⟩,by simp,hb⟩
   grind)
  (fun u hm=>by
   have key:∀b,b∈nb∨(ext≠[]∧b∈nbE)→(w.heap.size≤b∧b<w'.heap.size)∨∃u0∈us0++(⟨E.hs,true,.heap ps2⟩::ext),b∈own u0.s:=fun b hb=>by
    rcases hnb.2.2.2 b hb with h1|h1|⟨u,hm,h1⟩
    ·exact .inl h1
    ·exact .inr ⟨⟨E.hs,true,.heap ps2⟩,by simp,h1⟩
    grind
   by_cases e:u.s=E.hs;all_goals grind)
  (fun u hm u' hm' b hb hb'=>by
   have one:∀x,x∈us0++(⟨E.hs,true,.heap ps2⟩::ext)→∀b,b∈(if x.s=E.hs then nb else if x.s∈ext.map (·.s)then nbE else[])→(x.s=E.hs∧b∈nb)∨(x.s≠E.hs∧x.s∈ext.map (·.s)∧b∈nbE):=fun x _ b hb=>by
    split at hb
    ·grind
    ·split at hb;all_goals grind
   have single:∀x y,x∈ext.map (·.s)→y∈ext.map (·.s)→x=y:=fun x y hx hy=>by
    rcases hext with⟨rfl,_⟩|⟨d,av,rfl,_⟩
    ·cases hx
    ·simp at hx hy;rw[hx,hy]
   rcases one u hm b hb with⟨h1,h2⟩|⟨h1,h2,h3⟩<;>rcases one u' hm' b hb' with⟨g1,g2⟩|⟨g1,g2,g3⟩;all_goals grind)
  (fun X' x1 x2 x3 x4 x5 x6 x6' x7 x8 u hm=>by
   have hX:∀b,F2 b→b<w'.heap.size→X'.F b:=fun b hb hl=>by
    rcases hF2 b hb hl with h1|⟨h1,h2,h3⟩
    ·exact x5 b h1
    ·have out:∀u∈us0++(⟨E.hs,true,.heap ps2⟩::ext),b∉(if u.s=E.hs then nb else if u.s∈ext.map (·.s)then nbE else[]):=fun u _ hu=>by
      grind
     rcases h1 with h1|h1|⟨u',hu',h1⟩
     ·exact x6' b h1 hl out
     ·exact x6 b ⟨⟨E.hs,true,.heap ps2⟩,by simp,h1⟩ out
     ·exact x6 b ⟨u',zab _ hu',h1⟩ out
   rcases zaf.1 hm with hm|hm
   ·rw[(hus0 u hm).1];trivial
   ·rcases zak.1 hm with rfl|hm
    ·simp only[if_true];have htm0:tm'.getD E.hs undef=tm.getD E.hs undef:=htms E.hs fun hm=>by
      grind
     refine⟨hks,?_,fun b=>?_,fun r hr=>?_⟩
     ·rw[x3,x4];exact qL.keep (fun b hb hl=>⟨hX b hb hl,hl,rfl⟩) rfl (fun _ _ _=>rfl) hheap2
     ·rw[htm0];exact hnp.1 b
     ·rw[htm0,x4];exact(hnp.2 r (x2▸hr)).keep (fun b hb _=>⟨x5 b hb,(hF b hb)⟩) (by grind)
    ·have e:=(hex u hm).2.1;simp only[if_neg e,if_pos (List.mem_map_of_mem (f:=(·.s)) hm)];exact hrep u hm X' x1 x2 x3 x4 x5 hX)
  (fun u hm m hmm=>by
   rcases zaf.1 hm with hm|hm
   ·rw[(hus0 u hm).1]at hmm;cases hmm
   ·rcases zak.1 hm with rfl|hm
    ·cases hmm
    grind)
  (fun u hm hh=>by
   rcases zaf.1 hm with hm|hm
   ·rw[(hus0 u hm).1]at hh;cases hh
   grind [Tabbed.hs])
 grind
theorem qK.heapT {tm':Array Value}(h:qK C σ tm w own) {us0:List U}(hu:qtk E us0) (ext:List U) (nbE:List Nat) (hext:ext=[]∧tm'=tm∨∃d av,ext=[⟨d,true,av⟩]∧d≠E.hs∧d∉us0.map (·.s)∧(av.mentions=[]∧av.isHeap=false)∧tm'.size=tm.size∧(∀s,s≠d→tm'.getD s undef=tm.getD s undef))
  {ps2:List qQ}{gh':Nat→Nat→Option Value}{nb:List Nat}(hgh:qaJ own.gh gh')
  (hd:∀u∈us0++(⟨E.hs,true,.heap ps2⟩::ext),u.s<σ.length) (hk:qaA (fun b=>b∈own E.hs∨∃u∈us0++ext,b∈own u.s) w w') (hks:(ps2.map (·.k)).Nodup) (hheap2:qL w' (C.free w own) gh' ps2 nb)
  (hF:∀b,C.free w own b→b<w'.heap.size∧w'.heap[b]? =w.heap[b]?)
  (hnb:nb.Nodup∧nbE.Nodup∧(∀b∈nb,b∉nbE)∧(∀b,b∈nb∨(ext≠[]∧b∈nbE)→(w.heap.size≤b∧b<w'.heap.size)∨b∈own E.hs∨∃u∈us0++ext,b∈own u.s))
  (hnp:qil C w own (tm.getD E.hs undef)) (hrep:∀u∈ext,∀X':Sit,X'.P=C.P→X'.pn=C.pn→X'.gh=gh'→X'.w=w'→(∀b,C.free w own b→X'.F b)→qS X' u.a (tm'.getD u.s undef) nbE):
  ∃own',qK C (qh σ (us0++(⟨E.hs,true,.heap ps2⟩::ext))) tm' w' own':=h.heapT2 hu ext nbE hext hgh hd hk hks hheap2 (fun b hb _=>.inl hb) hF hnb hnp fun u hm X' x1 x2 x3 x4 x5 _=>hrep u hm X' x1 x2 x3 x4 x5
end
end Go.Vi
namespace Go.Vi
open Go.RowKit
section
variable {C:Ctx}{E:Env}{σ:St}{tm:Array Value}{a:Act}{w w':World}{own:Own}{o:Oper}{p:qdU} [Tabbed E C]
theorem qn9 (hpn:∀k∈E.pins,∃b,C.pn k=some b) (h:qK C σ a.tmps w own) (hp:qa5 (sit C σ a.tmps w own) p) {x:Operand}{as:Bool}(hop:o.op=if as then .assign x else .move x) {f:Eff}
  (he:(qdR E p o).run (qj σ)=some f) (hd:∀u∈f.upd,u.s<σ.length) (hc:qb9 f.chk):qb5 C o a w (qh σ f.upd):=by
 have hx:(execOp a.eval o).run C.P w=.ok (.value (a.eval x)) w:=by
  unfold execOp;cases as<;>simp only[if_true,if_false,Bool.false_eq_true]at hop<;>rw[hop]<;>rfl
 unfold qdR at he;cases as<;>simp only[if_true,if_false,Bool.false_eq_true]at hop<;>rw[hop]at he
 ·obtain⟨x1,h1,he⟩:=Q.ya he;exact qqe h (qF h hp h1) (qqi h h1) (qoP h1) hp.1 hpn he hd hx
 ·obtain⟨x1,h1,he⟩:=Q.ya he;exact qqe h (qF h hp h1) (qqi h h1) (qoP h1) hp.1 hpn he hd hx
theorem qsE (hE:qad E C.P) (h:qK C σ a.tmps w own) (hp:qa5 (sit C σ a.tmps w own) p) {t:Nat}{x:Operand}(hop:o.op=.load t x) {f:Eff}
  (he:(qdR E p o).run (qj σ)=some f) (hd:∀u∈f.upd,u.s<σ.length) (hc:qb9 f.chk):qb5 C o a w (qh σ f.upd):=by
 unfold qdR at he;rw[hop]at he;obtain⟨x1,h1,he⟩:=Q.ya he;refine qtC hE h hp.1 (qF h hp h1) he hd ?_;simp_all [execOp]
theorem qrp (hE:qad E C.P) (h:qK C σ a.tmps w own) (hp:qa5 (sit C σ a.tmps w own) p) {t:Nat}{x y:Operand}(hop:o.op=.store t x y) {f:Eff}
  (he:(qdR E p o).run (qj σ)=some f) (hd:∀u∈f.upd,u.s<σ.length) (hc:qb9 f.chk):qb5 C o a w (qh σ f.upd):=by
 unfold qdR at he;rw[hop]at he;simp only at he;split at he
 ·cases he
 rename_i hdst;obtain⟨x1,h1,he⟩:=Q.ya he;obtain⟨y1,h2,he⟩:=Q.ya he;refine qr9 hE h hp.1 (qF h hp h1) (qF h hp h2) (by simp_all) he hd ?_;simp_all [execOp]
theorem qqQ (hE:qad E C.P) (h:qK C σ a.tmps w own) (hp:qa5 (sit C σ a.tmps w own) p) {t:Nat}(hop:o.op=.alloc t) {f:Eff}
  (he:(qdR E p o).run (qj σ)=some f) (hd:∀u∈f.upd,u.s<σ.length) (hc:qb9 f.chk):qb5 C o a w (qh σ f.upd):=by
 unfold qdR at he;rw[hop]at he;simp only at he;split at he
 ·rename_i c hz;have:=qE he;subst this;obtain⟨i,z,k1,k2,k3⟩:=hE.zero t c hz;refine qr8 hE h hz hd k1 k2 ?_;simp_all [execOp,Instr.alloc,zeroValue,typeInfo,newVar,newRow,ptr]
 ·cases he
theorem qui (hE:qad E C.P) (h:qK C σ a.tmps w own) (hp:qa5 (sit C σ a.tmps w own) p) {t:Nat}{x:Operand}(hop:o.op=.box t x) {f:Eff}
  (he:(qdR E p o).run (qj σ)=some f) (hd:∀u∈f.upd,u.s<σ.length) (hc:qb9 f.chk):qb5 C o a w (qh σ f.upd):=by
 unfold qdR at he;rw[hop]at he;obtain⟨x1,h1,he⟩:=Q.ya he;refine qrI h (qF h hp h1) he hd ?_;simp_all [execOp,Instr.box,newVar,newRow,ptr]
theorem qmU (h:qK C σ a.tmps w own) (hp:qa5 (sit C σ a.tmps w own) p) {x:Operand}(hop:o.op=.nilCheck x) {f:Eff}
  (he:(qdR E p o).run (qj σ)=some f) (hd:∀u∈f.upd,u.s<σ.length) (hc:qb9 f.chk):qb5 C o a w (qh σ f.upd):=by
 unfold qdR at he;rw[hop]at he;obtain⟨x1,h1,he⟩:=Q.ya he;have ho:=qF h hp h1;have hr:∀ad,a.eval x=.pointer (some ad)→(execOp a.eval o).run C.P w=.ok (.value (a.eval x)) w:=fun ad e=>by
  simp_all [execOp]
 have hw:=qqi h h1;split at he
 ·rename_i s v off hb;rw[Q.yc]at he;split at he
  ·rename_i hv;have:=qE he;subst this;obtain⟨b,g1,g2,g3⟩:=qeU h hp.1 ho hb hv;obtain⟨q1,q2⟩:=qng h hv g1 g2 g3;exact qt (hr _ g2) (h.dst0 hd q1 q2 (by grind [qfG]))
  ·cases he
 ·split at he
  ·rename_i s v fo sz i b hxa;rw[Q.yc]at he;split at he
   ·rename_i hv;have:=qE he;subst this;have hp:=ho.unowned (by rw[hxa];rfl);rw[hxa]at hp hw;obtain⟨g,k,cap,k1,k2,k3,k4⟩:=hp.2 hv;exact qt (hr _ k4) (h.dst0 hd ⟨rfl,fun _=>⟨g,k,cap,k1,k2,k3,k4⟩⟩ hw)
   ·cases he
  ·rename_i t y b hxa;have:=qE he;subst this;have hp:=ho.unowned (by rw[hxa];rfl);rw[hxa]at hp;obtain⟨k0,ad,cs,k1,k2⟩:=hp;exact qt (hr _ k1) (h.dst0 hd ⟨rfl,ad,cs,k1,k2⟩ (fun m hm=>by cases hm))
  ·rename_i e y hxa;have:=Q.yb he;subst this;have hsome:=hc _ (zah.2 rfl);rw[qaI]at hsome;obtain⟨y',rfl⟩:=zaE.1 hsome;have hv:=ho.unowned (by rw[hxa];rfl);rw[hxa]at hv;rcases q9.opt hv.2 with⟨k1,_⟩|⟨y2,ad,cs,k1,k2,k3,k4,k5,k6⟩
   ·cases k1
   ·injection k1 with k1;subst k1;refine qt (hr _ k2) (h.dst0 hd ⟨rfl,ad,cs,?_,k3,k4,k5,?_⟩ (fun m hm=>by cases hm));all_goals grind [qbh,Addr.add]
  ·cases he
theorem qsJ (h:qK C σ a.tmps w own) (hp:qa5 (sit C σ a.tmps w own) p) {c x y:Operand}(hop:o.op=.pick c x y) {f:Eff}
  (he:(qdR E p o).run (qj σ)=some f) (hd:∀u∈f.upd,u.s<σ.length) (hc:qb9 f.chk):qb5 C o a w (qh σ f.upd):=by
 unfold qdR at he;rw[hop]at he;obtain⟨c1,h1,he⟩:=Q.ya he;obtain⟨cr,h2,he⟩:=Q.ya he;have rc:=qdq h (qF h hp h1) h2;split at he;case h_2=>cases he
 rename_i bc _;have ec:=q9.bool rc;obtain⟨x1,h3,he⟩:=Q.ya he;obtain⟨xr,h4,he⟩:=Q.ya he;obtain⟨y1,h5,he⟩:=Q.ya he;obtain⟨yr,h6,he⟩:=Q.ya he;split at he;case h_2=>cases he
 rename_i z hz;split at he;case isFalse=>cases he
 rename_i hemp;simp only[zad,List.isEmpty_iff]at hemp;have:=qE he;subst this;have path:∀(wb:Bool),bc=wb→qa5 (sit C σ a.tmps w own) (qpa c c1.v wb bc p):=by
  intro wb hwb;cases c with
  |tmp t=>
   refine⟨hp.1,fun q hq=>?_⟩;rcases zak.1 hq with rfl|hq
   ·have h1:(⟨some t,(qj σ t).1,qav p (qj σ t).2⟩:Op1)=c1:=Option.some.inj h1;refine⟨by rw[←h1];rfl,?_,hwb⟩;rw[←hwb];exact ec
   ·exact hp.2 q hq
  |_=>exact hp
 have hr:(execOp a.eval o).run C.P w=.ok (.value (if bc then a.eval x else a.eval y)) w:=by
  simp_all [execOp,asBool]
 refine qaH h hr hd ?_;cases hb:bc with
 |true=>
  have:=qdq h (qF h (path true hb) h3) h4;rw[hemp.1]at this;exact this.mono fun b hb _=>qld hb
 |false=>
  have:=qdq h (qF h (path false hb) h5) h6;rw[hemp.2]at this;exact(q9.as hz this).mono fun b hb _=>qld hb
theorem qfn {l:List Value}{n i s:Nat}(h:i<n):((l.take (n*s)).drop (i*s)).take s=(l.drop (i*s)).take s:=by
 rw[List.drop_take,List.take_take];congr 1;have:(i+1)*s≤n*s:=zam _ h;grind
theorem qK.newOwn (h:qK C σ a.tmps w own) {et:Nat}{e:Ty}{xs:List e.den}{cur:Array Value}{n cap:Nat}(hlen:xs.length=n) (hnc:n≤cap) (hcm:cap≤maxLen) (hsz:cur.size=cap*e.size)
  (hx:∀i x,xs[i]? =some x→Rep w (C.free w own) e x ((cur.toList.drop (i*e.size)).take e.size))
  (hr:(execOp a.eval o).run C.P w=.ok (.value (.slice (some ⟨w.heap.size,0,none⟩) n cap)) (w.alloc (.cells cur et))) (hd:∀u∈qaL o (.own et e xs),u.s<σ.length):qb5 C o a w (qh σ (qaL o (.own et e xs))):=by
 refine qt hr (h.dst (bs:=[w.heap.size]) (qaA.alloc _ _ _) hd (fun b hb=>?_) (by simp) ?_ (fun m hm=>by cases hm))
 ·simp_all
 ·refine⟨cur.toList.take (n*e.size),⟨?_,.inr ⟨w.heap.size,cap,cur,by rw[hlen],zaD _,heap_alloc_new w _,by omega,hcm,hsz,by rw[hlen]⟩⟩,rfl,fun i x hi=>?_⟩
  ·simp_all
  ·have hlt:i<n:=by
    grind
   rw[qfn hlt];refine(hx i x hi).keep fun b hb hlt=>⟨⟨.inl hb,by simp;omega,by simp;omega⟩,by simp;omega,qef w _ _ hlt⟩
theorem qe6 (z:Array Value) (n i:Nat) (hi:i<n) (hz:0<z.size):(madeCells z n).toList[i]? =z.toList[i%z.size]? :=by
 grind [Nat.mod_lt,madeCells]
theorem qfo (z:Array Value) (n i:Nat) (hi:i<n):((madeCells z (n*z.size)).toList.drop (i*z.size)).take z.size=z.toList:=by
 have hle:(i+1)*z.size≤n*z.size:=zam _ hi;rw[zaS,Nat.one_mul]at hle;apply List.ext_getElem?;grind [qe6,Nat.mul_comm,Nat.mul_add_mod,Nat.mod_eq_of_lt]
theorem qlH (z:Array Value) (n m i:Nat) (hi:i<n):((Builtin.zeroCells z n++Builtin.zeroCells z m).toList.drop (i*z.size)).take z.size=z.toList:=by
 have hle:(i+1)*z.size≤n*z.size:=zam _ hi;rw[zaS,Nat.one_mul]at hle;have hs:(Builtin.zeroCells z n).toList.length=n*z.size:=by simp[Builtin.zeroCells]
 rw[Array.toList_append,List.drop_append,List.take_append,zal,hs];rw[show z.size-(n*z.size-i*z.size)=0 by omega,List.take_zero,zaO];exact qfo z n i hi
theorem qlU (hE:qad E C.P) (h:qK C σ a.tmps w own) (hp:qa5 (sit C σ a.tmps w own) p) {t:Nat}{x y:Operand}(hop:o.op=.makeSlice t x y) {f:Eff}
  (he:(qdR E p o).run (qj σ)=some f) (hd:∀u∈f.upd,u.s<σ.length) (hc:qb9 f.chk):qb5 C o a w (qh σ f.upd):=by
 unfold qdR at he;rw[hop]at he;obtain⟨x1,h1,he⟩:=Q.ya he;obtain⟨y1,h2,he⟩:=Q.ya he;obtain⟨n,h3,he⟩:=Q.ya he;obtain⟨m,h4,he⟩:=Q.ya he;obtain⟨e1,g1⟩:=qcH h (qF h hp h1) h3;obtain⟨e2,g2⟩:=qcH h (qF h hp h2) h4;split at he;case h_2=>cases he
 rename_i e hty;split at he;case isFalse=>cases he
 rename_i hby;have:=Q.yb he;subst this;obtain⟨i,z,k1,k2,k3,k4,k5,k6,k7⟩:=hE.elem' hty;have c1:0≤n.2:=by have:=hc (leI 0 n.2) (by simp);grind [qdZ]
 have c2:n.2≤m.2:=by have:=hc (leI n.2 m.2) (by simp);grind [qdZ]
 have c3:m.2*(E.bytes (E.etid t):Int)≤140737488355328:=by
  have:=hc (room m.2 (E.bytes (E.etid t))) (by simp);grind [qqd]
 have c5:m.2≤140737488355328:=by
  have h1:(1:Int)≤(E.bytes (E.etid t):Int):=by omega
  have h2:m.2*1≤m.2*(E.bytes (E.etid t):Int):=Int.mul_le_mul_of_nonneg_left h1 (by omega);omega
 have c4:m.2≤9223372036854775807:=by omega
 have hrun:=run_make (P:=C.P) w t (E.etid t) i z k1 k2 k4 n.1 m.1 n.2 m.2 c1 c2 (by grind) c4;refine h.newOwn (n:=n.2.toNat) (cap:=m.2.toNat) (cur:=madeCells z.cells (m.2.toNat*i.size)) (by simp[qka]) (by omega) (by grind [maxLen]) (by rw[size_madeCells,k3]) ?_ ?_ hd
 ·grind [qka,qfo]
 simp_all [execOp]
end
end Go.Vi
