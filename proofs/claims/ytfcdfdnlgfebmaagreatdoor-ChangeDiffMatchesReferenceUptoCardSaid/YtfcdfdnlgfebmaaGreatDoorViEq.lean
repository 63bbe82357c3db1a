/- The abstract interpreter: equality of structs. -/
import Derived.Test.YtfcdfdnlgfebmaaGreatDoorViRun
import Derived.Laws.StructEq
set_option linter.unusedVariables false
set_option linter.unusedSimpArgs false
set_option linter.unnecessarySimpa false
set_option linter.unusedSectionVars false
namespace Go.Vi
open Go.RowKit
def tyB (P:Program) (u:Ty) (t:Nat):Bool:=(match P.info? t with
 |some i=>decide (i.size=u.size)
 |none=>false)&&(match P.underlying t with
 |some d=>decide ((match d with| .struct _=>true| .array _ _=>true|_=>false)=u.agg)
 |none=>false)
theorem quF {P:Program} {u:Ty} {t:Nat} (h:tyB P u t=true):TyB P t u:=by
 unfold tyB at h
 simp only [Bool.and_eq_true] at h
 obtain ⟨h1,h2⟩:=h
 split at h1
 ·rename_i i hi
  split at h2
  ·rename_i d hd
   exact ⟨⟨i,hi,of_decide_eq_true h1⟩,d,hd,of_decide_eq_true h2⟩
  ·cases h2
 ·cases h1
theorem TyB.part_ok {P:Program} {w:World} {t:Nat} {u:Ty} (h:TyB P t u) {cs:List Value} {off:Nat} (hl:off+u.size≤cs.length):(part t cs.toArray off).run P w= .ok (mkV u ((cs.drop off).take u.size)) w:=by
 simp only [part,Sem.run_bind,h.run_isAgg,Result.andThen_ok]
 cases hu:u.agg with
 |true=>
  simp only [if_true,Sem.run_bind,h.run_sizeOf,Result.andThen_ok,Sem.run_pure,mkV,hu]
  congr 2
  apply Array.ext'
  simp [List.extract_eq_take_drop]
 |false=>
  have hs:u.size=1:=by cases u <;> simp [Ty.agg] at hu <;> rfl
  have hlt:off<cs.length:=by omega
  simp only [Bool.false_eq_true,if_false,mkV,hu,hs]
  rw [show cs.toArray[off]? =some cs[off] from by simp [hlt],List.drop_eq_getElem_cons hlt]
  simp only [Sem.run_pure]
  rfl
def quv (P:Program) (a:Nat→Bool) (ta:Ty) (b:List Field→Nat→Bool):List Field→Nat→Bool
 |f::r,off=>decide (f.offset=off)&&(decide (f.name≠ "_")&&(tyB P ta f.type&&(a f.type&&b r (off+ta.size))))
 |[],_=>false
def qiE (P:Program):Ty→(Nat→Bool)×(List Field→Nat→Bool)
 | .int k=>(fun t=>match P.underlying t with
  |some (.int k')=>decide (k'=k)
  |_=>false,fun _ _=>false)
 | .bool=>(fun t=>match P.underlying t with
  |some .bool=>true
  |_=>false,fun _ _=>false)
 | .str=>(fun t=>match P.underlying t with
  |some .string=>true
  |_=>false,fun _ _=>false)
 | .err=>(fun _=>false,fun _ _=>false)
 | .opt _=>(fun _=>false,fun _ _=>false)
 | .map _ _=>(fun _=>false,fun _ _=>false)
 | .unit=>(fun t=>match P.underlying t with
  |some (.struct fs)=>fs.toList.isEmpty&& !(P.stoodInHeld t)
  |_=>false,fun fs _=>fs.isEmpty)
 | .pair a b=>(fun t=>match P.underlying t with
  |some (.struct fs)=>quv P (qiE P a).1 a (qiE P b).2 fs.toList 0&& !(P.stoodInHeld t)
  |_=>false,quv P (qiE P a).1 a (qiE P b).2)
 | .slice _=>(fun _=>false,fun _ _=>false)
 | .arr _ _=>(fun _=>false,fun _ _=>false)
def Ty.height:Ty→Nat
 | .pair a b=>a.height+b.height+1
 |_=>1
theorem quq (a b:Ty) (x y:(Ty.pair a b).den):(Ty.pair a b).eqb x y=(a.eqb x.1 y.1&&b.eqb x.2 y.2):=by
 cases b <;> simp [Ty.eqb]
theorem ql2 {P:Program} {t:Nat} {fs:Array Field} (h:P.underlying t=some (.struct fs)):P.fieldsOf t=fs:=by simp [Program.fieldsOf,h]
theorem qnP {P:Program} {w:World} {F F':Nat→Prop} :(u:Ty)→
  (∀(d t:Nat) (x y:u.den) (cs ds:List Value),u.height<d→(qiE P u).1 t=true→Rep w F u x cs→Rep w F' u y ds→(Op.equalIn d t (mkV u cs) (mkV u ds)).run P w= .ok (u.eqb x y) w)∧
  (∀(d:Nat) (fs:List Field) (off:Nat) (x y:u.den) (cs ds:List Value),u.height≤d→(qiE P u).2 fs off=true→cs.length=off+u.size→ds.length=off+u.size→Rep w F u x (cs.drop off)→Rep w F' u y (ds.drop off)→(Op.eqFields d cs.toArray ds.toArray fs).run P w= .ok (u.eqb x y) w)
 | .int k=>by
  refine ⟨fun d t x y cs ds hd h h1 h2=> ?_,fun d fs off x y cs ds _ h=>by cases h⟩
  simp only [qiE] at h
  split at h
  ·rename_i k' hu
   obtain ⟨rfl,_⟩:=h1
   obtain ⟨rfl,_⟩:=h2
   cases d with
   |zero=>omega
   |succ d=>
    rw [show (Ty.int k).eqb x y=(x == y) from qn0 x y]
    exact run_equalIn_int w d t k k' x y hu
  ·cases h
 | .bool=>by
  refine ⟨fun d t x y cs ds hd h h1 h2=> ?_,fun d fs off x y cs ds _ h=>by cases h⟩
  simp only [qiE] at h
  split at h
  ·rename_i hu
   have h1:cs=_:=h1
   have h2:ds=_:=h2
   subst h1; subst h2
   cases d with
   |zero=>omega
   |succ d=>
    rw [show Ty.bool.eqb x y=(x == y) from qnp x y]
    exact run_equalIn_bool' w d t x y hu
  ·cases h
 | .err=>⟨fun d t x y cs ds hd h h1 h2=>(by cases h),fun d fs off x y cs ds _ h=>by cases h⟩
 | .opt _=>⟨fun d t x y cs ds hd h h1 h2=>(by cases h),fun d fs off x y cs ds _ h=>by cases h⟩
 | .map _ _=>⟨fun d t x y cs ds hd h h1 h2=>(by cases h),fun d fs off x y cs ds _ h=>by cases h⟩
 | .str=>by
  refine ⟨fun d t x y cs ds hd h h1 h2=> ?_,fun d fs off x y cs ds _ h=>by cases h⟩
  simp only [qiE] at h
  split at h
  ·rename_i hu
   obtain ⟨rfl,_⟩:=h1
   obtain ⟨rfl,_⟩:=h2
   cases d with
   |zero=>omega
   |succ d=>
    have:=run_equalIn_string w d t ⟨x.toArray⟩ ⟨y.toArray⟩ hu
    rw [ByteArray.toList_eq,ByteArray.toList_eq] at this
    rw [show Ty.str.eqb x y=(x == y) from qpP x y]
    exact this
  ·cases h
 | .unit=>by
  refine ⟨fun d t x y cs ds hd h h1 h2=> ?_,fun d fs off x y cs ds _ h _ _ _ _=> ?_⟩
  ·simp only [qiE] at h
   split at h
   ·rename_i fs hu
    simp only [Bool.and_eq_true,Bool.not_eq_true'] at h
    cases d with
    |zero=>omega
    |succ d=>
     have hf:=ql2 hu
     show (Op.equalIn (d+1) t (.agg cs.toArray) (.agg ds.toArray)).run P w=_
     rw [run_equalIn_struct w d t _ _ (by rw [hf]; exact hu) h.2,hf]
     have:fs.toList=[]:=by simpa using h.1
     rw [this]
     rfl
   ·cases h
  ·have:fs=[]:=by simpa [qiE] using h
   subst this
   rfl
 | .pair a b=>by
  obtain ⟨ha,_⟩:=qnP (P:=P) (w:=w) (F:=F) (F':=F') a
  obtain ⟨_,hb⟩:=qnP (P:=P) (w:=w) (F:=F) (F':=F') b
  have fld:∀(d:Nat) (fs:List Field) (off:Nat) (x y:(Ty.pair a b).den) (cs ds:List Value),(Ty.pair a b).height≤d→quv P (qiE P a).1 a (qiE P b).2 fs off=true→cs.length=off+(a.size+b.size)→ds.length=off+(a.size+b.size)→Rep w F (.pair a b) x (cs.drop off)→Rep w F' (.pair a b) y (ds.drop off)→(Op.eqFields d cs.toArray ds.toArray fs).run P w= .ok ((Ty.pair a b).eqb x y) w:=by
   intro d fs off x y cs ds hd h hcl hdl h1 h2
   cases fs with
   |nil=>cases h
   |cons f r=>
    simp only [quv,Bool.and_eq_true,decide_eq_true_eq] at h
    obtain ⟨g1,g2,g3,g4,g5⟩:=h
    obtain ⟨c1,c2,e1,r1,r2⟩:=h1
    obtain ⟨d1,d2,e2,q1,q2⟩:=h2
    have hl1:=r1.length
    have hl2:=q1.length
    have hh:a.height+b.height+1≤d:=hd
    have t1:(cs.drop off).take a.size=c1:=by rw [e1,List.take_left' hl1]
    have t2:(ds.drop off).take a.size=d1:=by rw [e2,List.take_left' hl2]
    have t3:cs.drop (off+a.size)=c2:=by rw [←List.drop_drop,e1,List.drop_left' hl1]
    have t4:ds.drop (off+a.size)=d2:=by rw [←List.drop_drop,e2,List.drop_left' hl2]
    have p1:=(quF g3).part_ok (w:=w) (cs:=cs) (off:=off) (by omega)
    have p2:=(quF g3).part_ok (w:=w) (cs:=ds) (off:=off) (by omega)
    rw [t1] at p1
    rw [t2] at p2
    have hea:=ha d f.type x.1 y.1 c1 d1 (by omega) g4 r1 q1
    have heb:=hb d r (off+a.size) x.2 y.2 cs ds (by omega) g5 (by omega) (by omega) (by rw [t3]; exact r2) (by rw [t4]; exact q2)
    rw [quq]
    simp only [Op.eqFields,g1,if_pos g2,Sem.run_bind,p1,p2,hea,Result.andThen_ok,Sem.run_ite]
    cases hx:a.eqb x.1 y.1 with
    |true=>simpa using heb
    |false=>simp
  refine ⟨fun d t x y cs ds hd h h1 h2=> ?_,fld⟩
  simp only [qiE] at h
  split at h
  ·rename_i fs hu
   simp only [Bool.and_eq_true,Bool.not_eq_true'] at h
   cases d with
   |zero=>omega
   |succ d=>
    have hf:=ql2 hu
    show (Op.equalIn (d+1) t (.agg cs.toArray) (.agg ds.toArray)).run P w=_
    rw [run_equalIn_struct w d t _ _ (by rw [hf]; exact hu) h.2,hf]
    have l1:=h1.length
    have l2:=h2.length
    exact fld d fs.toList 0 x y cs ds (by omega) h.1 (by rw [l1]; simp [Ty.size]) (by rw [l2]; simp [Ty.size]) h1 h2
  ·cases h
 | .slice _=>⟨fun _ _ _ _ _ _ _ h=>(by cases h),fun _ _ _ _ _ _ _ _ h=>(by cases h)⟩
 | .arr _ _=>⟨fun _ _ _ _ _ _ _ h=>(by cases h),fun _ _ _ _ _ _ _ _ h=>(by cases h)⟩
structure EqB (P:Program) (t:Nat) (u:Ty):Prop where
 run:∀(w:World) (F F':Nat→Prop) (x y:u.den) (cs ds:List Value),Rep w F u x cs→Rep w F' u y ds→(Op.equalIn 10000 t (mkV u cs) (mkV u ds)).run P w= .ok (u.eqb x y) w
 guard:P.eqGuardType P.depth t=false
def qvo (P:Program) (u:Ty) (t:Nat):Bool:=(qiE P u).1 t&&(decide (u.height<10000)&& !(P.eqGuardType P.depth t))
theorem quj {P:Program} {u:Ty} {t:Nat} (h:qvo P u t=true):EqB P t u:=by
 simp only [qvo,Bool.and_eq_true,decide_eq_true_eq,Bool.not_eq_true'] at h
 exact ⟨fun w F F' x y cs ds h1 h2=>(qnP u).1 10000 t x y cs ds h.2.1 h.1 h1 h2,h.2.2⟩
end Go.Vi
