import Derived.Test.YtaoakfbopejfeaaViXA
import Derived.Laws.StructEq
import Derived.Laws.Strings
import Derived.Laws.Concat
import Derived.Laws.Small
import Derived.Laws.Unary
import Derived.Laws.Slices
import Derived.Laws.Strings2
import Derived.Laws.Strings3
import Derived.Laws.BytesArg
import Derived.Lib.ConvBytes
set_option linter.unusedVariables false
set_option linter.unusedSimpArgs false
set_option linter.unnecessarySimpa false
set_option linter.unusedSectionVars false
namespace Go.Vi
open Go.RowKit
def tyB (P:Program) (u:Ty) (t:Nat):Bool:=(match P.info? t with
 |some i=>decide (i.size=u.size)
 |none=>false)&&(match P.underlying t with
 |some d=>decide ((match d with| .struct _=>true| .array _ _=>true|_=>false)=u.agg)
 |none=>false)
theorem qnU {P:Program} {u:Ty} {t:Nat} (h:tyB P u t=true):TyB P t u:=by
 unfold tyB at h
 simp only [Bool.and_eq_true] at h
 obtain ⟨h1,h2⟩:=h
 split at h1
 ·rename_i i hi
  split at h2
  ·rename_i d hd
   exact ⟨⟨i,hi,of_decide_eq_true h1⟩,d,hd,of_decide_eq_true h2⟩
  ·cases h2
 ·cases h1
theorem TyB.part_ok {P:Program} {w:World} {t:Nat} {u:Ty} (h:TyB P t u) {cs:List Value} {off:Nat} (hl:off+u.size≤cs.length):(part t cs.toArray off).run P w= .ok (mkV u ((cs.drop off).take u.size)) w:=by
 simp only [part,Sem.run_bind,h.run_isAgg,Result.andThen_ok]
 cases hu:u.agg with
 |true=>
  simp only [if_true,Sem.run_bind,h.run_sizeOf,Result.andThen_ok,Sem.run_pure,mkV,hu]
  congr 2
  apply Array.ext'
  simp [List.extract_eq_take_drop]
 |false=>
  have hs:u.size=1:=by cases u <;> simp [Ty.agg] at hu <;> rfl
  have hlt:off<cs.length:=by omega
  simp only [Bool.false_eq_true,if_false,mkV,hu,hs]
  rw [show cs.toArray[off]? =some cs[off] from by simp [hlt],List.drop_eq_getElem_cons hlt]
  simp only [Sem.run_pure]
  rfl
def qnh (P:Program) (a:Nat→Bool) (ta:Ty) (b:List Field→Nat→Bool):List Field→Nat→Bool
 |f::r,off=>decide (f.offset=off)&&(decide (f.name≠ "_")&&(tyB P ta f.type&&(a f.type&&b r (off+ta.size))))
 |[],_=>false
def qfa (P:Program):Ty→(Nat→Bool)×(List Field→Nat→Bool)
 | .int k=>(fun t=>match P.underlying t with
  |some (.int k')=>decide (k'=k)
  |_=>false,fun _ _=>false)
 | .bool=>(fun t=>match P.underlying t with
  |some .bool=>true
  |_=>false,fun _ _=>false)
 | .str=>(fun t=>match P.underlying t with
  |some .string=>true
  |_=>false,fun _ _=>false)
 | .err=>(fun _=>false,fun _ _=>false)
 | .opt _=>(fun _=>false,fun _ _=>false)
 | .map _ _=>(fun _=>false,fun _ _=>false)
 | .unit=>(fun t=>match P.underlying t with
  |some (.struct fs)=>fs.toList.isEmpty&& !(P.stoodInHeld t)
  |_=>false,fun fs _=>fs.isEmpty)
 | .pair a b=>(fun t=>match P.underlying t with
  |some (.struct fs)=>qnh P (qfa P a).1 a (qfa P b).2 fs.toList 0&& !(P.stoodInHeld t)
  |_=>false,qnh P (qfa P a).1 a (qfa P b).2)
 | .slice _=>(fun _=>false,fun _ _=>false)
 | .arr _ _=>(fun _=>false,fun _ _=>false)
def Ty.height:Ty→Nat
 | .pair a b=>a.height+b.height+1
 |_=>1
theorem qnF (a b:Ty) (x y:(Ty.pair a b).den):(Ty.pair a b).eqb x y=(a.eqb x.1 y.1&&b.eqb x.2 y.2):=by
 cases b <;> simp [Ty.eqb]
theorem qg2 {P:Program} {t:Nat} {fs:Array Field} (h:P.underlying t=some (.struct fs)):P.fieldsOf t=fs:=by simp [Program.fieldsOf,h]
theorem qi1 {P:Program} {w:World} {F F':Nat→Prop} :(u:Ty)→
  (∀(d t:Nat) (x y:u.den) (cs ds:List Value),u.height<d→(qfa P u).1 t=true→Rep w F u x cs→Rep w F' u y ds→(Op.equalIn d t (mkV u cs) (mkV u ds)).run P w= .ok (u.eqb x y) w)∧
  (∀(d:Nat) (fs:List Field) (off:Nat) (x y:u.den) (cs ds:List Value),u.height≤d→(qfa P u).2 fs off=true→cs.length=off+u.size→ds.length=off+u.size→Rep w F u x (cs.drop off)→Rep w F' u y (ds.drop off)→(Op.eqFields d cs.toArray ds.toArray fs).run P w= .ok (u.eqb x y) w)
 | .int k=>by
  refine ⟨fun d t x y cs ds hd h h1 h2=> ?_,fun d fs off x y cs ds _ h=>by cases h⟩
  simp only [qfa] at h
  split at h
  ·rename_i k' hu
   obtain ⟨rfl,_⟩:=h1
   obtain ⟨rfl,_⟩:=h2
   cases d with
   |zero=>omega
   |succ d=>
    rw [show (Ty.int k).eqb x y=(x == y) from qeb x y]
    exact run_equalIn_int w d t k k' x y hu
  ·cases h
 | .bool=>by
  refine ⟨fun d t x y cs ds hd h h1 h2=> ?_,fun d fs off x y cs ds _ h=>by cases h⟩
  simp only [qfa] at h
  split at h
  ·rename_i hu
   have h1:cs=_:=h1
   have h2:ds=_:=h2
   subst h1; subst h2
   cases d with
   |zero=>omega
   |succ d=>
    rw [show Ty.bool.eqb x y=(x == y) from qkp x y]
    exact run_equalIn_bool' w d t x y hu
  ·cases h
 | .err=>⟨fun d t x y cs ds hd h h1 h2=>(by cases h),fun d fs off x y cs ds _ h=>by cases h⟩
 | .opt _=>⟨fun d t x y cs ds hd h h1 h2=>(by cases h),fun d fs off x y cs ds _ h=>by cases h⟩
 | .map _ _=>⟨fun d t x y cs ds hd h h1 h2=>(by cases h),fun d fs off x y cs ds _ h=>by cases h⟩
 | .str=>by
  refine ⟨fun d t x y cs ds hd h h1 h2=> ?_,fun d fs off x y cs ds _ h=>by cases h⟩
  simp only [qfa] at h
  split at h
  ·rename_i hu
   obtain ⟨rfl,_⟩:=h1
   obtain ⟨rfl,_⟩:=h2
   cases d with
   |zero=>omega
   |succ d=>
    have:=run_equalIn_string w d t ⟨x.toArray⟩ ⟨y.toArray⟩ hu
    rw [ByteArray.toList_eq,ByteArray.toList_eq] at this
    rw [show Ty.str.eqb x y=(x == y) from qiN x y]
    exact this
  ·cases h
 | .unit=>by
  refine ⟨fun d t x y cs ds hd h h1 h2=> ?_,fun d fs off x y cs ds _ h _ _ _ _=> ?_⟩
  ·simp only [qfa] at h
   split at h
   ·rename_i fs hu
    simp only [Bool.and_eq_true,Bool.not_eq_true'] at h
    cases d with
    |zero=>omega
    |succ d=>
     have hf:=qg2 hu
     show (Op.equalIn (d+1) t (.agg cs.toArray) (.agg ds.toArray)).run P w=_
     rw [run_equalIn_struct w d t _ _ (by rw [hf]; exact hu) h.2,hf]
     have:fs.toList=[]:=by simpa using h.1
     rw [this]
     rfl
   ·cases h
  ·have:fs=[]:=by simpa [qfa] using h
   subst this
   rfl
 | .pair a b=>by
  obtain ⟨ha,_⟩:=qi1 (P:=P) (w:=w) (F:=F) (F':=F') a
  obtain ⟨_,hb⟩:=qi1 (P:=P) (w:=w) (F:=F) (F':=F') b
  have fld:∀(d:Nat) (fs:List Field) (off:Nat) (x y:(Ty.pair a b).den) (cs ds:List Value),(Ty.pair a b).height≤d→qnh P (qfa P a).1 a (qfa P b).2 fs off=true→cs.length=off+(a.size+b.size)→ds.length=off+(a.size+b.size)→Rep w F (.pair a b) x (cs.drop off)→Rep w F' (.pair a b) y (ds.drop off)→(Op.eqFields d cs.toArray ds.toArray fs).run P w= .ok ((Ty.pair a b).eqb x y) w:=by
   intro d fs off x y cs ds hd h hcl hdl h1 h2
   cases fs with
   |nil=>cases h
   |cons f r=>
    simp only [qnh,Bool.and_eq_true,decide_eq_true_eq] at h
    obtain ⟨g1,g2,g3,g4,g5⟩:=h
    obtain ⟨c1,c2,e1,r1,r2⟩:=h1
    obtain ⟨d1,d2,e2,q1,q2⟩:=h2
    have hl1:=r1.length
    have hl2:=q1.length
    have hh:a.height+b.height+1≤d:=hd
    have t1:(cs.drop off).take a.size=c1:=by rw [e1,List.take_left' hl1]
    have t2:(ds.drop off).take a.size=d1:=by rw [e2,List.take_left' hl2]
    have t3:cs.drop (off+a.size)=c2:=by rw [←List.drop_drop,e1,List.drop_left' hl1]
    have t4:ds.drop (off+a.size)=d2:=by rw [←List.drop_drop,e2,List.drop_left' hl2]
    have p1:=(qnU g3).part_ok (w:=w) (cs:=cs) (off:=off) (by omega)
    have p2:=(qnU g3).part_ok (w:=w) (cs:=ds) (off:=off) (by omega)
    rw [t1] at p1
    rw [t2] at p2
    have hea:=ha d f.type x.1 y.1 c1 d1 (by omega) g4 r1 q1
    have heb:=hb d r (off+a.size) x.2 y.2 cs ds (by omega) g5 (by omega) (by omega) (by rw [t3]; exact r2) (by rw [t4]; exact q2)
    rw [qnF]
    simp only [Op.eqFields,g1,if_pos g2,Sem.run_bind,p1,p2,hea,Result.andThen_ok,Sem.run_ite]
    cases hx:a.eqb x.1 y.1 with
    |true=>simpa using heb
    |false=>simp
  refine ⟨fun d t x y cs ds hd h h1 h2=> ?_,fld⟩
  simp only [qfa] at h
  split at h
  ·rename_i fs hu
   simp only [Bool.and_eq_true,Bool.not_eq_true'] at h
   cases d with
   |zero=>omega
   |succ d=>
    have hf:=qg2 hu
    show (Op.equalIn (d+1) t (.agg cs.toArray) (.agg ds.toArray)).run P w=_
    rw [run_equalIn_struct w d t _ _ (by rw [hf]; exact hu) h.2,hf]
    have l1:=h1.length
    have l2:=h2.length
    exact fld d fs.toList 0 x y cs ds (by omega) h.1 (by rw [l1]; simp [Ty.size]) (by rw [l2]; simp [Ty.size]) h1 h2
  ·cases h
 | .slice _=>⟨fun _ _ _ _ _ _ _ h=>(by cases h),fun _ _ _ _ _ _ _ _ h=>(by cases h)⟩
 | .arr _ _=>⟨fun _ _ _ _ _ _ _ h=>(by cases h),fun _ _ _ _ _ _ _ _ h=>(by cases h)⟩
structure EqB (P:Program) (t:Nat) (u:Ty):Prop where
 run:∀(w:World) (F F':Nat→Prop) (x y:u.den) (cs ds:List Value),Rep w F u x cs→Rep w F' u y ds→(Op.equalIn 10000 t (mkV u cs) (mkV u ds)).run P w= .ok (u.eqb x y) w
 guard:P.eqGuardType P.depth t=false
def qox (P:Program) (u:Ty) (t:Nat):Bool:=(qfa P u).1 t&&(decide (u.height<10000)&& !(P.eqGuardType P.depth t))
theorem qnM {P:Program} {u:Ty} {t:Nat} (h:qox P u t=true):EqB P t u:=by
 simp only [qox,Bool.and_eq_true,decide_eq_true_eq,Bool.not_eq_true'] at h
 exact ⟨fun w F F' x y cs ds h1 h2=>(qi1 u).1 10000 t x y cs ds h.2.1 h.1 h1 h2,h.2.2⟩
end Go.Vi
namespace Go.Vi
open Go.RowKit
theorem qbn.length {w:World} {F:Nat→Prop} : {c:BC} → {cs:List Value} → {bs:List Nat} →qbn w F c cs bs→cs.length=c.size
 | .val _ _,_,_,h=>h.2.length
 | .own _ _ _,_,_,⟨v,h,_⟩=>by rw [h]; rfl
 | .pair _ _,_,_,⟨c1,c2,b1,b2,h1,h2,h3,h4⟩=>by rw [h1,List.length_append,h3.length,h4.length]; rfl
 | .hole _,_,_,h=>h.2
theorem qjM {o off:Nat} :qkc (o,o+1) off=decide (off=o):=by
 unfold qkc
 by_cases h:off=o
 ·subst h; simp
 ·rw [decide_eq_false h]
  by_cases h1:o≤off
  ·simp only [decide_eq_true h1,Bool.true_and]
   exact decide_eq_false (by omega)
  ·simp only [decide_eq_false h1,Bool.false_and]
theorem qdv (m:Msk) (k0:Nat×Nat):(t:Ty)→(x:t.den)→(off:Nat)→(bcM m k0 t x off).size=t.size
 | .pair a b,x,off=>by
  unfold bcM
  split
  ·show (bcM m k0 a x.1 off).size+(bcM m k0 b x.2 (off+a.size)).size=_
   rw [qdv m k0 a,qdv m k0 b]; rfl
  ·rfl
 | .slice e,xs,off=>by
  unfold bcM
  split
  ·split <;> rfl
  ·rfl
 | .int _,_,_=>rfl
 | .bool,_,_=>rfl
 | .str,_,_=>rfl
 | .unit,_,_=>rfl
 | .arr _ _,_,_=>rfl
 | .err,_,_=>rfl
 | .opt _,_,_=>rfl
 | .map _ _,_,_=>rfl
theorem Msk.at_none {m:Msk} {a b o:Nat} (h:m.hits a b=false) (h1:a≤o) (h2:o<b):m.at o=none:=by
 unfold Msk.hits at h
 rw [List.any_eq_false] at h
 unfold Msk.at
 rw [Option.map_eq_none_iff,List.find?_eq_none]
 intro p hp he
 have:=h p hp
 simp only [Bool.and_eq_true,decide_eq_true_eq,not_and,Nat.not_lt,beq_iff_eq] at *
 omega
theorem qiC {m:Msk} {k0:Nat×Nat} :(t:Ty)→(x:t.den)→(off:Nat)→m.hits off (off+t.size)=false→bcM m k0 t x off= .val t x
 | .pair a b,x,off,h=>by
  unfold bcM
  rw [if_neg (by rw [show off+(a.size+b.size)=off+(Ty.pair a b).size from rfl,h]; simp)]
 | .slice e,xs,off,h=>by
  unfold bcM
  rw [Msk.at_none h (Nat.le_refl _) (by simp [Ty.size])]
 | .int _,_,_,_=>rfl
 | .bool,_,_,_=>rfl
 | .str,_,_,_=>rfl
 | .unit,_,_,_=>rfl
 | .arr _ _,_,_,_=>rfl
 | .err,_,_,_=>rfl
 | .opt _,_,_,_=>rfl
 | .map _ _,_,_,_=>rfl
theorem qix {w:World} {F:Nat→Prop} {m:Msk} {k0:Nat×Nat} :(t:Ty)→ {x:t.den} → {o off:Nat} → {cs:List Value} → {bs:List Nat} → {u:Ty} → {y:u.den} →qbn w F (bcM m k0 t x o) cs bs→t.sub x off u=some y→
  m.hits (o+off) (o+off+u.size)=false→off+u.size≤cs.length∧Rep w F u y ((cs.drop off).take u.size)
 | .pair a b,x,o,off,cs,bs,u,y,h,hs,hm=>by
  unfold bcM at h
  split at h
  ·rename_i hh
   simp only [Ty.sub] at hs
   cases hz:Ty.whole (t:= .pair a b) u x off with
   |some z=>
    obtain ⟨rfl,hz'⟩:=Ty.whole_some hz
    obtain ⟨rfl,_⟩:=Ty.as_some hz'
    rw [show o+0+(Ty.pair a b).size=o+(a.size+b.size) from rfl,Nat.add_zero,hh] at hm
    cases hm
   |none=>
    rw [hz] at hs
    simp only at hs
    obtain ⟨c1,c2,b1,b2,rfl,rfl,h3,h4⟩:=h
    have hl:=h3.length
    rw [qdv] at hl
    split at hs
    ·obtain ⟨g1,g2⟩:=qix a h3 hs hm
     exact ⟨by rw [List.length_append]; omega,by rw [qaR g1]; exact g2⟩
    ·obtain ⟨g1,g2⟩:=qix b (off:=off - a.size) h4 hs (by rw [show o+a.size+(off - a.size)=o+off by omega]; exact hm)
     exact ⟨by rw [List.length_append]; omega,by rw [qaI (by omega),hl]; exact g2⟩
  ·exact h.2.sub hs
 | .slice e,xs,o,off,cs,bs,u,y,h,hs,hm=>by
  obtain ⟨rfl,hz'⟩:=Ty.whole_some (t:= .slice e) hs
  obtain ⟨rfl,rfl⟩:=Ty.as_some hz'
  rw [Nat.add_zero] at hm
  rw [qiC _ _ _ hm] at h
  exact h.2.sub (Ty.sub_self _ _)
 | .int _,_,_,_,_,_,_,_,h,hs,_=>h.2.sub hs
 | .bool,_,_,_,_,_,_,_,h,hs,_=>h.2.sub hs
 | .str,_,_,_,_,_,_,_,h,hs,_=>h.2.sub hs
 | .unit,_,_,_,_,_,_,_,h,hs,_=>h.2.sub hs
 | .arr _ _,_,_,_,_,_,_,_,h,hs,_=>h.2.sub hs
 | .err,_,_,_,_,_,_,_,h,hs,_=>h.2.sub hs
 | .opt _,_,_,_,_,_,_,_,h,hs,_=>h.2.sub hs
 | .map _ _,_,_,_,_,_,_,_,h,hs,_=>h.2.sub hs
theorem Msk.hits_at {m:Msk} {a b o et:Nat} (h:m.at o=some et) (h1:a≤o) (h2:o<b):m.hits a b=true:=by
 cases hh:m.hits a b with
 |true=>rfl
 |false=>rw [Msk.at_none hh h1 h2] at h; cases h
theorem Ty.sub_lt {e':Ty} {ys:List e'.den} :(t:Ty)→ {x:t.den} → {off:Nat} →t.sub x off (.slice e')=some ys→off<t.size
 | .pair a b,x,off,hs=>by
  simp only [Ty.sub] at hs
  cases hz:Ty.whole (t:= .pair a b) (.slice e') x off with
  |some z=>
   obtain ⟨_,hz'⟩:=Ty.whole_some hz
   obtain ⟨h0,_⟩:=Ty.as_some hz'
   cases h0
  |none=>
   rw [hz] at hs
   simp only at hs
   show off<a.size+b.size
   split at hs
   ·omega
   ·have:=Ty.sub_lt b hs
    omega
 | .slice e,xs,off,hs=>by obtain ⟨rfl,_⟩:=Ty.whole_some (t:= .slice e) hs; simp [Ty.size]
 | .arr n e,xs,off,hs=>by
  simp only [Ty.sub] at hs
  cases hz:Ty.whole (t:= .arr n e) (.slice e') xs off with
  |some z=>
   obtain ⟨_,hz'⟩:=Ty.whole_some hz
   obtain ⟨h0,_⟩:=Ty.as_some hz'
   cases h0
  |none=>
   rw [hz] at hs
   simp only at hs
   split at hs
   ·assumption
   ·cases hs
 | .int _,_,_,hs=>by obtain ⟨_,h⟩:=Ty.whole_some hs; obtain ⟨h,_⟩:=Ty.as_some h; cases h
 | .bool,_,_,hs=>by obtain ⟨_,h⟩:=Ty.whole_some (t:= .bool) hs; obtain ⟨h,_⟩:=Ty.as_some h; cases h
 | .str,_,_,hs=>by obtain ⟨_,h⟩:=Ty.whole_some (t:= .str) hs; obtain ⟨h,_⟩:=Ty.as_some h; cases h
 | .unit,_,_,hs=>by obtain ⟨_,h⟩:=Ty.whole_some (t:= .unit) hs; obtain ⟨h,_⟩:=Ty.as_some h; cases h
 | .err,_,_,hs=>by obtain ⟨_,h⟩:=Ty.whole_some (t:= .err) hs; obtain ⟨h,_⟩:=Ty.as_some h; cases h
 | .opt _,_,_,hs=>by obtain ⟨_,h⟩:=Ty.whole_some (t:= .opt _) hs; obtain ⟨h,_⟩:=Ty.as_some h; cases h
 | .map _ _,_,_,hs=>by obtain ⟨_,h⟩:=Ty.whole_some (t:= .map _ _) hs; obtain ⟨h,_⟩:=Ty.as_some h; cases h
theorem qme {lo hi off:Nat} (h:hi≤off∨off<lo):qkc (lo,hi) off=false:=by
 unfold qkc
 rcases h with h|h
 ·rw [decide_eq_false (p:=off<hi) (by omega),Bool.and_false]
 ·rw [decide_eq_false (p:=lo≤off) (by omega),Bool.false_and]
theorem qfP {m:Msk} {lo hi:Nat} :(t:Ty)→(x:t.den)→(off:Nat)→(hi≤off∨off+t.size≤lo)→bcM m (lo,hi) t x off=bcM m (0,0) t x off
 | .pair a b,x,off,h=>by
  have hz:(Ty.pair a b).size=a.size+b.size:=rfl
  unfold bcM
  rw [qfP a x.1 off (by omega),qfP b x.2 (off+a.size) (by omega)]
 | .slice e,xs,off,h=>by
  have hz:(Ty.slice e).size=1:=rfl
  unfold bcM
  rw [qme (by omega),qcq]
 | .int _,_,_,_=>rfl
 | .bool,_,_,_=>rfl
 | .str,_,_,_=>rfl
 | .unit,_,_,_=>rfl
 | .arr _ _,_,_,_=>rfl
 | .err,_,_,_=>rfl
 | .opt _,_,_,_=>rfl
 | .map _ _,_,_,_=>rfl
theorem qiK {w:World} {F:Nat→Prop} {m:Msk} {et:Nat} {e':Ty} {ys:List e'.den} :(t:Ty)→ {x:t.den} → {o off:Nat} → {cs:List Value} → {bs:List Nat} →t.noArr=true→qbn w F (bcM m (0,0) t x o) cs bs→
  t.sub x off (.slice e')=some ys→m.at (o+off)=some et→
  ∃v p b1 q,cs[off]? =some v∧bs=p++(b1++q)∧qJ w F et e' ys v b1∧qbn w F (bcM m (o+off,o+off+1) t x o) cs (p++q)
 | .pair a b,x,o,off,cs,bs,hn,h,hs,hm=>by
  obtain ⟨hna,hnb⟩:a.noArr=true∧b.noArr=true:=by simpa [Ty.noArr] using hn
  have hin:off<a.size+b.size:=Ty.sub_lt (.pair a b) hs
  have e:∀k0,bcM m k0 (.pair a b) x o= .pair (bcM m k0 a x.1 o) (bcM m k0 b x.2 (o+a.size)):=fun k0=>by
   conv=>lhs; unfold bcM
   rw [if_pos (Msk.hits_at hm (by omega) (by omega))]
  rw [e] at h⊢
  simp only [Ty.sub] at hs
  cases hz:Ty.whole (t:= .pair a b) (.slice e') x off with
  |some z=>
   obtain ⟨_,hz'⟩:=Ty.whole_some hz
   obtain ⟨h0,_⟩:=Ty.as_some hz'
   cases h0
  |none=>
   rw [hz] at hs
   simp only at hs
   obtain ⟨c1,c2,b1,b2,rfl,rfl,h3,h4⟩:=h
   have hl:=h3.length
   rw [qdv] at hl
   split at hs
   ·rename_i hlt
    obtain ⟨v,p,bb,q,g1,g2,g3,g4⟩:=qiK a hna h3 hs hm
    refine ⟨v,p,bb,q++b2,by rw [List.getElem?_append_left (by omega)]; exact g1,by rw [g2]; simp,g3,c1,c2,p++q,b2,rfl,by simp,g4,?_⟩
    rw [qfP b _ _ (by omega)]
    exact h4
   ·rename_i hlt
    have e2:o+a.size+(off - a.size)=o+off:=by omega
    obtain ⟨v,p,bb,q,g1,g2,g3,g4⟩:=qiK b (o:=o+a.size) hnb h4 hs (by rw [e2]; exact hm)
    rw [e2] at g4
    refine ⟨v,b1++p,bb,q,by rw [List.getElem?_append_right (by omega),hl]; exact g1,by rw [g2]; simp,g3,c1,c2,b1,p++q,rfl,by simp,?_,g4⟩
    rw [qfP a _ _ (by omega)]
    exact h3
 | .slice e,xs,o,off,cs,bs,_,h,hs,hm=>by
  obtain ⟨rfl,hz'⟩:=Ty.whole_some (t:= .slice e) hs
  obtain ⟨he,hz'⟩:=Ty.as_some hz'
  injection he with he
  subst he
  subst hz'
  rw [Nat.add_zero] at hm⊢
  unfold bcM at h⊢
  rw [hm] at h⊢
  simp only [qcq,qjM,decide_true,Bool.false_eq_true,if_false,if_true] at h⊢
  obtain ⟨v,rfl,h2⟩:=h
  exact ⟨v,[],bs,[],rfl,by simp,h2,rfl,rfl⟩
 | .int _,_,_,_,_,_,_,_,hs,_=>by obtain ⟨_,h⟩:=Ty.whole_some hs; obtain ⟨h,_⟩:=Ty.as_some h; cases h
 | .bool,_,_,_,_,_,_,_,hs,_=>by obtain ⟨_,h⟩:=Ty.whole_some (t:= .bool) hs; obtain ⟨h,_⟩:=Ty.as_some h; cases h
 | .str,_,_,_,_,_,_,_,hs,_=>by obtain ⟨_,h⟩:=Ty.whole_some (t:= .str) hs; obtain ⟨h,_⟩:=Ty.as_some h; cases h
 | .unit,_,_,_,_,_,_,_,hs,_=>by obtain ⟨_,h⟩:=Ty.whole_some (t:= .unit) hs; obtain ⟨h,_⟩:=Ty.as_some h; cases h
 | .arr n e,_,_,_,_,_,hn,_,_,_=>by cases hn
 | .err,_,_,_,_,_,_,_,hs,_=>by obtain ⟨_,h⟩:=Ty.whole_some (t:= .err) hs; obtain ⟨h,_⟩:=Ty.as_some h; cases h
 | .opt _,_,_,_,_,_,_,_,hs,_=>by obtain ⟨_,h⟩:=Ty.whole_some (t:= .opt _) hs; obtain ⟨h,_⟩:=Ty.as_some h; cases h
 | .map _ _,_,_,_,_,_,_,_,hs,_=>by obtain ⟨_,h⟩:=Ty.whole_some (t:= .map _ _) hs; obtain ⟨h,_⟩:=Ty.as_some h; cases h
theorem qgn {m:Msk} {et:Nat} {e':Ty} {ys:List e'.den} {w:World} {F:Nat→Prop} :(t:Ty)→ {x:t.den} → {o off:Nat} → {cs:List Value} → {bs:List Nat} →t.noArr=true→qbn w F (bcM m (o+off,o+off+1) t x o) cs bs→
  t.sub x off (.slice e')=some ys→m.at (o+off)=some et→∃p q,bs=p++q∧off<cs.length∧
  ∀(v':Value) (ys':List e'.den) (b':List Nat) (x':t.den),t.upd x off (.slice e') ys'=some x'→qJ w F et e' ys' v' b'→
   qbn w F (bcM m (0,0) t x' o) (cs.take off++[v']++cs.drop (off+1)) (p++(b'++q))
 | .pair a b,x,o,off,cs,bs,hn,h,hs,hm=>by
  obtain ⟨hna,hnb⟩:a.noArr=true∧b.noArr=true:=by simpa [Ty.noArr] using hn
  have hin:off<a.size+b.size:=Ty.sub_lt (.pair a b) hs
  have e:∀k0 x,bcM m k0 (.pair a b) x o= .pair (bcM m k0 a x.1 o) (bcM m k0 b x.2 (o+a.size)):=fun k0 x=>by
   conv=>lhs; unfold bcM
   rw [if_pos (Msk.hits_at hm (by omega) (by omega))]
  have hw:∀(u:List e'.den),Ty.whole (t:= .slice e') (.pair a b) u off=none:=fun u=>by
   unfold Ty.whole
   split
   ·unfold Ty.as; rw [dif_neg (by intro h; cases h)]
   ·rfl
  rw [e] at h
  simp only [Ty.sub] at hs
  cases hz:Ty.whole (t:= .pair a b) (.slice e') x off with
  |some z=>
   obtain ⟨_,hz'⟩:=Ty.whole_some hz
   obtain ⟨h0,_⟩:=Ty.as_some hz'
   cases h0
  |none=>
   rw [hz] at hs
   simp only at hs
   obtain ⟨c1,c2,b1,b2,rfl,rfl,h3,h4⟩:=h
   have hl:=h3.length
   rw [qdv] at hl
   have hl2:=h4.length
   rw [qdv] at hl2
   split at hs
   ·rename_i hlt
    obtain ⟨p,q,g1,g2,g3⟩:=qgn a hna h3 hs hm
    refine ⟨p,q++b2,by rw [g1]; simp,by rw [List.length_append]; omega,fun v' ys' b' x' hu ho=> ?_⟩
    simp only [Ty.upd,hw,if_pos hlt] at hu
    cases hu1:a.upd x.1 off (.slice e') ys' with
    |none=>rw [hu1] at hu; cases hu
    |some z=>
     rw [hu1] at hu
     injection hu with hu
     subst hu
     rw [e]
     rw [qfP b _ _ (by omega)] at h4
     refine ⟨c1.take off++[v']++c1.drop (off+1),c2,p++(b'++q),b2,?_,by simp,g3 _ _ _ _ hu1 ho,h4⟩
     rw [List.take_append_of_le_length (by omega),List.drop_append_of_le_length (by omega)]
     simp
   ·rename_i hlt
    have e2:o+a.size+(off - a.size)=o+off:=by omega
    obtain ⟨p,q,g1,g2,g3⟩:=qgn b (o:=o+a.size) (off:=off - a.size) hnb (by rw [e2]; exact h4) hs (by rw [e2]; exact hm)
    refine ⟨b1++p,q,by rw [g1]; simp,by rw [List.length_append]; omega,fun v' ys' b' x' hu ho=> ?_⟩
    simp only [Ty.upd,hw,if_neg hlt] at hu
    cases hu1:b.upd x.2 (off - a.size) (.slice e') ys' with
    |none=>rw [hu1] at hu; cases hu
    |some z=>
     rw [hu1] at hu
     injection hu with hu
     subst hu
     rw [e]
     rw [qfP a _ _ (by omega)] at h3
     refine ⟨c1,c2.take (off - a.size)++[v']++c2.drop (off - a.size+1),b1,p++(b'++q),?_,by simp,h3,g3 _ _ _ _ hu1 ho⟩
     rw [List.take_append,List.take_of_length_le (l:=c1) (by omega),List.drop_append,List.drop_of_length_le (l:=c1) (by omega),hl]
     simp [show off+1 - a.size=off - a.size+1 by omega]
 | .slice e,xs,o,off,cs,bs,_,h,hs,hm=>by
  obtain ⟨rfl,hz'⟩:=Ty.whole_some (t:= .slice e) hs
  obtain ⟨he,hz'⟩:=Ty.as_some hz'
  injection he with he
  subst he
  subst hz'
  rw [Nat.add_zero] at hm h
  unfold bcM at h
  rw [hm] at h
  simp only [qjM,decide_true,if_true] at h
  obtain ⟨rfl,h2⟩:=h
  refine ⟨[],[],rfl,by omega,fun v' ys' b' x' hu ho=> ?_⟩
  have hx:ys'=x':=by
   have hu':Ty.whole (t:= .slice e) (.slice e) ys' 0=some x':=hu
   rw [Ty.whole_self] at hu'
   injection hu'
  subst hx
  unfold bcM
  rw [hm]
  simp only [qcq,Bool.false_eq_true,if_false]
  have hd:cs.drop (0+1)=[]:=List.drop_of_length_le (by omega)
  exact ⟨v',by rw [hd]; simp,by simpa using ho⟩
 | .int _,_,_,_,_,_,_,_,hs,_=>by obtain ⟨_,h⟩:=Ty.whole_some hs; obtain ⟨h,_⟩:=Ty.as_some h; cases h
 | .bool,_,_,_,_,_,_,_,hs,_=>by obtain ⟨_,h⟩:=Ty.whole_some (t:= .bool) hs; obtain ⟨h,_⟩:=Ty.as_some h; cases h
 | .str,_,_,_,_,_,_,_,hs,_=>by obtain ⟨_,h⟩:=Ty.whole_some (t:= .str) hs; obtain ⟨h,_⟩:=Ty.as_some h; cases h
 | .unit,_,_,_,_,_,_,_,hs,_=>by obtain ⟨_,h⟩:=Ty.whole_some (t:= .unit) hs; obtain ⟨h,_⟩:=Ty.as_some h; cases h
 | .arr n e,_,_,_,_,_,hn,_,_,_=>by cases hn
 | .err,_,_,_,_,_,_,_,hs,_=>by obtain ⟨_,h⟩:=Ty.whole_some (t:= .err) hs; obtain ⟨h,_⟩:=Ty.as_some h; cases h
 | .opt _,_,_,_,_,_,_,_,hs,_=>by obtain ⟨_,h⟩:=Ty.whole_some (t:= .opt _) hs; obtain ⟨h,_⟩:=Ty.as_some h; cases h
 | .map _ _,_,_,_,_,_,_,_,hs,_=>by obtain ⟨_,h⟩:=Ty.whole_some (t:= .map _ _) hs; obtain ⟨h,_⟩:=Ty.as_some h; cases h
theorem qkt {w:World} {F:Nat→Prop} {m:Msk} {k0:Nat×Nat} :(t:Ty)→ {x:t.den} → {o off:Nat} → {cs:List Value} → {bs:List Nat} → {u:Ty} → {y:u.den} → {z:t.den} → {ds:List Value} →qbn w F (bcM m k0 t x o) cs bs→Rep w F u y ds→t.upd x off u y=some z→
  m.hits (o+off) (o+off+u.size)=false→off+u.size≤cs.length∧qbn w F (bcM m k0 t z o) (cs.take off++ds++cs.drop (off+u.size)) bs
 | .pair a b,x,o,off,cs,bs,u,y,z,ds,h,hy,hs,hm=>by
  cases hh:m.hits o (o+(a.size+b.size)) with
  |false=>
   have e:∀z:(Ty.pair a b).den,bcM m k0 (.pair a b) z o= .val (.pair a b) z:=fun z=>qiC _ _ _ hh
   rw [e] at h
   obtain ⟨g1,g2⟩:=h.2.upd hy hs
   rw [e]
   exact ⟨g1,h.1,g2⟩
  |true=>
   have e:∀z:(Ty.pair a b).den,bcM m k0 (.pair a b) z o= .pair (bcM m k0 a z.1 o) (bcM m k0 b z.2 (o+a.size)):=fun z=>by
    conv=>lhs; unfold bcM
    rw [if_pos hh]
   rw [e] at h⊢
   simp only [Ty.upd] at hs
   cases hz:Ty.whole (t:=u) (.pair a b) y off with
   |some z'=>
    obtain ⟨rfl,hz'⟩:=Ty.whole_some hz
    obtain ⟨rfl,_⟩:=Ty.as_some hz'
    rw [show o+0+(Ty.pair a b).size=o+(a.size+b.size) from rfl,Nat.add_zero,hh] at hm
    cases hm
   |none=>
    rw [hz] at hs
    simp only at hs
    obtain ⟨c1,c2,b1,b2,rfl,rfl,h3,h4⟩:=h
    have hl:=h3.length
    rw [qdv] at hl
    have hd:=hy.length
    split at hs
    ·cases hu:a.upd x.1 off u y with
     |none=>rw [hu] at hs; cases hs
     |some z1=>
      rw [hu] at hs
      injection hs with hs
      subst hs
      obtain ⟨g1,g2⟩:=qkt a h3 hy hu hm
      exact ⟨by rw [List.length_append]; omega,_,c2,b1,b2,qgc g1 hd,rfl,g2,h4⟩
    ·cases hu:b.upd x.2 (off - a.size) u y with
     |none=>rw [hu] at hs; cases hs
     |some z1=>
      rw [hu] at hs
      injection hs with hs
      subst hs
      obtain ⟨g1,g2⟩:=qkt b (off:=off - a.size) h4 hy hu (by rw [show o+a.size+(off - a.size)=o+off by omega]; exact hm)
      refine ⟨by rw [List.length_append]; omega,c1,_,b1,b2,qft (by omega),rfl,h3,?_⟩
      rw [hl]
      exact g2
 | .slice e,xs,o,off,cs,bs,u,y,z,ds,h,hy,hs,hm=>by
  obtain ⟨rfl,hz'⟩:=Ty.whole_some (t:=u) hs
  obtain ⟨rfl,_⟩:=Ty.as_some hz'
  rw [Nat.add_zero] at hm
  rw [qiC _ _ _ hm] at h⊢
  obtain ⟨g1,g2⟩:=h.2.upd hy hs
  exact ⟨g1,h.1,g2⟩
 | .int _,_,_,_,_,_,_,_,_,_,h,hy,hs,_=>(h.2.upd hy hs).imp id fun g=>⟨h.1,g⟩
 | .bool,_,_,_,_,_,_,_,_,_,h,hy,hs,_=>(h.2.upd hy hs).imp id fun g=>⟨h.1,g⟩
 | .str,_,_,_,_,_,_,_,_,_,h,hy,hs,_=>(h.2.upd hy hs).imp id fun g=>⟨h.1,g⟩
 | .unit,_,_,_,_,_,_,_,_,_,h,hy,hs,_=>(h.2.upd hy hs).imp id fun g=>⟨h.1,g⟩
 | .arr _ _,_,_,_,_,_,_,_,_,_,h,hy,hs,_=>(h.2.upd hy hs).imp id fun g=>⟨h.1,g⟩
 | .err,_,_,_,_,_,_,_,_,_,h,hy,hs,_=>(h.2.upd hy hs).imp id fun g=>⟨h.1,g⟩
 | .opt _,_,_,_,_,_,_,_,_,_,h,hy,hs,_=>(h.2.upd hy hs).imp id fun g=>⟨h.1,g⟩
 | .map _ _,_,_,_,_,_,_,_,_,_,h,hy,hs,_=>(h.2.upd hy hs).imp id fun g=>⟨h.1,g⟩
end Go.Vi
namespace Go.Vi
open Go.RowKit
theorem qbA (us:List U):∀ {σ:St} {s:Nat},s∉us.map (·.s)→qb (qa σ us) s=qb σ s:=by
 induction us with
 |nil=>intro σ s _; rfl
 |cons u r ih=>
  intro σ s hs
  rw [List.map_cons,List.mem_cons,not_or] at hs
  show qb (qa (qr σ u) r) s=_
  rw [ih hs.2,qc _ _ hs.1]
theorem qaV (us:List U):∀ {σ:St} {u:U},(us.map (·.s)).Nodup→u∈us→u.s<σ.length→qb (qa σ us) u.s=((if u.bump then (qb σ u.s).1+1 else (qb σ u.s).1),u.a):=by
 induction us with
 |nil=>intro σ u _ hu; cases hu
 |cons v r ih=>
  intro σ u hn hu hlt
  rw [List.map_cons,List.nodup_cons] at hn
  show qb (qa (qr σ v) r) u.s=_
  rcases List.mem_cons.1 hu with rfl|hu
  ·rw [qbA r hn.1,qk σ u hlt]
  ·have hne:u.s≠v.s:=fun e=>hn.1 (e ▸ List.mem_map_of_mem hu)
   rw [ih hn.2 hu (by rw [qD]; exact hlt),qc _ _ hne]
theorem qv.multi {C:Ctx} {σ:St} {tm tm':Array Value} {w w':World} {own:Nat→List Nat} (h:qv C σ tm w own) (us:List U) (nb:Nat→List Nat) (hn:(us.map (·.s)).Nodup) (hlt:∀u∈us,u.s<σ.length)
  (htm:tm'.size=tm.size) (htms:∀s,s∉us.map (·.s)→tm'.getD s undef=tm.getD s undef)
  (hb:∀u∈us,u.bump=true∨(tm'.getD u.s undef=tm.getD u.s undef∧∀b,b∈own u.s→tm.getD u.s undef=ptr b 0→b∈nb u.s∧w'.heap[b]? =w.heap[b]?))
  (hk:qa5 (fun k=>∃u∈us,k∈own u.s) w w')
  (hnb:∀u∈us,(∀b∈nb u.s,(w.heap.size≤b∧b<w'.heap.size)∨∃u0∈us,b∈own u0.s)∧(nb u.s).Nodup)
  (hap:∀u∈us,∀u'∈us,∀b,b∈nb u.s→b∈nb u'.s→u.s=u'.s)
  (hrep:∀X':Sit,X'.P=C.P→X'.pn=C.pn→X'.w=w'→(∀b,C.free w own b→X'.F b)→(∀b,(∃u∈us,b∈own u.s)→(∀u∈us,b∉nb u.s)→X'.F b)→(∀s,X'.ver s=(qb (qa σ us) s).1)→(∀s,X'.tm s=tm'.getD s undef)→
   ∀u∈us,qL X' u.a (tm'.getD u.s undef) (nb u.s))
  (hm:∀u∈us,∀m∈u.a.mentions,m.2≤(qb (qa σ us) m.1).1):
  ∃own',qv C (qa σ us) tm' w' own'∧(∀u∈us,own' u.s=nb u.s)∧(∀s,s∉us.map (·.s)→own' s=own s):=by
 classical
 let own':Nat→List Nat:=fun s=>if s∈us.map (·.s) then nb s else own s
 have oI:∀u∈us,own' u.s=nb u.s:=fun u hu=>by simp only [own',if_pos (List.mem_map_of_mem (f:=(·.s)) hu)]
 have oO:∀s,s∉us.map (·.s)→own' s=own s:=fun s hs=>by simp only [own',if_neg hs]
 have get:∀ {s},s∈us.map (·.s)→∃u∈us,u.s=s:=fun hs=>by
  obtain ⟨u,hu,e⟩:=List.mem_map.1 hs
  exact ⟨u,hu,e⟩
 refine ⟨own',h.update (fun s=>s∈us.map (·.s)) (qj _ _) htm (fun s hs=>⟨qbA us hs,htms s hs,oO s hs⟩) ?_ (hk.mono ?_) ?_ ?_ ?_ ?_ ?_,oI,oO⟩
 ·intro s hs
  obtain ⟨u,hu,rfl⟩:=get hs
  rw [qaV us hn hu (hlt u hu)]
  rcases hb u hu with h1|⟨h1,h2⟩
  ·rw [if_pos h1]; exact .inl (Nat.lt_succ_self _)
  ·by_cases hbp:u.bump=true
   ·rw [if_pos hbp]; exact .inl (Nat.lt_succ_self _)
   ·rw [if_neg hbp]
    refine .inr ⟨rfl,h1,fun b hb hp=> ?_⟩
    rw [oI u hu]
    exact h2 b hb hp
 ·rintro k ⟨u,hu,hk⟩
  exact ⟨u.s,List.mem_map_of_mem hu,hk⟩
 ·intro s hs
  obtain ⟨u,hu,rfl⟩:=get hs
  exact hlt u hu
 ·intro s hs
  obtain ⟨u,hu,rfl⟩:=get hs
  rw [oI u hu]
  refine ⟨fun b hbm=> ?_,(hnb u hu).2⟩
  rcases (hnb u hu).1 b hbm with h1|⟨u0,h0,h1⟩
  ·exact .inl h1
  ·exact .inr ⟨u0.s,List.mem_map_of_mem h0,h1⟩
 ·intro s s' b hs hs' hb1 hb2
  obtain ⟨u,hu,rfl⟩:=get hs
  obtain ⟨u',hu',rfl⟩:=get hs'
  rw [oI u hu] at hb1
  rw [oI u' hu'] at hb2
  exact hap u hu u' hu' b hb1 hb2
 ·intro s hs
  obtain ⟨u,hu,rfl⟩:=get hs
  rw [oI u hu,qaV us hn hu (hlt u hu)]
  refine hrep (sit C (qa σ us) tm' w' own') rfl rfl rfl (fun b hbf=>⟨hbf.1,Nat.lt_of_lt_of_le hbf.2.1 hk.size,fun s hs=> ?_⟩) (fun b hbo hbn=> ?_) (fun _=>rfl) (fun _=>rfl) u hu
  ·by_cases hm:s∈us.map (·.s)
   ·obtain ⟨v,hv,rfl⟩:=get hm
    rw [oI v hv] at hs
    rcases (hnb v hv).1 b hs with h1|⟨u0,_,h1⟩
    ·have:=hbf.2.1; omega
    ·exact hbf.2.2 _ h1
   ·rw [oO s hm] at hs
    exact hbf.2.2 _ hs
  ·obtain ⟨v,hv,hbv⟩:=hbo
   obtain ⟨h1,h2⟩:=h.mine v.s b hbv
   refine ⟨.inr h1,Nat.lt_of_lt_of_le h2 hk.size,fun s hs=> ?_⟩
   by_cases hm:s∈us.map (·.s)
   ·obtain ⟨v',hv',rfl⟩:=get hm
    rw [oI v' hv'] at hs
    exact hbn v' hv' hs
   ·rw [oO s hm] at hs
    exact hm (h.apart v.s s b hbv hs ▸ List.mem_map_of_mem hv)
 ·intro s hs m hmm
  obtain ⟨u,hu,rfl⟩:=get hs
  rw [qaV us hn hu (hlt u hu)] at hmm
  exact hm u hu m hmm
theorem qb3 {w:World} {F:Nat→Prop} {t:Ty} {c:BC} {cs:List Value} {bs:List Nat} {x:t.den} (h:qP w F c cs bs) (hs:c.size=t.size) (hg:BC.flat0 t c=some x):Rep w F t x cs:=by
 unfold BC.flat0 at hg
 split at hg
 case h_2=>cases hg
 rename_i y hy
 injection hg with hg
 subst hg
 obtain ⟨_,_,g3⟩:=h.get hy
 have hl:=h.length
 have:=g3 rfl
 rwa [List.drop_zero,List.take_of_length_le (by omega)] at this
theorem ql8 {w:World} {F:Nat→Prop} {m:Msk} :(t:Ty)→ {off:Nat} → {c:BC} → {cs:List Value} → {bs:List Nat} → {x:t.den} →qP w F c cs bs→c.size=t.size→c.toM m t off=some x→
  ∃b1:List Nat,b1.Sublist bs∧qbn w F (bcM m (0,0) t x off) cs b1
 | .pair a b,off,c,cs,bs,x,h,hs,hx=>by
  unfold BC.toM at hx
  split at hx
  ·rename_i hh
   split at hx
   case h_2=>cases hx
   rename_i ca cb
   split at hx
   case h_2=>cases hx
   rename_i xa xb ha hb
   split at hx
   case isFalse=>cases hx
   rename_i hsa
   injection hx with hx
   subst hx
   obtain ⟨c1,c2,b1,b2,rfl,rfl,h3,h4⟩:=h
   have hs':ca.size+cb.size=a.size+b.size:=hs
   obtain ⟨p1,q1,r1⟩:=ql8 a h3 hsa ha
   obtain ⟨p2,q2,r2⟩:=ql8 b h4 (by omega) hb
   refine ⟨p1++p2,q1.append q2,?_⟩
   unfold bcM
   rw [if_pos hh]
   exact ⟨c1,c2,p1,p2,rfl,rfl,r1,r2⟩
  ·rename_i hh
   have:=qb3 h hs hx
   refine ⟨[],List.nil_sublist _,?_⟩
   rw [qiC _ _ _ hh]
   exact ⟨rfl,this⟩
 | .slice e,off,c,cs,bs,x,h,hs,hx=>by
  unfold BC.toM at hx
  unfold bcM
  split at hx
  ·rename_i et hat
   split at hx
   case h_2=>cases hx
   rename_i et' e' xs
   split at hx
   case isFalse=>cases hx
   rename_i hc
   obtain ⟨hc1,hc2⟩:=hc
   subst hc1
   obtain ⟨e1,e2⟩:=Ty.as_some hx
   injection e1 with e1
   subst e1
   have e2:xs=x:=e2
   subst e2
   obtain ⟨v,hv,ho⟩:=h
   refine ⟨bs,List.Sublist.refl _,?_⟩
   simp only [qcq,Bool.false_eq_true,if_false]
   exact ⟨v,hv,ho.to0 hc2⟩
  ·exact ⟨[],List.nil_sublist _,rfl,qb3 h hs hx⟩
 | .int _,_,_,_,_,_,h,hs,hx=>⟨[],List.nil_sublist _,rfl,qb3 h hs hx⟩
 | .bool,_,_,_,_,_,h,hs,hx=>⟨[],List.nil_sublist _,rfl,qb3 (t:= .bool) h hs hx⟩
 | .str,_,_,_,_,_,h,hs,hx=>⟨[],List.nil_sublist _,rfl,qb3 (t:= .str) h hs hx⟩
 | .unit,_,_,_,_,_,h,hs,hx=>⟨[],List.nil_sublist _,rfl,qb3 (t:= .unit) h hs hx⟩
 | .arr _ _,_,_,_,_,_,h,hs,hx=>⟨[],List.nil_sublist _,rfl,qb3 h hs hx⟩
 | .err,_,_,_,_,_,h,hs,hx=>⟨[],List.nil_sublist _,rfl,qb3 (t:= .err) h hs hx⟩
 | .opt _,_,_,_,_,_,h,hs,hx=>⟨[],List.nil_sublist _,rfl,qb3 h hs hx⟩
 | .map _ _,_,_,_,_,_,h,hs,hx=>⟨[],List.nil_sublist _,rfl,qb3 h hs hx⟩
theorem qP.remask {w:World} {F:Nat→Prop} (l:List Nat): {c:BC} → {cs:List Value} →qP w F c cs []→qP w F (c.remask l) cs []
 | .val _ _,_,h=>h
 | .hole _,_,h=>h
 | .pair a b,_,⟨c1,c2,b1,b2,h1,h2,h3,h4⟩=>by
  obtain ⟨rfl,rfl⟩:=List.append_eq_nil_iff.1 h2.symm
  exact ⟨c1,c2,[],[],h1,rfl,h3.remask l,h4.remask l⟩
 | .own et e xs,cs,⟨v,hv,h⟩=>by
  cases xs with
  |cons x r=>exact ⟨v,hv,h⟩
  |nil=>
   refine ⟨v,hv,?_⟩
   obtain ⟨cells,bss,ho,_,hbs,_⟩:=h
   rcases ho.2 with ⟨h1,_⟩|⟨g,cap,cur,h1,_⟩
   ·rw [h1]
    exact qA.nil_ _ _ _ _
   ·rw [h1] at hbs
    simp [Value.ownBlock] at hbs
theorem qdM.cap {w:World} {F:Nat→Prop} {et:Nat} {e:Ty} {hl:Int×Nat×Nat} {xs:List e.den} {g n cap:Nat} {bs:List Nat} (h:qdM w F et e hl xs (.slice (some ⟨g,0,none⟩) n cap) bs):n=xs.length:=by
 obtain ⟨cells,ho⟩:=h.hdr
 rcases ho.2 with ⟨h,_⟩|⟨g',cap',cur,h,_⟩
 ·cases h
 ·injection h
theorem qdJ {bss:List (List Nat)} {i:Nat} (h:i<bss.length):bss.flatten=(bss.take i).flatten++(bss[i]++(bss.drop (i+1)).flatten):=by
 conv=>lhs; rw [←List.take_append_drop i bss]
 rw [List.flatten_append,List.drop_eq_getElem_cons h,List.flatten_cons]
theorem qe4 {bss:List (List Nat)} {i:Nat} (h:i<bss.length) (b:List Nat):(bss.set i b).flatten=(bss.take i).flatten++(b++(bss.drop (i+1)).flatten):=by
 rw [qdJ (bss:=bss.set i b) (i:=i) (by simpa using h)]
 rw [List.take_set_of_le (Nat.le_refl _),List.getElem_set_self,List.drop_set_of_lt (by omega)]
theorem qe6 {i:Int} {o:Nat×Nat} (h:0≤i):qjg (i,o) i.toNat=o:=if_pos (by show i=(i.toNat:Int); omega)
theorem qg7 {i:Int} {o:Nat×Nat} {j:Nat} (h:0≤i) (hne:i.toNat≠j):qjg (i,o) j=(0,0):=if_neg (by show ¬i=(j:Int); omega)
theorem qdM.take {w:World} {F:Nat→Prop} {et:Nat} {e:Ty} {xs:List e.den} {g n cap:Nat} {bs:List Nat} {i:Int} {off et':Nat} {e':Ty} {ys:List e'.den} (hrow:qdM w F et e (-1,0,0) xs (.slice (some ⟨g,0,none⟩) n cap) bs)
  (k2:0≤i) (k3:i<n) (hn:e.noArr=true) (hs:e.sub (qbt xs i e.dflt) off (.slice e')=some ys) (hm:(etM et).at off=some et'):
  ∃hv b1 p q,w.cell? ⟨g,i.toNat * e.size+off,none⟩=some hv∧bs=g::(p++(b1++q))∧qJ w F et' e' ys hv b1∧qdM w F et e (i,off,off+1) xs (.slice (some ⟨g,0,none⟩) n cap) (g::(p++q)):=by
 have hnn:=hrow.cap
 subst hnn
 obtain ⟨cells,bss,ho,hlb,hbs,hx⟩:=hrow
 have hi:i.toNat<xs.length:=by omega
 rw [show qbt xs i e.dflt=xs[i.toNat] from qbZ (List.getElem?_eq_getElem hi)] at hs
 have hib:i.toNat<bss.length:=by omega
 have hin:i.toNat * e.size+e.size≤xs.length * e.size:=by rw [←Nat.succ_mul]; exact Nat.mul_le_mul_right _ hi
 have hcl:cells.length=xs.length * e.size:=ho.1
 have hlt:=Ty.sub_lt e hs
 obtain ⟨v,p,b1,q,g1,g2,g3,g4⟩:=qiK e (o:=0) hn (hx i.toNat _ _ (List.getElem?_eq_getElem hi) (List.getElem?_eq_getElem hib)) hs (by rw [Nat.zero_add]; exact hm)
 rw [Nat.zero_add] at g4
 refine ⟨v,b1,(bss.take i.toNat).flatten++p,q++(bss.drop (i.toNat+1)).flatten,?_,?_,g3,cells,bss.set i.toNat (p++q),ho,by simpa using hlb,?_,fun j x b hj hb=> ?_⟩
 ·have:=ho.cells (g:=g) rfl (i.toNat * e.size+off) v (by
   rw [List.getElem?_take,if_pos hlt,List.getElem?_drop] at g1
   exact g1)
  rwa [qH,Nat.zero_add] at this
 ·rw [hbs,qdJ hib,g2]
  simp [Value.ownBlock]
 ·rw [qe4 hib]
  simp [Value.ownBlock]
 ·by_cases hji:i.toNat=j
  ·subst hji
   rw [List.getElem?_set_self hib] at hb
   injection hb with hb
   subst hb
   rw [List.getElem?_eq_getElem hi] at hj
   injection hj with hj
   subst hj
   rw [qe6 k2]
   exact g4
  ·rw [List.getElem?_set_ne hji] at hb
   rw [qg7 k2 hji]
   exact hx j x b hj hb
theorem qdM.refill {w:World} {F:Nat→Prop} {et:Nat} {e:Ty} {xs:List e.den} {g n cap:Nat} {bs:List Nat} {i:Int} {off et':Nat} {e':Ty} {ys ys':List e'.den} {x':e.den} {hv:Value} {b':List Nat}
  (hrow:qdM w F et e (i,off,off+1) xs (.slice (some ⟨g,0,none⟩) n cap) bs)
  (k2:0≤i) (k3:i<n) (hn:e.noArr=true) (hs:e.sub (qbt xs i e.dflt) off (.slice e')=some ys) (hm:(etM et).at off=some et') (hu:e.upd (qbt xs i e.dflt) off (.slice e') ys'=some x')
  (hc:w.cell? ⟨g,i.toNat * e.size+off,none⟩=some hv) (hr:qJ w F et' e' ys' hv b'):
  ∃p q,bs=g::(p++q)∧qdM w F et e (-1,0,0) (qcr xs i x') (.slice (some ⟨g,0,none⟩) n cap) (g::(p++(b'++q))):=by
 have hnn:=hrow.cap
 subst hnn
 obtain ⟨cells,bss,ho,hlb,hbs,hx⟩:=hrow
 have hi:i.toNat<xs.length:=by omega
 rw [show qbt xs i e.dflt=xs[i.toNat] from qbZ (List.getElem?_eq_getElem hi)] at hs hu
 have hib:i.toNat<bss.length:=by omega
 have hin:i.toNat * e.size+e.size≤xs.length * e.size:=by rw [←Nat.succ_mul]; exact Nat.mul_le_mul_right _ hi
 have hcl:cells.length=xs.length * e.size:=ho.1
 have hlt:=Ty.sub_lt e hs
 have hx0:=hx i.toNat _ _ (List.getElem?_eq_getElem hi) (List.getElem?_eq_getElem hib)
 rw [qe6 k2] at hx0
 obtain ⟨p,q,g1,g2,g3⟩:=qgn e (o:=0) (off:=off) hn (by rw [Nat.zero_add]; exact hx0) hs (by rw [Nat.zero_add]; exact hm)
 have g4:=g3 hv ys' b' x' hu hr
 have hlx:(qcr xs i x').length=xs.length:=by simp [qaA]
 have hcell:((cells.drop (i.toNat * e.size)).take e.size)[off]? =some hv:=by
  have h1:=ho.cellAt (i.toNat * e.size+off) (by omega)
  rw [hc] at h1
  rw [List.getElem?_take,if_pos hlt,List.getElem?_drop]
  exact h1.symm
 have hsame:((cells.drop (i.toNat * e.size)).take e.size).take off++[hv]++((cells.drop (i.toNat * e.size)).take e.size).drop (off+1)=(cells.drop (i.toNat * e.size)).take e.size:=by
  generalize ((cells.drop (i.toNat * e.size)).take e.size)=c at hcell g2⊢
  obtain ⟨h1,h2⟩:=List.getElem?_eq_some_iff.1 hcell
  subst h2
  rw [List.append_assoc]
  conv=>rhs; rw [←List.take_append_drop off c,List.drop_eq_getElem_cons h1]
  rfl
 rw [hsame] at g4
 refine ⟨(bss.take i.toNat).flatten++p,q++(bss.drop (i.toNat+1)).flatten,?_,cells,bss.set i.toNat (p++(b'++q)),by rw [hlx]; exact ho,by rw [hlx]; simpa using hlb,?_,fun j x b hj hb=> ?_⟩
 ·rw [hbs,qdJ hib,g1]
  simp [Value.ownBlock]
 ·rw [qe4 hib]
  simp [Value.ownBlock]
 ·simp only [qaA] at hj
  rw [qa3]
  by_cases hji:i.toNat=j
  ·subst hji
   rw [List.getElem?_set_self hib] at hb
   injection hb with hb
   subst hb
   rw [List.getElem?_set_self hi] at hj
   injection hj with hj
   subst hj
   exact g4
  ·rw [List.getElem?_set_ne hji] at hb hj
   have:=hx j x b hj hb
   rwa [qg7 k2 hji,←qa3 (j:=j) (p:=(0,0))] at this
theorem qbk {b b' off off':Nat} (h:ptr b off=ptr b' off'):b=b'∧off=off':=by
 simp [ptr] at h; exact h
theorem qP.row {w:World} {F:Nat→Prop} {et:Nat} {e:Ty} {xs:List e.den} : {c:BC} → {cs:List Value} → {bs:List Nat} → {off:Nat} →qP w F c cs bs→c.row off=some (et,⟨e,xs⟩)→
  ∃v b1 b2 b3,cs[off]? =some v∧qA w F et e xs v b2∧bs=b1++(b2++b3)∧∀ {w':World} {F':Nat→Prop} (n c':BC) (b2':List Nat),(∀b,F b→b<w.heap.size→F' b∧b<w'.heap.size∧w'.heap[b]? =w.heap[b]?)→
   (∀b,b∈b1∨b∈b3→b<w.heap.size→w'.heap[b]? =w.heap[b]?)→c.swap off n=some c'→qP w' F' n [v] b2'→qP w' F' c' cs (b1++(b2'++b3))
 | .own et' e' xs',cs,bs,off,⟨v,h1,h2⟩,hr=>by
  simp only [BC.row] at hr
  split at hr
  ·rename_i h0
   subst h0
   injection hr with hr
   injection hr with e1 e2
   subst e1
   injection e2 with e2 e3
   subst e2
   have e3:=eq_of_heq e3
   subst e3
   subst h1
   refine ⟨v,[],bs,[],rfl,h2,by simp,fun n c' b2' _ _ hsw hn=> ?_⟩
   simp only [BC.swap,if_true] at hsw
   injection hsw with hsw
   subst hsw
   simpa using hn
  ·cases hr
 | .pair a b,cs,bs,off,⟨c1,c2,b1,b2,h1,h2,h3,h4⟩,hr=>by
  simp only [BC.row] at hr
  have hl:=h3.length
  split at hr
  ·rename_i hlt
   obtain ⟨v,p1,p2,p3,q1,q2,q3,q4⟩:=h3.row hr
   refine ⟨v,p1,p2,p3++b2,by rw [h1,List.getElem?_append_left (by omega)]; exact q1,q2,by rw [h2,q3]; simp,fun n c' b2' hF hB hsw hn=> ?_⟩
   simp only [BC.swap,if_pos hlt,Option.map_eq_some_iff] at hsw
   obtain ⟨z,z1,rfl⟩:=hsw
   exact ⟨c1,c2,p1++(b2'++p3),b2,h1,by simp,q4 n z b2' hF (fun x hx=>hB x (hx.imp id (fun hx=>List.mem_append_left _ hx))) z1 hn,h4.keep hF (fun x hx=>hB x (.inr (List.mem_append_right _ hx)))⟩
  ·rename_i hlt
   obtain ⟨v,p1,p2,p3,q1,q2,q3,q4⟩:=h4.row hr
   refine ⟨v,b1++p1,p2,p3,by rw [h1,List.getElem?_append_right (by omega),hl]; exact q1,q2,by rw [h2,q3]; simp,fun n c' b2' hF hB hsw hn=> ?_⟩
   simp only [BC.swap,if_neg hlt,Option.map_eq_some_iff] at hsw
   obtain ⟨z,z1,rfl⟩:=hsw
   exact ⟨c1,c2,b1,p1++(b2'++p3),h1,by simp,h3.keep hF (fun x hx=>hB x (.inl (List.mem_append_left _ hx))),q4 n z b2' hF (fun x hx=>hB x (hx.imp (fun hx=>List.mem_append_right _ hx) id)) z1 hn⟩
 | .val _ _,_,_,_,_,hr=>by cases hr
 | .hole _,_,_,_,_,hr=>by cases hr
theorem qv.holeIn {C:Ctx} {σ:St} {tm:Array Value} {w:World} {own:Nat→List Nat} (h:qv C σ tm w own) {s:Nat} {fo:Option Nat} {et:Nat} {e:Ty} {xs:List e.den} {g n cap:Nat} {i:Int} {off et':Nat} {e':Ty} {ys:List e'.den}
  (hr:(qb σ s).2.rowAt fo=some (et,⟨e,xs⟩)) (hv:qbd (sit C σ tm w own) s fo (.slice (some ⟨g,0,none⟩) n cap)) (k2:0≤i) (k3:i<(n:Int)) (hn:e.noArr=true) (hs:e.sub (qbt xs i e.dflt) off (.slice e')=some ys) (hm:(etM et).at off=some et'):
  s<σ.length∧∃(hv:Value) (bi nbS:List Nat),w.cell? ⟨g,i.toNat * e.size+off,none⟩=some hv∧qJ w (C.free w own) et' e' ys hv bi∧(own s).Perm (bi++nbS)∧(∀b,b∈own s→tm.getD s undef=ptr b 0→b∈nbS)∧
   ∀(X':Sit) (t v0:Nat),X'.w=w→(∀b,C.free w own b→X'.F b)→X'.tm t=hv→qhR X' (qb σ s).2 fo i off t v0 (tm.getD s undef) nbS:=by
 have hat:=h.at_ s
 have hlt:s<σ.length:=by
  apply Classical.byContradiction
  intro hn
  have:qb σ s=(0,.undef):=by simp [qb,List.getD,List.getElem?_eq_none (Nat.le_of_not_lt hn)]
  rw [this] at hr
  cases hr
 refine ⟨hlt,?_⟩
 have hnd:=h.nodup s
 generalize hg:(qb σ s).2=av at hat hr⊢
 cases av with
 |own et0 e0 xs0=>
  cases fo with
  |some _=>cases hr
  |none=>
   simp only [AV.rowAt] at hr
   injection hr with hr
   injection hr with e1 e2
   subst e1
   injection e2 with e2 e3
   subst e2
   have e3:=eq_of_heq e3
   subst e3
   have hv:tm.getD s undef= .slice (some ⟨g,0,none⟩) n cap:=hv
   rw [hv] at hat⊢
   obtain ⟨c,b1,p,q,q1,q2,q3,q4⟩:=qdM.take hat k2 k3 hn hs hm
   refine ⟨c,b1,g::(p++q),q1,q3,?_,(fun b _ hp=>by cases hp),fun X' t v0 hw hF ht=>⟨et0,e0,xs0,g,n,cap,_,rfl,k2,k3,?_,fun _=>by rw [hw,ht]; exact q1,rfl,rfl⟩⟩
   ·rw [q2]
    refine List.perm_iff_count.2 fun x=> ?_
    simp only [List.count_append,List.count_cons]
    omega
   ·rw [hw]
    exact q4.keep (fun b hb hlt=>⟨hF b hb,hlt,rfl⟩) (fun _ _ _=>rfl)
 |box c=>
  cases fo with
  |none=>cases hr
  |some o=>
   have hr:c.row o=some (et,⟨e,xs⟩):=hr
   obtain ⟨b,cs,bs',te,h1,h2,h3,h4⟩:=hat
   have h1:tm.getD s undef=ptr b 0:=h1
   have h2:w.heap[b]? =some (.cells cs.toArray te (0,0)):=h2
   obtain ⟨v',p1,p2,p3,r1,r2,r3,r4⟩:=h3.row hr
   obtain ⟨b',_,m2,m3⟩:=hv
   have m2:tm.getD s undef=ptr b' 0:=m2
   rw [h1] at m2
   obtain ⟨rfl,_⟩:=qbk m2
   have hvv:v'= .slice (some ⟨g,0,none⟩) n cap:=by
    have:w.cell? ⟨b,o,none⟩=cs[o]? :=by simp [World.cell?,h2]
    have m3:w.cell? ⟨b,o,none⟩=some (.slice (some ⟨g,0,none⟩) n cap):=m3
    rw [this,r1] at m3
    injection m3
   subst hvv
   obtain ⟨hc,b1,p,q,q1,q2,q3,q4⟩:=qdM.take r2 k2 k3 hn hs hm
   have h4:own s=b::bs':=h4
   refine ⟨hc,b1,b::(p1++((g::(p++q))++p3)),q1,q3,?_,fun x _ hp=> ?_,fun X' t v0 hw hF ht=>⟨et,e,xs,g,n,cap,g::(p++q),hr,k2,k3,?_,fun _=>by rw [hw,ht]; exact q1,b,cs,te,p1,p3,h1,by rw [hw]; exact h2,r1,?_,rfl⟩⟩
   ·rw [h4,r3,q2]
    refine List.perm_iff_count.2 fun x=> ?_
    simp only [List.count_append,List.count_cons]
    omega
   ·rw [h1] at hp
    obtain ⟨rfl,_⟩:=qbk hp
    exact List.mem_cons_self
   ·rw [hw]
    exact q4.keep (fun b hb hlt=>⟨hF b hb,hlt,rfl⟩) (fun _ _ _=>rfl)
   ·rw [hw]
    intro w2 F2 n' c' b2' f1 f2 f3 f4
    exact r4 n' c' b2' (fun x hx hlt=>f1 x (hF x hx) hlt) f2 f3 f4
 |_=>cases hr
theorem qv.holRow {C:Ctx} {σ:St} {tm:Array Value} {w:World} {own:Nat→List Nat} (h:qv C σ tm w own) {s:Nat} {av:AV} {fo:Option Nat} {i:Int} {o1 t v0:Nat} {et:Nat} {e:Ty} {xs:List e.den} (hs:(qb σ s).2= .hol av fo i o1 t v0) (hr:av.rowAt fo=some (et,⟨e,xs⟩)):
  ∃(g n cap:Nat) (b1 b2 b3:List Nat),0≤i∧i<(n:Int)∧qdM w (C.free w own) et e (i,o1,o1+1) xs (.slice (some ⟨g,0,none⟩) n cap) b2∧qbd (sit C σ tm w own) s fo (.slice (some ⟨g,0,none⟩) n cap)∧
   ((qb σ t).1=v0→w.cell? ⟨g,i.toNat * e.size+o1,none⟩=some (tm.getD t undef))∧own s=b1++(b2++b3)∧(∀b,tm.getD s undef=ptr b 0→b∉b2)∧
   ∀(X':Sit) (m:BC) (b2':List Nat) (a':AV),qa5 (fun k=>k∈b2) w X'.w→(∀b,C.free w own b→X'.F b)→qP X'.w X'.F m [.slice (some ⟨g,0,none⟩) n cap] b2'→av.swapRow m fo=some a'→qL X' a' (tm.getD s undef) (b1++(b2'++b3))∧a'.mentions=[]:=by
 have hat:=h.at_ s
 rw [hs] at hat
 have hnd:=h.nodup s
 obtain ⟨et0,e0,xs0,g,n,cap,b2,h1,h2,h3,h4,h5,h6⟩:=hat
 rw [hr] at h1
 injection h1 with h1
 injection h1 with h1 h1'
 subst h1
 injection h1' with h1 h1'
 subst h1
 have h1':=eq_of_heq h1'
 subst h1'
 cases av with
 |own et1 e1 xs1=>
  cases fo with
  |some _=>cases hr
  |none=>
   obtain ⟨k1,k2⟩:=h6
   have k1:tm.getD s undef= .slice (some ⟨g,0,none⟩) n cap:=k1
   have k2:own s=b2:=k2
   refine ⟨g,n,cap,[],b2,[],h2,h3,h4,k1,h5,by simp [k2],(fun b hb=>by rw [k1] at hb; cases hb),fun X' m b2' a' hk hF hm hsw=> ?_⟩
   rw [k1]
   cases m with
   |own et2 e2 xs2=>
    simp only [AV.swapRow] at hsw
    injection hsw with hsw
    subst hsw
    obtain ⟨v',hv',hm⟩:=hm
    injection hv' with hv'
    subst hv'
    have e0:([]:List Nat)++(b2'++[])=b2':=by simp
    rw [e0]
    exact ⟨hm,rfl⟩
   |hole k=>
    simp only [AV.swapRow] at hsw
    injection hsw with hsw
    subst hsw
    exact ⟨trivial,rfl⟩
   |val _ _=>cases hsw
   |pair _ _=>cases hsw
 |box c=>
  cases fo with
  |none=>cases hr
  |some o=>
   obtain ⟨b,cs,te,b1,b3,k1,k2,k3,k4,k5⟩:=h6
   have k1:tm.getD s undef=ptr b 0:=k1
   have k2:w.heap[b]? =some (.cells cs.toArray te (0,0)):=k2
   have k5:own s=b::(b1++(b2++b3)):=k5
   rw [k5] at hnd
   have hnd0:=List.nodup_cons.1 hnd
   have hnd1:=List.nodup_append.1 hnd0.2
   have hnd2:=List.nodup_append.1 hnd1.2.1
   have hb2:b∉b2:=fun hb=>hnd0.1 (List.mem_append_right _ (List.mem_append_left _ hb))
   refine ⟨g,n,cap,b::b1,b2,b3,h2,h3,h4,⟨b,by show b∈own s; rw [k5]; exact List.mem_cons_self,k1,?_⟩,h5,by simp [k5],fun x hx=> ?_,fun X' m b2' a' hk hF hm hsw=> ?_⟩
   ·show w.cell? ⟨b,o,none⟩=_
    simp [World.cell?,k2,k3]
   ·rw [k1] at hx
    obtain ⟨rfl,_⟩:=qbk hx
    exact hb2
   ·simp only [AV.swapRow,Option.map_eq_some_iff] at hsw
    obtain ⟨c',c1,rfl⟩:=hsw
    refine ⟨⟨b,cs,b1++(b2'++b3),te,k1,?_,k4 m c' b2' (fun x hx hlt=> ?_) (fun x hx hlt=>hk.block x hlt fun hx2=> ?_) c1 hm,rfl⟩,rfl⟩
    ·rw [hk.block b (Array.getElem?_eq_some_iff.1 k2).1 hb2]
     exact k2
    ·refine ⟨hF x hx,Nat.lt_of_lt_of_le hlt hk.size,hk.block x hlt fun hx2=> ?_⟩
     have hx:C.free w own x:=hx
     exact hx.2.2 s (by rw [k5]; exact List.mem_cons_of_mem _ (List.mem_append_right _ (List.mem_append_left _ hx2)))
    ·rcases hx with hx|hx
     ·exact hnd1.2.2 x hx x (List.mem_append_left _ hx2) rfl
     ·exact hnd2.2.2 x hx2 x hx rfl
 |_=>cases hr
end Go.Vi
namespace Go.Vi
open Go.RowKit
section
variable {C:Ctx} {E:Env} {σ:St} {a:Act} {w w':World} {own:Nat→List Nat} {o:Oper} [Tabbed E C]
theorem qg {us:List U} {f:Eff} {lk:Nat→Ent} (h:(okE us).run lk=some f):f=⟨us,[]⟩:=(Q.ret_some h).symm
theorem qbU (a:Act) {d:Nat} (h:o.dst=some d) (v:Value):(a.put o.dst v).tmps=a.tmps.setIfInBounds d v:=by rw [h]; rfl
theorem qiO (h:qv C σ a.tmps w own) {x1:Op1} {v:Value} (ho:qas (sit C σ a.tmps w own) x1 v) (hw:∀m∈x1.a.mentions,m.2≤(qb σ m.1).1) (hs:∀s,x1.s=some s→x1.a≠ .undef→s<σ.length) {as:Bool} {f:Eff} (hpt:qm8 (sit C σ a.tmps w own)) (hpn:∀k∈E.pins,∃b,C.pn k=some b)
  (he:(qi8 E.pins o as x1).run (qb σ)=some f) (hd:∀u∈f.upd,u.s<σ.length) (hr:(execOp a.eval o).run C.P w= .ok (.value v) w):qbh C o a w (qa σ f.upd):=by
 obtain ⟨os,ov,oa⟩:=x1
 have trans:∀(s d:Nat) (av av':AV),os=some s→oa=av→o.dst=some d→s≠d→f.upd=[⟨d,true,av⟩,⟨s,true,av'⟩]→av.mentions=[]→
   (∀X:Sit,X.ver d=(qb σ d).1+1→X.tm d=a.tmps.getD s undef→qL X av' (a.tmps.getD s undef) [])→(∀m∈av'.mentions,m=(d,(qb σ d).1+1))→qbh C o a w (qa σ f.upd):=by
  intro s d av av' h1 h2 h3 h4 h5 h6 h7 h8
  subst h1; subst h2
  obtain ⟨e1,e2,e3⟩:=ho
  rw [h5] at hd⊢
  refine qe hr ?_
  rw [qbU a h3,e1]
  exact h.transfer (hd ⟨s,true,av'⟩ (by simp)) (hd ⟨d,true,oa⟩ (by simp)) h4 (by have e4:=e3; rw [e1] at e4; exact e4) h6 h7 h8
 unfold qi8 at he
 split at he
 ·rename_i s et e xs h1 h2
  simp only at h1 h2
  subst h1; subst h2
  split at he
  ·split at he
   ·rename_i d hdst
    split at he
    ·cases he
    ·rename_i hne
     rw [Q.run_get] at he
     have:=qg he
     subst this
     exact trans s d _ _ rfl rfl hdst hne rfl rfl (fun X h1 h2=>⟨rfl,fun _=>h2⟩) (fun m hm=>by simpa [AV.mentions] using hm)
   ·cases he
  ·have:=qg he
   subst this
   obtain ⟨e1,e2,e3⟩:=ho
   refine qe hr (h.dst0 hd ⟨rfl,fun _=>e1.symm⟩ (fun m hm=> ?_))
   simp [AV.mentions] at hm
   subst hm
   exact Nat.le_of_eq e2
 ·rename_i s et e xs h1 h2
  simp only at h1 h2
  subst h1; subst h2
  split at he
  ·split at he
   ·rename_i d hdst
    split at he
    ·cases he
    ·rename_i hne
     rw [Q.run_get] at he
     have:=qg he
     subst this
     exact trans s d _ _ rfl rfl hdst hne rfl rfl (fun X h1 h2=>⟨rfl,fun _=>h2⟩) (fun m hm=>by simpa [AV.mentions] using hm)
   ·cases he
  ·have:=qg he
   subst this
   obtain ⟨e1,e2,e3⟩:=ho
   refine qe hr (h.dst0 hd ⟨rfl,fun _=>e1.symm⟩ (fun m hm=> ?_))
   simp [AV.mentions] at hm
   subst hm
   exact Nat.le_of_eq e2
 ·rename_i s c h1 h2
  simp only at h1 h2
  subst h1; subst h2
  have hbox:∃b,v=ptr b 0:=by
   obtain ⟨_,_,b,_,_,_,e,_⟩:=ho
   exact ⟨b,e⟩
  split at he
  ·rename_i hpin
   have:=qg he
   subst this
   obtain ⟨b,hb⟩:=hpn s (by simpa using hpin)
   have h1:=hpt s b hb
   obtain ⟨e1,_,_⟩:=ho
   exact qe hr (h.dst0 hd ⟨rfl,b,hb,by rw [e1]; exact h1⟩ (fun m hm=>by cases hm))
  split at he
  ·split at he
   ·rename_i d hdst
    split at he
    ·cases he
    ·rename_i hne
     rw [Q.run_get] at he
     have:=qg he
     subst this
     obtain ⟨b,hb⟩:=hbox
     have hv:a.tmps.getD s undef=ptr b 0:=by rw [←hb]; exact ho.1.symm
     exact trans s d _ _ rfl rfl hdst hne rfl rfl (fun X h1 h2=>⟨rfl,fun _=>⟨b,by rw [h2,hv],hv⟩⟩) (fun m hm=>by simpa [AV.mentions] using hm)
   ·cases he
  ·have:=qg he
   subst this
   obtain ⟨e1,e2,e3⟩:=ho
   obtain ⟨b,hb⟩:=hbox
   refine qe hr (h.dst0 hd ⟨rfl,fun _=>⟨b,by rw [←e1,hb],hb⟩⟩ (fun m hm=> ?_))
   simp [AV.mentions] at hm
   subst hm
   exact Nat.le_of_eq e2
 ·rename_i s c h1 h2
  simp only at h1 h2
  subst h1; subst h2
  split at he
  ·rename_i d hdst
   split at he
   ·cases he
   ·rename_i hne
    have:=qg he
    subst this
    exact trans s d _ _ rfl rfl hdst hne rfl rfl (fun X h1 h2=>trivial) (fun m hm=>by cases hm)
  ·cases he
 ·rename_i s c h1 h2
  simp only at h1 h2
  subst h1; subst h2
  split at he
  ·rename_i d hdst
   split at he
   ·cases he
   ·rename_i hne
    have:=qg he
    subst this
    exact trans s d _ _ rfl rfl hdst hne rfl rfl (fun X h1 h2=>trivial) (fun m hm=>by cases hm)
  ·cases he
 ·rename_i s bv i0 o0 t0 w0 h1 h2
  simp only at h1 h2
  subst h1; subst h2
  split at he
  ·cases he
  ·have:=qg he
   subst this
   obtain ⟨e1,e2,e3⟩:=ho
   refine qe hr (h.dst0 hd ⟨rfl,fun _=>e1.symm⟩ (fun m hm=> ?_))
   simp [AV.mentions] at hm
   subst hm
   exact Nat.le_of_eq e2
 ·rename_i et e xs h1 h2
  simp only at h1 h2
  subst h1; subst h2
  have:=qg he
  subst this
  exact qe hr (h.dst0 hd ho (fun m hm=>by cases hm))
 ·rename_i s v0 h2
  simp only at h2
  subst h2
  split at he
  ·rename_i hcond
   simp only [Bool.and_eq_true,beq_iff_eq] at hcond
   rw [Q.run_get] at he
   split at he
   ·rename_i hv
    have:=qg he
    subst this
    have hu:a.tmps.getD s undef=v:=(ho.unowned rfl).2 hv
    refine qe hr ⟨own,?_⟩
    have e:(a.put o.dst v).tmps=a.tmps:=by
     rw [qbU a hcond.2,←hu]
     apply Array.ext'
     rw [Array.toList_setIfInBounds]
     by_cases hl:s<a.tmps.size
     ·rw [Array.getD_eq_getD_getElem?,Array.getElem?_eq_getElem hl,Option.getD_some]
      exact List.set_getElem_self (by simpa using hl)
     ·exact List.set_eq_of_length_le (by simpa using Nat.le_of_not_lt hl)
    show qv C σ _ w own
    rw [e]
    exact h
   ·cases he
  ·have:=qg he
   subst this
   exact qe hr (h.dst0 hd (ho.unowned rfl) hw)
 ·split at he
  ·rename_i hu
   have:=qg he
   subst this
   exact qe hr (h.dst0 hd (ho.unowned hu) hw)
  ·cases he
theorem qct (h:qv C σ a.tmps w own) (hpt:qm8 (sit C σ a.tmps w own)) {x1:Op1} {v:Value} (ho:qas (sit C σ a.tmps w own) x1 v) {s off:Nat} {v0:Option Nat} (hb:qdG x1=some (s,v0,off)) (hv:vOk (qb σ s).1 v0=true):∃b,a.tmps.getD s undef=ptr b 0∧v=ptr b off∧(v0=none→C.pn s=some b):=by
 obtain ⟨os,ov,oa⟩:=x1
 unfold qdG at hb
 split at hb
 ·rename_i s' c h1 h2
  simp only at h1 h2
  subst h1; subst h2
  injection hb with hb
  injection hb with h3 h4
  injection h4 with h4 h5
  subst h3; subst h5
  obtain ⟨e1,_,b,_,_,_,e2,_⟩:=ho
  exact ⟨b,by rw [←e2]; exact e1.symm,e2,fun h=>by rw [←h4] at h; cases h⟩
 ·rename_i s' v' off' h2
  simp only at h2
  subst h2
  injection hb with hb
  injection hb with h3 h4
  injection h4 with h4 h5
  subst h3; subst h4; subst h5
  obtain ⟨b,k1,k2⟩:=(ho.unowned rfl).2 (of_decide_eq_true hv)
  exact ⟨b,k1,k2,fun h=>by cases h⟩
 ·rename_i k' off' h2
  simp only at h2
  subst h2
  injection hb with hb
  injection hb with h3 h4
  injection h4 with h4 h5
  subst h3; subst h4; subst h5
  obtain ⟨_,b,k1,k2⟩:=ho.unowned rfl
  exact ⟨b,hpt _ b k1,k2,fun _=>k1⟩
 ·cases hb
theorem qk6 {v0:Option Nat} {s off b:Nat} {v:Value} (h:qv C σ a.tmps w own) (hv:vOk (qb σ s).1 v0=true) (h1:a.tmps.getD s undef=ptr b 0) (h2:v=ptr b off) (h3:v0=none→C.pn s=some b):
  qL (sit C σ a.tmps w own) (qmX s off v0) v []∧∀m∈(qmX s off v0).mentions,m.2≤(qb σ m.1).1:=by
 cases v0 with
 |some v0=>
  refine ⟨⟨rfl,fun _=>⟨b,h1,h2⟩⟩,fun m hm=> ?_⟩
  simp [qmX,AV.mentions] at hm
  subst hm
  exact Nat.le_of_eq (of_decide_eq_true hv).symm
 |none=>exact ⟨⟨rfl,b,h3 rfl,h2⟩,fun m hm=>by cases hm⟩
theorem qv.box (h:qv C σ a.tmps w own) {s:Nat} {c:BC} (hc:(qb σ s).2= .box c):∃(b:Nat) (cs:List Value) (bs':List Nat) (te:Nat),a.tmps.getD s undef=ptr b 0∧w.heap[b]? =some (.cells cs.toArray te (0,0))∧qP w (C.free w own) c cs bs'∧own s=b::bs':=by
 have:=h.at_ s
 rw [hc] at this
 exact this
theorem qc1 {b:Nat} {cs:List Value} {te:Nat} (h:w.heap[b]? =some (.cells cs.toArray te (0,0))) (j:Nat):w.cell? ⟨b,j,none⟩=cs[j]? :=by simp [World.cell?,h]
theorem qef {b off n:Nat} {cs:List Value} {te:Nat} (h:w.heap[b]? =some (.cells cs.toArray te (0,0))):qcU w ⟨b,off,none⟩ ((cs.drop off).take n):=by
 intro j u hj
 rw [qH,qc1 h]
 rw [List.getElem?_take] at hj
 split at hj
 ·rwa [List.getElem?_drop] at hj
 ·cases hj
def Lay (P:Program):List Field→Ty→Nat→Prop
 |[],.unit,_=>True
 |f::fs,.pair a b,off=>f.offset=off∧(∀w,(sizeOf f.type).run P w= .ok a.size w)∧Lay P fs b (off+a.size)
 |_,_,_=>False
def Ty.struct:Ty→Bool
 | .unit=>true
 | .pair _ _=>true
 |_=>false
def qd1:Ty→TypeDesc→Bool
 | .int k,.int k'=>decide (k'=k)
 | .bool,.bool=>true
 | .str,.string=>true
 |_,_=>false
structure qai (E:Env) (P:Program):Prop where
 ty:∀t u,E.ty t=some u→TyB P t u
 elem:∀t e,E.ty t=some (.slice e)→ElemB P E t e
 dflt:∀t e,E.ty t=some (.slice e)→∃i z,P.info? (E.etid t)=some i∧i.zero=some z∧(e.agg=false→∀cs,z≠ .agg cs)∧∀w F,Rep w F e e.dflt z.cells.toList
 size:∀t e,(E.ty t=some (.slice e)∨∃n,E.ty t=some (.arr n e))→(sizeOf (E.etid t)).run P=fun w=> .ok e.size w
 arr:∀t n e,E.ty t=some (.arr n e)→P.underlying t=some (.array n (E.etid t))
 struct:∀t T,E.ty t=some T→T.struct=true→∃fs z i,P.underlying t=some (.struct fs)∧P.info? t=some i∧i.zero=some z∧(∀w F,Rep w F T T.dflt z.cells.toList)∧Lay P fs.toList T 0
 str:∀t,E.ty t=some .str→P.underlying t=some .string
 int:∀t k,E.ty t=some (.int k)→P.underlying t=some (.int k)
 bool:∀t,E.ty t=some .bool→P.underlying t=some .bool
 err:∀t,E.ty t=some .err→∃ms,P.underlying t=some (.interface ms)
 opt:∀t e,E.ty t=some (.opt e)→∃u,P.underlying t=some (.pointer u)
 map:∀t k v,E.ty t=some (.map k v)→∃kn vn d i z,P.underlying t=some (.map kn vn)∧P.underlying kn=some d∧qd1 k d=true∧P.info? vn=some i∧i.zero=some z∧∀w F,qO w F v v.dflt z
 off:∀t f n,E.off t f=some n→∃fs fl,P.underlying t=some (.struct fs)∧fs[f]? =some fl∧fl.offset=n∧fl.type=E.fty t f∧∃i,P.info? fl.type=some i∧i.size≠0
 zero:∀t c,E.zero t=some c→∃i z,P.info? t=some i∧i.zero=some z∧∀w F,qP w F c z.cells.toList []
 eq:∀t u,E.eqok t=true→E.ty t=some u→EqB P t u
 mixed:P.follows .mixedOrders=true
theorem qai.elem' {E:Env} {P:Program} (hE:qai E P) {t:Nat} {e:Ty} (h:E.ty t=some (.slice e)):∃i z,P.underlying t=some (.slice (E.etid t))∧P.info? (E.etid t)=some i∧i.size=e.size∧i.zero=some z∧z.cells.size=e.size∧i.bytes=E.bytes (E.etid t)∧∀w F,Rep w F e e.dflt z.cells.toList:=by
 obtain ⟨i,z,h1,h2,h3,h4,h5⟩:=(hE.elem t e h).info
 obtain ⟨i',z',k1,k2,_,k3⟩:=hE.dflt t e h
 rw [h1] at k1
 injection k1 with k1
 subst k1
 rw [h3] at k2
 injection k2 with k2
 subst k2
 exact ⟨i,z,(hE.elem t e h).under,h1,h2,h3,h4,h5,k3⟩
theorem qv.rowAt {tm:Array Value} (h:qv C σ tm w own) {s:Nat} {fo:Option Nat} {et:Nat} {e:Ty} {xs:List e.den} {v:Value} (hr:(qb σ s).2.rowAt fo=some (et,⟨e,xs⟩)) (hv:qbd (sit C σ tm w own) s fo v):
  s<σ.length∧∃b1 b2 b3,qA w (C.free w own) et e xs v b2∧own s=b1++(b2++b3)∧(∀b,tm.getD s undef=ptr b 0→b∉b2)∧
   ∀(W:World) (n:BC) (b2':List Nat) (a':AV),qa5 (fun k=>k∈b2) w W→qP W (C.free w own) n [v] b2'→(qb σ s).2.swapRow n fo=some a'→qL { sit C σ tm w own with w:=W } a' (tm.getD s undef) (b1++(b2'++b3))∧a'.mentions=[]:=by
 have hat:=h.at_ s
 have hlt:s<σ.length:=by
  apply Classical.byContradiction
  intro hn
  have:qb σ s=(0,.undef):=by simp [qb,List.getD,List.getElem?_eq_none (Nat.le_of_not_lt hn)]
  rw [this] at hr
  cases hr
 refine ⟨hlt,?_⟩
 have hnd:=h.nodup s
 generalize hg:(qb σ s).2=g at hat hr⊢
 cases g with
 |own et' e' xs'=>
  cases fo with
  |some _=>cases hr
  |none=>
   simp only [AV.rowAt] at hr
   injection hr with hr
   injection hr with e1 e2
   subst e1
   injection e2 with e2 e3
   subst e2
   have e3:=eq_of_heq e3
   subst e3
   have hv:tm.getD s undef=v:=hv
   rw [hv] at hat⊢
   refine ⟨[],own s,[],hat,by simp,fun b hb=> ?_,fun W n b2' a' hk hn hsw=> ?_⟩
   ·obtain ⟨cells,g1⟩:=hat.hdr
    rcases g1.2 with ⟨g2,_⟩|⟨g',cap,cur,g2,_⟩ <;> (rw [g2] at hb; cases hb)
   ·cases n with
    |own et2 e2 xs2=>
     simp only [AV.swapRow] at hsw
     injection hsw with hsw
     subst hsw
     obtain ⟨v',hv',hn⟩:=hn
     injection hv' with hv'
     subst hv'
     refine ⟨?_,rfl⟩
     have e0:([]:List Nat)++(b2'++[])=b2':=by simp
     rw [e0]
     exact hn
    |hole k=>
     simp only [AV.swapRow] at hsw
     injection hsw with hsw
     subst hsw
     exact ⟨trivial,rfl⟩
    |_=>cases hsw
 |box c=>
  cases fo with
  |none=>cases hr
  |some off=>
   simp only [AV.rowAt] at hr
   obtain ⟨b,cs,bs',te,k1,k2,k3,k4⟩:=hat
   obtain ⟨v',p1,p2,p3,q1,q2,q3,q4⟩:=k3.row hr
   obtain ⟨b',_,m2,m3⟩:=hv
   have m2:tm.getD s undef=ptr b' 0:=m2
   rw [k1] at m2
   obtain ⟨rfl,_⟩:=qbk m2
   have hvv:v'=v:=by
    have:w.cell? ⟨b,off,none⟩=cs[off]? :=qc1 k2 off
    have m3:w.cell? ⟨b,off,none⟩=some v:=m3
    rw [this,q1] at m3
    injection m3
   subst hvv
   have hb2:b∉p2:=fun hb=>by
    rw [k4,q3] at hnd
    exact (List.nodup_cons.1 hnd).1 (List.mem_append_right _ (List.mem_append_left _ hb))
   refine ⟨b::p1,p2,p3,q2,by rw [k4,q3]; rfl,fun b0 hb0=> ?_,fun W n b2' a' hk hn hsw=> ?_⟩
   ·rw [k1] at hb0
    obtain ⟨rfl,_⟩:=qbk hb0
    exact hb2
   ·simp only [AV.swapRow,Option.map_eq_some_iff] at hsw
    obtain ⟨c',c1,rfl⟩:=hsw
    have hin:∀x,x∈p2→x∈own s:=fun x hx=>by rw [k4,q3]; exact List.mem_cons_of_mem _ (List.mem_append_right _ (List.mem_append_left _ hx))
    refine ⟨⟨b,cs,p1++(b2'++p3),te,k1,?_,q4 n c' b2' (fun x hx hlt=>⟨hx,Nat.lt_of_lt_of_le hlt hk.size,hk.block x hlt fun hx2=>hx.2.2 s (hin x hx2)⟩) (fun x hx hlt=>hk.block x hlt fun hx2=> ?_) c1 hn,rfl⟩,rfl⟩
    ·show W.heap[b]? =_
     rw [hk.block b (Array.getElem?_eq_some_iff.1 k2).1 hb2]
     exact k2
    ·rw [k4,q3] at hnd
     have hnd:=(List.nodup_cons.1 hnd).2
     rw [List.nodup_append] at hnd
     obtain ⟨_,n2,n3⟩:=hnd
     rcases hx with hx|hx
     ·exact n3 x hx x (List.mem_append_left _ hx2) rfl
     ·rw [List.nodup_append] at n2
      exact n2.2.2 x hx2 x hx rfl
 |_=>cases hr
theorem qdq {X:Sit} {s v0 off:Nat} {u:Ty} {v:Value} {bs:List Nat} (h:qL X (.bref s v0 off u) v bs) (hag:u.agg=false) (hv:X.ver s=v0):qbd X s (some off) v:=by
 obtain ⟨b,h1,h2,h3⟩:=h.2 hv
 refine ⟨b,h1,h2,?_⟩
 rcases h3 with ⟨h3,_⟩|⟨_,h3⟩
 ·rw [hag] at h3; cases h3
 ·exact h3
theorem qA.cells {w:World} {F:Nat→Prop} {et:Nat} {e:Ty} {xs:List e.den} {g n cap:Nat} {bs:List Nat} (h:qA w F et e xs (.slice (some ⟨g,0,none⟩) n cap) bs):
  ∃cells:List Value,cells.length=n * e.size∧xs.length=n∧(∀j x,cells[j]? =some x→w.cell? ((⟨g,0,none⟩:Addr).add j)=some x)∧
   ∀(i:Nat) (x:e.den) (off:Nat) (u:Ty) (y:u.den),xs[i]? =some x→e.sub x off u=some y→(etM et).hits off (off+u.size)=false→
    off+u.size≤((cells.drop (i * e.size)).take e.size).length∧Rep w F u y ((((cells.drop (i * e.size)).take e.size).drop off).take u.size):=by
 obtain ⟨cells,bss,h1,h2,h3,h4⟩:=h
 have hn:xs.length=n:=by
  rcases h1.2 with ⟨h4,_⟩|⟨g',cap',cur,h4,_⟩
  ·cases h4
  ·injection h4 with _ h5 _; exact h5.symm
 rw [hn] at h1
 refine ⟨cells,h1.1,hn,h1.cells rfl,fun i x off u y hi hs hm=> ?_⟩
 have hib:i<bss.length:=by rw [h2]; exact (List.getElem?_eq_some_iff.1 hi).1
 exact qix e (o:=0) (h4 i x _ hi (List.getElem?_eq_getElem hib)) hs (by rw [Nat.zero_add]; exact hm)
theorem Rep.elem {w:World} {F:Nat→Prop} {n:Nat} {e:Ty} {xs:List e.den} {cs:List Value} (h:Rep w F (.arr n e) xs cs) {i:Nat} (hi:i<n):
  ∃x,xs[i]? =some x∧Rep w F e x ((cs.drop (i * e.size)).take e.size)∧i * e.size+e.size≤cs.length:=by
 obtain ⟨hl,css,hcl,rfl,hx⟩:=h
 have h1:xs[i]? =some (xs[i]'(by omega)):=List.getElem?_eq_getElem (by omega)
 have h2:css[i]? =some (css[i]'(by omega)):=List.getElem?_eq_getElem (by omega)
 obtain ⟨g1,g2⟩:=qat (qgj (by omega) hx) h2
 exact ⟨_,h1,by rw [g1]; exact hx i _ _ h1 h2,g2⟩
theorem qks (hpt:qm8 (sit C σ a.tmps w own)) {s off n:Nat} {v0:Option Nat} {e:Ty} {i:Int} {o2:Nat} {v:Value} (ho:qL (sit C σ a.tmps w own) (.parr s v0 off n e i o2) v []) (hv:vOk (qb σ s).1 v0=true):
  0≤i∧i<(n:Int)∧∃b,a.tmps.getD s undef=ptr b 0∧v=ptr b (off+i.toNat * e.size+o2)∧(v0=none→C.pn s=some b):=by
 obtain ⟨_,h1,h2,h3⟩:=ho
 refine ⟨h1,h2,?_⟩
 cases v0 with
 |some v0=>
  obtain ⟨b,k1,k2⟩:=h3 (of_decide_eq_true hv)
  exact ⟨b,k1,k2,fun h=>by cases h⟩
 |none=>
  obtain ⟨b,k1,k2⟩:=h3
  exact ⟨b,hpt _ b k1,k2,fun _=>k1⟩
theorem qm3 {s off n:Nat} {v0:Option Nat} {e:Ty} {i:Int} {o2 b:Nat} {v:Value} (hv:vOk (qb σ s).1 v0=true) (i0:0≤i) (i1:i<(n:Int)) (h1:a.tmps.getD s undef=ptr b 0) (h2:v=ptr b (off+i.toNat * e.size+o2)) (h3:v0=none→C.pn s=some b):
  qL (sit C σ a.tmps w own) (.parr s v0 off n e i o2) v []∧∀m∈(AV.parr s v0 off n e i o2).mentions,m.2≤(qb σ m.1).1:=by
 cases v0 with
 |some v0=>
  refine ⟨⟨rfl,i0,i1,fun _=>⟨b,h1,h2⟩⟩,fun m hm=> ?_⟩
  simp [AV.mentions] at hm
  subst hm
  exact Nat.le_of_eq (of_decide_eq_true hv).symm
 |none=>exact ⟨⟨rfl,i0,i1,b,h3 rfl,h2⟩,fun m hm=>by cases hm⟩
theorem qbd.inj {X:Sit} {s:Nat} {fo:Option Nat} {v v':Value} (h:qbd X s fo v) (h':qbd X s fo v'):v=v':=by
 cases fo with
 |none=>exact (show X.tm s=v from h).symm.trans h'
 |some o=>
  obtain ⟨b,_,h1,h2⟩:=h
  obtain ⟨b',_,h3,h4⟩:=h'
  rw [h1] at h3
  obtain ⟨rfl,_⟩:=qbk h3
  rw [h2] at h4
  injection h4
theorem qnk (h:qv C σ a.tmps w own) {t s v0 sz off:Nat} {u:Ty} {fo:Option Nat} {i:Int} {v:Value} (hT:TyB C.P t u) (hp:qL (sit C σ a.tmps w own) (.prow s v0 fo sz i off) v []) (hv:(qb σ s).1=v0) {f:Eff}
  (he:(qoB o u s (qb σ s) fo sz i off).run (qb σ)=some f) (hd:∀u∈f.upd,u.s<σ.length) (hx:(execOp a.eval o).run C.P w=((Instr.loadAt t v).run C.P w).andThen fun v w'=> .ok (.value v) w'):qbh C o a w (qa σ f.upd):=by
 unfold qoB at he
 split at he
 case h_2=>cases he
 rename_i e' et e xs d hrow hdst
 split at he
 case isFalse=>cases he
 rename_i hcond
 obtain ⟨hsz,hds,hna⟩:=hcond
 subst hsz
 split at he
 case h_2=>cases he
 rename_i et' ys hat hsub
 split at he
 case isFalse=>cases he
 rename_i hmk
 rw [Q.run_get] at he
 have:=qg he
 subst this
 obtain ⟨g,n,cap,k1,k2,k3,rfl⟩:=hp.2 hv
 obtain ⟨hsl,c,bi,nbS,q1,q2,q3,q4,q5⟩:=h.holeIn hrow k1 k2 k3 hna hsub hat
 have hdl:d<σ.length:=hd ⟨d,true,.own et' e' ys⟩ (by simp)
 have hone:mkV (.slice e') [c]=c:=rfl
 have hcell:qcU w ⟨g,i.toNat * e.size+off,none⟩ [c]:=by
  intro j x hj
  cases j with
  |zero=>
   injection hj with hj
   subst hj
   have:(⟨g,i.toNat * e.size+off,none⟩:Addr).add 0=⟨g,i.toNat * e.size+off,none⟩:=by simp [Addr.add]
   rw [this]; exact q1
  |succ j=>cases hj
 have hrun:(execOp a.eval o).run C.P w= .ok (.value c) w:=by
  rw [hx,show ptr g (i.toNat * e.size+off)= .pointer (some ⟨g,i.toNat * e.size+off,none⟩) from rfl,qbL hT hcell rfl]
  rfl
 refine qe hrun ?_
 rw [qbU a hdst]
 have hnd:=h.nodup s
 have hnd':(bi++nbS).Nodup:=q3.nodup_iff.1 hnd
 have n1:=List.nodup_append.1 hnd'
 have inS:∀b,b∈bi∨b∈nbS→b∈own s:=fun b hb=>q3.mem_iff.2 (List.mem_append.2 hb)
 let nb:Nat→List Nat:=fun x=>if x=d then bi else nbS
 have nD:nb d=bi:=by simp [nb]
 have nS:nb s=nbS:=by simp [nb,Ne.symm hds]
 have mem:∀u:U,u∈([⟨s,false,.hol (qb σ s).2 fo i off d ((qb σ d).1+1)⟩,⟨d,true,.own et' e' ys⟩]:List U)→u=⟨s,false,.hol (qb σ s).2 fo i off d ((qb σ d).1+1)⟩∨u=⟨d,true,.own et' e' ys⟩:=fun u hu=>by simpa using hu
 have hnn:(([⟨s,false,.hol (qb σ s).2 fo i off d ((qb σ d).1+1)⟩,⟨d,true,.own et' e' ys⟩]:List U).map (·.s)).Nodup:=by simp [Ne.symm hds]
 have hvd:(qb (qa σ [⟨s,false,.hol (qb σ s).2 fo i off d ((qb σ d).1+1)⟩,⟨d,true,.own et' e' ys⟩]) d).1=(qb σ d).1+1:=by
  have:=qaV (σ:=σ) _ hnn (u:=⟨d,true,.own et' e' ys⟩) (by simp) hdl
  rw [this]; rfl
 refine Exists.elim (h.multi (tm':=a.tmps.setIfInBounds d c) (w':=w) [⟨s,false,.hol (qb σ s).2 fo i off d ((qb σ d).1+1)⟩,⟨d,true,.own et' e' ys⟩] nb hnn (fun u hu=>hd u hu) (by simp) (fun x hxx=>qB _ _ fun e=>hxx (by rw [e]; simp)) (fun u hu=> ?_) (qa5.refl _ _) (fun u hu=> ?_) (fun u hu u' hu' b hb hb'=> ?_) (fun X' hP hpn hw hF hF2 hver htm u hu=> ?_) (fun u hu m hm=> ?_)) fun own' hfin=>⟨own',hfin.1⟩
 ·rcases mem u hu with rfl|rfl
  ·refine .inr ⟨qB _ _ (Ne.symm hds),fun b hb hp=>⟨?_,rfl⟩⟩
   show b∈nb s
   rw [nS]
   exact q4 b hb hp
  ·exact .inl rfl
 ·rcases mem u hu with rfl|rfl
  ·simp only [nS]
   exact ⟨fun b hb=> .inr ⟨⟨s,false,.hol (qb σ s).2 fo i off d ((qb σ d).1+1)⟩,by simp,inS b (.inr hb)⟩,n1.2.1⟩
  ·simp only [nD]
   exact ⟨fun b hb=> .inr ⟨⟨s,false,.hol (qb σ s).2 fo i off d ((qb σ d).1+1)⟩,by simp,inS b (.inl hb)⟩,n1.1⟩
 ·rcases mem u hu with rfl|rfl <;> rcases mem u' hu' with rfl|rfl
  ·rfl
  ·simp only [nS] at hb
   simp only [nD] at hb'
   exact (n1.2.2 b hb' b hb rfl).elim
  ·simp only [nS] at hb'
   simp only [nD] at hb
   exact (n1.2.2 b hb b hb' rfl).elim
  ·rfl
 ·rcases mem u hu with rfl|rfl
  ·simp only [nS]
   rw [qB _ _ (Ne.symm hds)]
   exact q5 X' d ((qb σ d).1+1) hw hF (by rw [htm,qaj _ _ (by rw [h.size]; exact hdl)])
  ·simp only [nD]
   rw [qaj _ _ (by rw [h.size]; exact hdl)]
   show qA X'.w X'.F et' e' ys c bi
   rw [hw]
   exact (q2.to hmk).keep (fun b hb hlt=>⟨hF b hb,hlt,rfl⟩) (fun _ _ _=>rfl)
 ·rcases mem u hu with rfl|rfl
  ·have hm:m=(d,(qb σ d).1+1):=by simpa [AV.mentions] using hm
   subst hm
   exact Nat.le_of_eq hvd.symm
  ·cases hm
theorem qdM.flatCells {w:World} {F:Nat→Prop} {et:Nat} {e:Ty} {hl:Int×Nat×Nat} {xs:List e.den} {g n cap:Nat} {bs:List Nat} (h:qdM w F et e hl xs (.slice (some ⟨g,0,none⟩) n cap) bs):
  ∃cells:List Value,cells.length=n * e.size∧xs.length=n∧(∀j x,cells[j]? =some x→w.cell? ((⟨g,0,none⟩:Addr).add j)=some x)∧
   ∀(i:Nat) (x:e.den) (off:Nat) (u:Ty) (y:u.den),xs[i]? =some x→e.sub x off u=some y→(etM et).hits off (off+u.size)=false→
    off+u.size≤((cells.drop (i * e.size)).take e.size).length∧Rep w F u y ((((cells.drop (i * e.size)).take e.size).drop off).take u.size):=by
 obtain ⟨cells,bss,h1,h2,h3,h4⟩:=h
 have hn:xs.length=n:=by
  rcases h1.2 with ⟨h4,_⟩|⟨g',cap',cur,h4,_⟩
  ·cases h4
  ·injection h4 with _ h5 _; exact h5.symm
 rw [hn] at h1
 refine ⟨cells,h1.1,hn,h1.cells rfl,fun i x off u y hi hs hm=> ?_⟩
 have hib:i<bss.length:=by rw [h2]; exact (List.getElem?_eq_some_iff.1 hi).1
 exact qix e (o:=0) (h4 i x _ hi (List.getElem?_eq_getElem hib)) hs (by rw [Nat.zero_add]; exact hm)
theorem qmv {t:Nat} {u:Ty} (hT:TyB C.P t u) {g i off sz n:Nat} {cells:List Value} (g3:∀j x,cells[j]? =some x→w.cell? ((⟨g,0,none⟩:Addr).add j)=some x) (q1:off+u.size≤((cells.drop (i * sz)).take sz).length):
  (Instr.loadAt t (ptr g (i * sz+off))).run C.P w= .ok (mkV u ((((cells.drop (i * sz)).take sz).drop off).take u.size)) w:=by
 rw [show ptr g (i * sz+off)= .pointer (some ⟨g,i * sz+off,none⟩) from rfl]
 refine qbL hT ?_ (by rw [List.length_take,List.length_drop]; omega)
 intro j z hj
 rw [qH]
 rw [List.getElem?_take] at hj
 split at hj
 ·rw [List.getElem?_drop,List.getElem?_take] at hj
  split at hj
  ·rw [List.getElem?_drop] at hj
   have:=g3 _ _ hj
   rw [qH,Nat.zero_add] at this
   rw [←this]
   congr 2
   omega
  ·cases hj
 ·cases hj
theorem qky (h:qv C σ a.tmps w own) {t s v0 sz off:Nat} {u:Ty} {fo:Option Nat} {i:Int} {v:Value} (hT:TyB C.P t u) (hp:qL (sit C σ a.tmps w own) (.prow s v0 fo sz i off) v []) (hv:(qb σ s).1=v0) {f:Eff}
  (he:(qiu o u fo sz i off (qb σ s).2).run (qb σ)=some f) (hd:∀u∈f.upd,u.s<σ.length) (hc:∀b∈f.chk,b=true) (hx:(execOp a.eval o).run C.P w=((Instr.loadAt t v).run C.P w).andThen fun v w'=> .ok (.value v) w'):qbh C o a w (qa σ f.upd):=by
 unfold qiu at he
 split at he
 case h_2=>cases he
 rename_i av fo' i' o1 t0 v1 hs
 split at he
 case isFalse=>cases he
 rename_i hfo
 subst hfo
 obtain ⟨g,n,cap,k1,k2,k3,rfl⟩:=hp.2 hv
 split at he
 ·rename_i hoff
  obtain ⟨rfl,hag⟩:=hoff
  rw [Q.run_get] at he
  split at he
  case isFalse=>cases he
  rename_i hver
  split at he
  case h_2=>cases he
  rename_i et e xs hrow
  split at he
  case isFalse=>cases he
  rename_i hsz
  subst hsz
  have:=Q.ret_some he
  subst this
  have hii:i=i':=by
   have:=hc (eqI i i') (by simp)
   simpa [qeb] using this
  subst hii
  obtain ⟨g',n',cap',b1,b2,b3,j1,j2,j3,j4,j5,j6,j7,j8⟩:=h.holRow hs hrow
  have e1:=k1.inj j4
  injection e1 with e1 e2 e3
  injection e1 with e1
  injection e1 with e1 _ _
  subst e1
  have hcell:=j5 hver
  have hus:u.size=1:=by cases u <;> simp [Ty.agg] at hag <;> rfl
  have hrun:(execOp a.eval o).run C.P w= .ok (.value (a.tmps.getD t0 undef)) w:=by
   rw [hx,show ptr g (i.toNat * e.size+off)= .pointer (some ⟨g,i.toNat * e.size+off,none⟩) from rfl,qbL hT (cs:=[a.tmps.getD t0 undef]) ?_ (by rw [hus]; rfl)]
   ·simp [mkV,hag]
   ·intro j x hj
    cases j with
    |zero=>
     injection hj with hj
     subst hj
     have:(⟨g,i.toNat * e.size+off,none⟩:Addr).add 0=⟨g,i.toNat * e.size+off,none⟩:=by simp [Addr.add]
     rw [this]; exact hcell
    |succ j=>cases hj
  refine qe hrun (h.dst0 hd ⟨rfl,fun _=>rfl⟩ (fun m hm=> ?_))
  have hm:m=(t0,v1):=by simpa [AV.mentions] using hm
  subst hm
  exact Nat.le_of_eq hver.symm
 ·split at he
  case h_2=>cases he
  rename_i et e xs hrow
  split at he
  case isFalse=>cases he
  rename_i hcond
  obtain ⟨hsz,hmk⟩:=hcond
  subst hsz
  split at he
  case h_2=>cases he
  rename_i y hy
  have:=qg he
  subst this
  obtain ⟨g',n',cap',b1,b2,b3,j1,j2,j3,j4,j5,j6,j7,j8⟩:=h.holRow hs hrow
  have e1:=k1.inj j4
  injection e1 with e1 e2 e3
  injection e1 with e1
  injection e1 with e1 _ _
  subst e1; subst e2; subst e3
  obtain ⟨cells,g1,g2,g3,g4⟩:=j3.flatCells
  have hi:i.toNat<xs.length:=by omega
  rw [show qbt xs i e.dflt=xs[i.toNat] from qbZ (List.getElem?_eq_getElem hi)] at hy
  obtain ⟨q1,q2⟩:=g4 i.toNat xs[i.toNat] off _ y (List.getElem?_eq_getElem hi) hy hmk
  refine qZ h ?_ hd (.ofCells q2)
  rw [hx,qmv (n:=n) hT g3 q1]
  rfl
theorem qnH (h:qv C σ a.tmps w own) {s off:Nat} {u:Ty} {c:BC} {b:Nat} {cs:List Value} {bs':List Nat} {te:Nat} (hcs:(qb σ s).2= .box c) (h1:a.tmps.getD s undef=ptr b 0) (h2:w.heap[b]? =some (.cells cs.toArray te (0,0))) (h3:qP w (C.free w own) c cs bs') (h4:own s=b::bs')
  (hrun:(execOp a.eval o).run C.P w= .ok (.value (mkV u ((cs.drop off).take u.size))) w) {q:Q Eff} (hq:qow E o u s c off=some q) {f:Eff} (he:q.run (qb σ)=some f) (hd:∀u∈f.upd,u.s<σ.length):qbh C o a w (qa σ f.upd):=by
 unfold qow at hq
 split at hq
 case h_2=>cases hq
 rename_i d et e xs hdst hrow
 split at hq
 case isFalse=>cases hq
 rename_i hcond
 obtain ⟨_,hds,hag⟩:=hcond
 injection hq with hq
 subst hq
 rw [Q.run_get] at he
 have:=qg he
 subst this
 obtain ⟨v,p1,p2,p3,r1,r2,r3,r4⟩:=h3.row hrow
 have hus:u.size=1:=by cases u <;> simp [Ty.agg] at hag <;> rfl
 have hlt:off<cs.length:=(List.getElem?_eq_some_iff.1 r1).1
 have hmk:mkV u ((cs.drop off).take u.size)=v:=by
  rw [mkV,if_neg (by simp [hag]),hus,List.drop_eq_getElem_cons hlt]
  have:cs[off]=v:=(List.getElem?_eq_some_iff.1 r1).2
  simp [this]
 rw [hmk] at hrun
 have hsl:s<σ.length:=hd ⟨s,false,.bhl c off d ((qb σ d).1+1)⟩ (by simp)
 have hdl:d<σ.length:=hd ⟨d,true,.own et e xs⟩ (by simp)
 refine qe hrun ?_
 rw [qbU a hdst]
 have hnd:=h.nodup s
 rw [h4,r3] at hnd
 have n0:=List.nodup_cons.1 hnd
 have n1:=List.nodup_append.1 n0.2
 have n2:=List.nodup_append.1 n1.2.1
 let nbS:List Nat:=b::(p1++p3)
 have hperm:(own s).Perm (p2++nbS):=by
  rw [h4,r3]
  refine List.perm_iff_count.2 fun x=> ?_
  simp only [nbS,List.count_append,List.count_cons]
  omega
 have hnn:(p2++nbS).Nodup:=hperm.nodup_iff.1 (h.nodup s)
 have m1:=List.nodup_append.1 hnn
 have inS:∀x,x∈p2∨x∈nbS→x∈own s:=fun x hx=>hperm.mem_iff.2 (List.mem_append.2 hx)
 let nb:Nat→List Nat:=fun x=>if x=d then p2 else nbS
 have nD:nb d=p2:=by simp [nb]
 have nS:nb s=nbS:=by simp [nb,Ne.symm hds]
 have mem:∀u:U,u∈([⟨s,false,.bhl c off d ((qb σ d).1+1)⟩,⟨d,true,.own et e xs⟩]:List U)→u=⟨s,false,.bhl c off d ((qb σ d).1+1)⟩∨u=⟨d,true,.own et e xs⟩:=fun u hu=>by simpa using hu
 have hnl:(([⟨s,false,.bhl c off d ((qb σ d).1+1)⟩,⟨d,true,.own et e xs⟩]:List U).map (·.s)).Nodup:=by simp [Ne.symm hds]
 have hvd:(qb (qa σ [⟨s,false,.bhl c off d ((qb σ d).1+1)⟩,⟨d,true,.own et e xs⟩]) d).1=(qb σ d).1+1:=by
  have:=qaV (σ:=σ) _ hnl (u:=⟨d,true,.own et e xs⟩) (by simp) hdl
  rw [this]; rfl
 refine Exists.elim (h.multi (tm':=a.tmps.setIfInBounds d v) (w':=w) [⟨s,false,.bhl c off d ((qb σ d).1+1)⟩,⟨d,true,.own et e xs⟩] nb hnl (fun u hu=>hd u hu) (by simp) (fun x hxx=>qB _ _ fun e=>hxx (by rw [e]; simp)) (fun u hu=> ?_) (qa5.refl _ _) (fun u hu=> ?_) (fun u hu u' hu' b hb hb'=> ?_) (fun X' hP hpn hw hF hF2 hver htm u hu=> ?_) (fun u hu m hm=> ?_)) fun own' hfin=>⟨own',hfin.1⟩
 ·rcases mem u hu with rfl|rfl
  ·refine .inr ⟨qB _ _ (Ne.symm hds),fun x hx hp=>⟨?_,rfl⟩⟩
   show x∈nb s
   rw [nS]
   rw [h1] at hp
   obtain ⟨rfl,_⟩:=qbk hp
   exact List.mem_cons_self
  ·exact .inl rfl
 ·rcases mem u hu with rfl|rfl
  ·simp only [nS]
   exact ⟨fun b hb=> .inr ⟨⟨s,false,.bhl c off d ((qb σ d).1+1)⟩,by simp,inS b (.inr hb)⟩,m1.2.1⟩
  ·simp only [nD]
   exact ⟨fun b hb=> .inr ⟨⟨s,false,.bhl c off d ((qb σ d).1+1)⟩,by simp,inS b (.inl hb)⟩,m1.1⟩
 ·rcases mem u hu with rfl|rfl <;> rcases mem u' hu' with rfl|rfl
  ·rfl
  ·simp only [nS] at hb
   simp only [nD] at hb'
   exact (m1.2.2 _ hb' _ hb rfl).elim
  ·simp only [nS] at hb'
   simp only [nD] at hb
   exact (m1.2.2 _ hb _ hb' rfl).elim
  ·rfl
 ·rcases mem u hu with rfl|rfl
  ·simp only [nS]
   rw [qB _ _ (Ne.symm hds)]
   refine ⟨b,cs,te,p1,p3,v,h1,by rw [hw]; exact h2,r1,?_,rfl,fun _=>by rw [htm,qaj _ _ (by rw [h.size]; exact hdl)]⟩
   rw [hw]
   intro w2 F2 n' c' b2' f1 f2 f3 f4
   exact r4 n' c' b2' (fun x hx hlt=>f1 x (hF x hx) hlt) f2 f3 f4
  ·simp only [nD]
   rw [qaj _ _ (by rw [h.size]; exact hdl)]
   show qA X'.w X'.F et e xs v p2
   rw [hw]
   exact r2.keep (fun b hb hlt=>⟨hF b hb,hlt,rfl⟩) (fun _ _ _=>rfl)
 ·rcases mem u hu with rfl|rfl
  ·have hm:m=(d,(qb σ d).1+1):=by simpa [AV.mentions] using hm
   subst hm
   exact Nat.le_of_eq hvd.symm
  ·cases hm
theorem qnG (h:qv C σ a.tmps w own) {s off:Nat} {u:Ty} {c:BC} {b:Nat} {cs:List Value} {bs':List Nat} (h3:qP w (C.free w own) c cs bs') (h4:own s=b::bs')
  (hrun:(execOp a.eval o).run C.P w= .ok (.value (mkV u ((cs.drop off).take u.size))) w) {q:Q Eff} (hq:qoE E o u s c off=some q) {f:Eff} (he:q.run (qb σ)=some f) (hd:∀u∈f.upd,u.s<σ.length):qbh C o a w (qa σ f.upd):=by
 unfold qoE at hq
 split at hq
 case h_2=>cases hq
 rename_i d hdst
 split at hq
 case isFalse=>cases hq
 rename_i hcond
 obtain ⟨_,hds,hag,rfl,hsz⟩:=hcond
 injection hq with hq
 subst hq
 have:=qg he
 subst this
 have hlen:=h3.length
 rw [List.drop_zero,List.take_of_length_le (by omega),mkV,if_pos hag] at hrun
 have hdl:d<σ.length:=hd ⟨d,true,.agg c⟩ (by simp)
 refine qe hrun ?_
 rw [qbU a hdst]
 have hnd:=h.nodup s
 rw [h4] at hnd
 have n0:=List.nodup_cons.1 hnd
 let nb:Nat→List Nat:=fun x=>if x=d then bs' else []
 have nD:nb d=bs':=by simp [nb]
 have nS:nb s=[]:=by simp [nb,Ne.symm hds]
 have mem:∀u:U,u∈([⟨s,true,.undef⟩,⟨d,true,.agg c⟩]:List U)→u=⟨s,true,.undef⟩∨u=⟨d,true,.agg c⟩:=fun u hu=>by simpa using hu
 have hnl:(([⟨s,true,.undef⟩,⟨d,true,.agg c⟩]:List U).map (·.s)).Nodup:=by simp [Ne.symm hds]
 refine Exists.elim (h.multi (tm':=a.tmps.setIfInBounds d (.agg cs.toArray)) (w':=w) [⟨s,true,.undef⟩,⟨d,true,.agg c⟩] nb hnl (fun u hu=>hd u hu) (by simp) (fun x hxx=>qB _ _ fun e=>hxx (by rw [e]; simp)) (fun u hu=> ?_) (qa5.refl _ _) (fun u hu=> ?_) (fun u hu u' hu' b hb hb'=> ?_) (fun X' hP hpn hw hF hF2 hver htm u hu=> ?_) (fun u hu m hm=> ?_)) fun own' hfin=>⟨own',hfin.1⟩
 ·rcases mem u hu with rfl|rfl
  ·exact .inl rfl
  ·exact .inl rfl
 ·rcases mem u hu with rfl|rfl
  ·simp only [nS]
   exact ⟨fun b hb=>(by cases hb),List.nodup_nil⟩
  ·simp only [nD]
   exact ⟨fun b hb=> .inr ⟨⟨s,true,.undef⟩,by simp,by show b∈own s; rw [h4]; exact List.mem_cons_of_mem _ hb⟩,n0.2⟩
 ·rcases mem u hu with rfl|rfl <;> rcases mem u' hu' with rfl|rfl
  ·rfl
  ·simp only [nS] at hb
   cases hb
  ·simp only [nS] at hb'
   cases hb'
  ·rfl
 ·rcases mem u hu with rfl|rfl
  ·trivial
  ·simp only [nD]
   rw [qaj _ _ (by rw [h.size]; exact hdl)]
   refine ⟨cs,rfl,?_⟩
   rw [hw]
   exact h3.keep (fun b hb hlt=>⟨hF b hb,hlt,rfl⟩) (fun _ _ _=>rfl)
 ·rcases mem u hu with rfl|rfl <;> cases hm
theorem qnL (hE:qai E C.P) (h:qv C σ a.tmps w own) (hpt:qm8 (sit C σ a.tmps w own)) {t:Nat} {x1:Op1} {p:Value} (ho:qas (sit C σ a.tmps w own) x1 p) {f:Eff}
  (he:(qoy E o t x1).run (qb σ)=some f) (hd:∀u∈f.upd,u.s<σ.length) (hck:∀b∈f.chk,b=true) (hx:(execOp a.eval o).run C.P w=((Instr.loadAt t p).run C.P w).andThen fun v w'=> .ok (.value v) w'):qbh C o a w (qa σ f.upd):=by
 unfold qoy at he
 split at he
 ·cases he
 rename_i u hu
 have hT:=hE.ty t u hu
 split at he
 ·rename_i s v0 off hb
  rw [Q.run_get] at he
  split at he
  ·rename_i hv
   split at he
   ·rename_i c hc
    obtain ⟨b,hp,rfl,_⟩:=qct h hpt ho hb hv
    obtain ⟨b',cs,bs',te,h1,h2,h3,h4⟩:=h.box hc
    rw [hp] at h1
    obtain ⟨rfl,_⟩:=qbk h1
    have run:∀y fl,c.get off u=some (y,fl)→(execOp a.eval o).run C.P w= .ok (.value (mkV u ((cs.drop off).take u.size))) w:=fun y fl hg=>by
     obtain ⟨g1,_,_⟩:=h3.get hg
     rw [hx,show ptr b off= .pointer (some ⟨b,off,none⟩) from rfl,qbL hT (qef (n:=u.size) h2) (by rw [List.length_take,List.length_drop]; omega)]
     rfl
    split at he
    ·rename_i y hg
     have:=qg he
     subst this
     obtain ⟨g1,_,g3⟩:=h3.get hg
     exact qZ h (run _ _ hg) hd (.ofCells (g3 rfl))
    ·rename_i y hg
     split at he
     ·rename_i q hq
      exact qnG h h3 h4 (run _ _ hg) hq he hd
     split at he
     ·rename_i q hq
      exact qnH h hc hp h2 h3 h4 (run _ _ hg) hq he hd
     have:=qg he
     subst this
     obtain ⟨g1,_,_⟩:=h3.get hg
     refine qe (run _ _ hg) (h.dst0 hd ⟨rfl,fun _=>⟨b,?_,hp,?_⟩⟩ (fun m hm=> ?_))
     ·show b∈own s
      rw [h4]; exact List.mem_cons_self
     ·have hl:((cs.drop off).take u.size).length=u.size:=by rw [List.length_take,List.length_drop]; omega
      cases hag:u.agg with
      |true=>exact .inl ⟨hag,_,by simp [mkV,hag],hl,qef h2⟩
      |false=>
       have hs:u.size=1:=by cases u <;> simp [Ty.agg] at hag <;> rfl
       refine .inr ⟨hag,?_⟩
       show w.cell? _=_
       have hlt:off<cs.length:=by omega
       rw [qc1 h2,mkV,if_neg (by simp [hag]),hs,List.drop_eq_getElem_cons hlt,List.getElem?_eq_getElem hlt]
       rfl
     ·simp [AV.mentions] at hm
      subst hm
      exact Nat.le_refl _
    ·cases he
   ·cases he
  ·cases he
 ·split at he
  ·rename_i s v0 fo sz i off hxa
   rw [Q.run_get] at he
   split at he
   ·rename_i hv
    split at he
    ·rename_i et e xs hown
     split at he
     ·rename_i hsz
      obtain ⟨hsz,hmk⟩:=hsz
      subst hsz
      split at he
      ·rename_i y hs
       have:=qg he
       subst this
       obtain ⟨_,hp⟩:=hxa ▸ ho.unowned (by rw [hxa]; rfl)
       obtain ⟨g,n,cap,k1,k2,k3,rfl⟩:=hp hv
       obtain ⟨_,b1,b2,b3,hrow,_⟩:=h.rowAt hown k1
       obtain ⟨cells,g1,g2,g3,g4⟩:=hrow.cells
       have hi:i.toNat<xs.length:=by rw [g2]; omega
       rw [show qbt xs i e.dflt=xs[i.toNat] from qbZ (List.getElem?_eq_getElem hi)] at hs
       obtain ⟨q1,q2⟩:=g4 i.toNat xs[i.toNat] off _ y (List.getElem?_eq_getElem hi) hs hmk
       refine qZ h ?_ hd (.ofCells q2)
       rw [hx,show ptr g (i.toNat * e.size+off)= .pointer (some ⟨g,i.toNat * e.size+off,none⟩) from rfl,qbL hT (cs:=(((cells.drop (i.toNat * e.size)).take e.size).drop off).take u.size) ?_ (by rw [List.length_take,List.length_drop]; omega)]
       ·rfl
       ·intro j z hj
        rw [qH]
        rw [List.getElem?_take] at hj
        split at hj
        ·rw [List.getElem?_drop,List.getElem?_take] at hj
         split at hj
         ·rw [List.getElem?_drop] at hj
          have:=g3 _ _ hj
          rw [qH,Nat.zero_add] at this
          rw [←this]
          congr 2
          omega
         ·cases hj
        ·cases hj
      ·cases he
     ·exact qnk h hT ⟨rfl,(hxa ▸ ho.unowned (by rw [hxa]; rfl)).2⟩ hv he hd hx
    ·exact qky h hT ⟨rfl,(hxa ▸ ho.unowned (by rw [hxa]; rfl)).2⟩ hv he hd hck hx
   ·cases he
  ·rename_i t' x off hxa
   split at he
   ·rename_i y hs
    have:=qg he
    subst this
    obtain ⟨_,ad,cs,rfl,g1,g2,g3,g4⟩:=hxa ▸ ho.unowned (by rw [hxa]; rfl)
    obtain ⟨k1,k2⟩:=g4.sub hs
    refine qZ h ?_ hd (.ofCells k2)
    rw [hx,qbL hT (cs:=(cs.drop off).take u.size) ?_ (by rw [List.length_take,List.length_drop]; omega)]
    ·rfl
    ·intro j z hj
     rw [qaf]
     refine g3 _ _ ?_
     rw [List.getElem?_take] at hj
     split at hj
     ·rwa [List.getElem?_drop] at hj
     ·cases hj
   ·cases he
  ·rename_i s v0 off n e i o2 hxa
   rw [Q.run_get] at he
   split at he
   case isFalse=>cases he
   rename_i hv
   split at he
   case h_2=>cases he
   rename_i c hc
   split at he
   case h_2=>cases he
   rename_i xs hg
   split at he
   case h_2=>cases he
   rename_i y hs
   have:=qg he
   subst this
   obtain ⟨i0,i1,b,hp,rfl,_⟩:=qks hpt (hxa ▸ ho.unowned (by rw [hxa]; rfl)) hv
   obtain ⟨b',cs,bs',te,h1,h2,h3,h4⟩:=h.box hc
   rw [hp] at h1
   obtain ⟨rfl,_⟩:=qbk h1
   obtain ⟨g1,_,g3⟩:=h3.get hg
   obtain ⟨x,k1,k2,k3⟩:=(g3 rfl).elem (i:=i.toNat) (by omega)
   rw [qbZ k1] at hs
   obtain ⟨q1,q2⟩:=k2.sub hs
   have hlen:=k2.length
   refine qZ h ?_ hd (.ofCells q2)
   rw [hx,show ptr b (off+i.toNat * e.size+o2)= .pointer (some ⟨b,off+i.toNat * e.size+o2,none⟩) from rfl,qbL hT (cs:=((((((cs.drop off).take (Ty.arr n e).size).drop (i.toNat * e.size)).take e.size).drop o2).take u.size)) ?_ (by rw [List.length_take,List.length_drop]; omega)]
   ·rfl
   ·intro j z hj
    rw [qH,qc1 h2]
    rw [List.getElem?_take] at hj
    split at hj
    case isFalse=>cases hj
    rw [List.getElem?_drop,List.getElem?_take] at hj
    split at hj
    case isFalse=>cases hj
    rw [List.getElem?_drop,List.getElem?_take] at hj
    split at hj
    case isFalse=>cases hj
    rw [List.getElem?_drop] at hj
    rw [←hj]
    congr 1
    omega
  ·cases he
end
end Go.Vi
namespace Go.Vi
open Go.RowKit
theorem BC.freeze_freeze:(c:BC)→c.freeze.freeze=c.freeze
 | .val _ _=>rfl
 | .own _ _ _=>rfl
 | .pair a b=>by simp [BC.freeze,BC.freeze_freeze a,BC.freeze_freeze b]
 | .hole _=>rfl
theorem qi4.freeze_freeze:(c:qi4)→c.freeze.freeze=c.freeze
 | .val _ _=>rfl
 | .own _ _ _=>rfl
 | .gone=>rfl
 | .nz _ _=>rfl
 | .agg c=>by simp [qi4.freeze,BC.freeze_freeze]
theorem AV.freeze_freeze (a:AV):a.freeze.freeze=a.freeze:=by
 cases a <;> simp [AV.freeze,BC.freeze_freeze,qi4.freeze_freeze]
section
variable {C:Ctx} {tm:Array Value} {w:World}
theorem qgp (σ:St) (s x:Nat):qb (qr σ ⟨s,false,(qb σ s).2.freeze⟩) x=if x=s then ((qb σ s).1,(qb σ s).2.freeze) else qb σ x:=by
 by_cases hx:x=s
 ·subst hx
  by_cases hs:x<σ.length
  ·rw [qk σ ⟨x,false,_⟩ hs]; simp
  ·have h1:qr σ ⟨x,false,(qb σ x).2.freeze⟩=σ:=by simp only [qr]; exact List.set_eq_of_length_le (by omega)
   have h2:qb σ x=(0,.undef):=by simp [qb,List.getD,List.getElem?_eq_none (show σ.length≤x by omega)]
   rw [h1,h2]; simp [AV.freeze]
 ·rw [qc _ _ hx]; simp [hx]
theorem qcn (σ:St) (s:Nat):∀(ow:List Nat),(qaC ow).run (qb (qr σ ⟨s,false,(qb σ s).2.freeze⟩))=(qaC ow).run (qb σ)
 |[]=>rfl
 |x::r=>by
  simp only [qaC,Q.run_get,Q.run_bind,qcn σ s r]
  have:(qb (qr σ ⟨s,false,(qb σ s).2.freeze⟩) x).2.freeze=(qb σ x).2.freeze:=by
   rw [qgp]
   split
   ·rename_i e; subst e; exact AV.freeze_freeze _
   ·rfl
  rw [this]
  rfl
theorem qbm:∀(ow:List Nat) {σ:St} {own:Nat→List Nat} {us:List U},qv C σ tm w own→(qaC ow).run (qb σ)=some us→
  ∃own',qv C (qa σ us) tm w own'∧(∀s,(qb (qa σ us) s).1=(qb σ s).1)∧(∀s,s∉ow→own' s=own s∧qb (qa σ us) s=qb σ s)∧(∀b,FW (sit C σ tm w own) ow b→C.free w own' b)
 |[],σ,own,us,h,he=>by
  have:=Q.ret_some he
  subst this
  exact ⟨own,h,fun _=>rfl,fun _ _=>⟨rfl,rfl⟩,fun b hb=>qhK hb⟩
 |s::r,σ,own,us,h,he=>by
  simp only [qaC,Q.run_get] at he
  obtain ⟨us',h1,h2⟩:=Q.bind_some he
  have:=Q.ret_some h2
  subst this
  obtain ⟨own1,g1,g2,g3,g4⟩:=h.freeze s
  obtain ⟨own',k1,k2,k3,k4⟩:=qbm r g1 (us:=us') (by rw [qcn]; exact h1)
  refine ⟨own',k1,fun x=>(k2 x).trans ?_,fun x hx=> ?_,?_⟩
  ·rw [qgp]
   split
   ·rename_i e; rw [e]
   ·rfl
  ·have hxs:x≠s:=fun e=>hx (e ▸ List.mem_cons_self)
   obtain ⟨m1,m2⟩:=k3 x fun hm=>hx (List.mem_cons_of_mem _ hm)
   exact ⟨m1.trans (g2 x hxs),m2.trans (qc _ _ hxs)⟩
  ·rintro b (hb|⟨s',hs',hb,hp⟩)
   ·exact k4 b (.inl (g4 b (.inl hb)))
   ·rcases List.mem_cons.1 hs' with rfl|hs'
    ·exact k4 b (.inl (g4 b (.inr ⟨s',List.mem_singleton.2 rfl,hb,hp⟩)))
    ·by_cases he:s'=s
     ·subst he
      exact k4 b (.inl (g4 b (.inr ⟨s',List.mem_singleton.2 rfl,hb,hp⟩)))
     ·exact k4 b (.inr ⟨s',hs',by show b∈own1 s'; rw [g2 s' he]; exact hb,hp⟩)
end
section
variable {w:World} {F:Nat→Prop}
def qT (cs:List Value) (off:Nat) (ds:List Value):List Value:=cs.take off++ds++cs.drop (off+ds.length)
theorem qbI {cs ds:List Value} (h:cs.length=ds.length):qT cs 0 ds=ds:=by
 rw [qT,List.take_zero,List.nil_append,List.drop_of_length_le (by omega),List.append_nil]
theorem qeV {c1 c2 ds:List Value} {off:Nat} (h:off+ds.length≤c1.length):qT (c1++c2) off ds=qT c1 off ds++c2:=qgc h rfl
theorem qd2 {c1 c2 ds:List Value} {off:Nat} (h:c1.length≤off):qT (c1++c2) off ds=c1++qT c2 (off - c1.length) ds:=qft h
theorem qbS {cs ds:List Value} {off:Nat} (h:off+ds.length≤cs.length):(qT cs off ds).length=cs.length:=by
 simp only [qT,List.length_append,List.length_take,List.length_drop]
 omega
theorem qaG {cs ds:List Value} {off:Nat} (h:off+ds.length≤cs.length) (j:Nat):(qT cs off ds)[j]? =if j<off then cs[j]? else if j<off+ds.length then ds[j - off]? else cs[j]? :=by
 unfold qT
 by_cases h1:j<off
 ·rw [if_pos h1,List.append_assoc,List.getElem?_append_left (by rw [List.length_take]; omega),List.getElem?_take,if_pos h1]
 ·rw [if_neg h1]
  by_cases h2:j<off+ds.length
  ·rw [if_pos h2,List.getElem?_append_left (by rw [List.length_append,List.length_take]; omega),List.getElem?_append_right (by rw [List.length_take]; omega),List.length_take]
   congr 1; omega
  ·rw [if_neg h2,List.getElem?_append_right (by rw [List.length_append,List.length_take]; omega),List.getElem?_drop,List.length_append,List.length_take]
   congr 1; omega
theorem qhf {cs ds:List Value} {p n q:Nat} (h1:p+n≤cs.length) (h2:q+ds.length≤n):qT cs p (qT ((cs.drop p).take n) q ds)=qT cs (p+q) ds:=by
 have hl:((cs.drop p).take n).length=n:=by rw [List.length_take,List.length_drop]; omega
 have hs:(qT ((cs.drop p).take n) q ds).length=n:=by rw [qbS (by omega),hl]
 apply List.ext_getElem?
 intro j
 have e1:=qaG (cs:=cs) (ds:=qT ((cs.drop p).take n) q ds) (off:=p) (by omega) j
 have e2:=qaG (cs:=cs) (ds:=ds) (off:=p+q) (by omega) j
 have e3:=qaG (cs:=(cs.drop p).take n) (ds:=ds) (off:=q) (by omega) (j - p)
 have e4:((cs.drop p).take n)[j - p]? =if j - p<n then cs[p+(j - p)]? else none:=by
  rw [List.getElem?_take]
  split
  ·rw [List.getElem?_drop]
  ·rfl
 rw [e1,e2,hs,e3,e4]
 by_cases a1:j<p
 ·rw [if_pos a1,if_pos (by omega)]
 ·rw [if_neg a1]
  have ep:p+(j - p)=j:=by omega
  rw [ep]
  by_cases a2:j<p+n
  ·rw [if_pos a2,if_pos (show j - p<n by omega)]
   by_cases a3:j - p<q
   ·rw [if_pos a3,if_pos (by omega)]
   ·rw [if_neg a3,if_neg (show ¬j<p+q by omega)]
    by_cases a4:j - p<q+ds.length
    ·rw [if_pos a4,if_pos (by omega)]
     congr 1; omega
    ·rw [if_neg a4,if_neg (by omega)]
  ·rw [if_neg a2,if_neg (by omega),if_neg (by omega)]
theorem Rep.setElem {n:Nat} {e:Ty} {xs:List e.den} {cs ds:List Value} (h:Rep w F (.arr n e) xs cs) {i:Nat} (hi:i<n) {y:e.den} (hy:Rep w F e y ds):Rep w F (.arr n e) (qcr xs (i:Int) y) (qT cs (i * e.size) ds):=by
 obtain ⟨hl,css,hcl,rfl,hx⟩:=h
 have hall:=qgj (by omega) hx
 have hdl:=hy.length
 have hc:css[i]? =some (css[i]'(by omega)):=List.getElem?_eq_getElem (by omega)
 obtain ⟨k1,k2⟩:=qat hall hc
 refine ⟨by simp [qaA,hl],css.set i ds,by simp [hcl],?_,?_⟩
 ·rw [qgR hall (by omega),qT,hdl]
 ·intro j x' c' hj hc'
  simp only [qaA,Int.toNat_natCast] at hj
  by_cases he:i=j
  ·subst he
   rw [List.getElem?_set_self (by omega)] at hj hc'
   injection hj with hj; injection hc' with hc'
   subst hj; subst hc'
   exact hy
  ·rw [List.getElem?_set_ne he] at hj hc'
   exact hx j x' c' hj hc'
theorem qP.ofVal {t:Ty} {x:t.den} {cs:List Value} (h:Rep w F t x cs):qP w F (.val t x) cs []:=⟨rfl,h⟩
theorem qP.putVal {new:BC} {ds:List Value} {b2:List Nat} (hn:qP w F new ds b2): {t:Ty} → {x:t.den} → {cs:List Value} → {off:Nat} → {c':BC} →Rep w F t x cs→BC.putVal t x off new=some c'→
  off+ds.length≤cs.length∧qP w F c' (qT cs off ds) b2
 | .pair a b,x,cs,off,c',⟨c1,c2,hc,h1,h2⟩,he=>by
  subst hc
  have l1:=h1.length
  have l2:=h2.length
  have ln:=hn.length
  simp only [BC.putVal] at he
  split at he
  ·split at he
   ·rename_i hlt hz
    injection he with he; subst he
    obtain ⟨rfl,hs⟩:=hz
    refine ⟨by rw [List.length_append]; omega,?_⟩
    rw [qeV (by omega),qbI (by omega)]
    exact ⟨ds,c2,b2,[],rfl,by simp,hn,.ofVal h2⟩
   ·simp only [Option.map_eq_some_iff] at he
    obtain ⟨z,hz,rfl⟩:=he
    obtain ⟨g1,g2⟩:=qP.putVal hn h1 hz
    refine ⟨by rw [List.length_append]; omega,?_⟩
    rw [qeV g1]
    exact ⟨_,c2,b2,[],rfl,by simp,g2,.ofVal h2⟩
  ·split at he
   ·rename_i hge hz
    injection he with he; subst he
    obtain ⟨rfl,hs⟩:=hz
    refine ⟨by rw [List.length_append]; omega,?_⟩
    rw [qd2 (by omega),show a.size - c1.length=0 by omega,qbI (by omega)]
    exact ⟨c1,ds,[],b2,rfl,by simp,.ofVal h1,hn⟩
   ·simp only [Option.map_eq_some_iff] at he
    obtain ⟨z,hz,rfl⟩:=he
    obtain ⟨g1,g2⟩:=qP.putVal hn h2 hz
    refine ⟨by rw [List.length_append]; omega,?_⟩
    rw [qd2 (by omega),l1]
    exact ⟨c1,_,[],b2,rfl,by simp,.ofVal h1,g2⟩
 | .int _,_,_,_,_,_,he=>by simp [BC.putVal] at he
 | .bool,_,_,_,_,_,he=>by simp [BC.putVal] at he
 | .str,_,_,_,_,_,he=>by simp [BC.putVal] at he
 | .err,_,_,_,_,_,he=>by simp [BC.putVal] at he
 | .opt _,_,_,_,_,_,he=>by simp [BC.putVal] at he
 | .map _ _,_,_,_,_,_,he=>by simp [BC.putVal] at he
 | .unit,_,_,_,_,_,he=>by simp [BC.putVal] at he
 | .slice _,_,_,_,_,_,he=>by simp [BC.putVal] at he
 | .arr _ _,_,_,_,_,_,he=>by simp [BC.putVal] at he
theorem qP.put {new:BC} {ds:List Value} {b2:List Nat} (hn:qP w F new ds b2): {c:BC} → {cs:List Value} → {bs:List Nat} → {off:Nat} → {c':BC} →qP w F c cs bs→c.put off new=some c'→
  off+ds.length≤cs.length∧∃bs',qP w F c' (qT cs off ds) bs'∧(∀b∈bs',b∈bs∨b∈b2)∧((bs++b2).Nodup→bs'.Nodup)
 | .val t x,cs,bs,off,c',h,he=>by
  have ln:=hn.length
  have lc:=h.2.length
  simp only [BC.put] at he
  split at he
  ·rename_i u y
   simp only [Option.map_eq_some_iff] at he
   obtain ⟨z,hz,rfl⟩:=he
   obtain ⟨hb2,hy⟩:=hn
   subst hb2
   obtain ⟨g1,g2⟩:=h.2.upd hy hz
   have ly:=hy.length
   rw [←ly] at g1 g2
   exact ⟨g1,[],⟨rfl,g2⟩,(fun b hb=>by cases hb),fun _=>List.nodup_nil⟩
  ·split at he
   ·rename_i hz
    injection he with he; subst he
    obtain ⟨rfl,hs⟩:=hz
    rw [qbI (by omega)]
    exact ⟨by omega,b2,hn,fun b hb=> .inr hb,fun hnd=>(List.nodup_append.1 hnd).2.1⟩
   ·obtain ⟨g1,g2⟩:=qP.putVal hn h.2 he
    exact ⟨g1,b2,g2,fun b hb=> .inr hb,fun hnd=>(List.nodup_append.1 hnd).2.1⟩
 | .own et e xs,cs,bs,off,c',h,he=>by
  have ln:=hn.length
  obtain ⟨v,rfl,h⟩:=h
  simp only [BC.put] at he
  split at he
  ·rename_i hz
   injection he with he; subst he
   obtain ⟨rfl,hs⟩:=hz
   rw [qbI (by simp; omega)]
   exact ⟨by simp; omega,b2,hn,fun b hb=> .inr hb,fun hnd=>(List.nodup_append.1 hnd).2.1⟩
  ·cases he
 | .pair a b,cs,bs,off,c',h,he=>by
  have ln:=hn.length
  have lc:=h.length
  obtain ⟨c1,c2,b1,b1',rfl,rfl,h1,h2⟩:=h
  have l1:=h1.length
  have l2:=h2.length
  simp only [BC.put] at he
  split at he
  ·rename_i hz
   injection he with he; subst he
   obtain ⟨rfl,hs⟩:=hz
   have lc:(c1++c2).length=ds.length:=by rw [List.length_append]; omega
   rw [qbI lc]
   exact ⟨by omega,b2,hn,fun b hb=> .inr hb,fun hnd=>(List.nodup_append.1 hnd).2.1⟩
  ·split at he
   ·simp only [Option.map_eq_some_iff] at he
    obtain ⟨z,hz,rfl⟩:=he
    obtain ⟨g1,bs',g2,g3,g4⟩:=qP.put hn h1 hz
    refine ⟨by rw [List.length_append]; omega,bs'++b1',?_,?_,?_⟩
    ·rw [qeV g1]
     exact ⟨_,c2,bs',b1',rfl,rfl,g2,h2⟩
    ·intro x hx
     rcases List.mem_append.1 hx with hx|hx
     ·exact (g3 x hx).imp (List.mem_append_left _) id
     ·exact .inl (List.mem_append_right _ hx)
    ·intro hnd
     obtain ⟨n1,n2,n3⟩:=List.nodup_append.1 hnd
     obtain ⟨n4,n5,n6⟩:=List.nodup_append.1 n1
     refine List.nodup_append.2 ⟨g4 (List.nodup_append.2 ⟨n4,n2,fun x hx y hy=>n3 x (List.mem_append_left _ hx) y hy⟩),n5,fun x hx y hy=> ?_⟩
     rcases g3 x hx with hx|hx
     ·exact n6 x hx y hy
     ·exact fun e=>n3 y (List.mem_append_right _ hy) x hx e.symm
   ·simp only [Option.map_eq_some_iff] at he
    obtain ⟨z,hz,rfl⟩:=he
    obtain ⟨g1,bs',g2,g3,g4⟩:=qP.put hn h2 hz
    refine ⟨by rw [List.length_append]; omega,b1++bs',?_,?_,?_⟩
    ·rw [qd2 (by omega),l1]
     exact ⟨c1,_,b1,bs',rfl,rfl,h1,g2⟩
    ·intro x hx
     rcases List.mem_append.1 hx with hx|hx
     ·exact .inl (List.mem_append_left _ hx)
     ·exact (g3 x hx).imp (List.mem_append_right _) id
    ·intro hnd
     obtain ⟨n1,n2,n3⟩:=List.nodup_append.1 hnd
     obtain ⟨n4,n5,n6⟩:=List.nodup_append.1 n1
     refine List.nodup_append.2 ⟨n4,g4 (List.nodup_append.2 ⟨n5,n2,fun x hx y hy=>n3 x (List.mem_append_right _ hx) y hy⟩),fun x hx y hy=> ?_⟩
     rcases g3 y hy with hy|hy
     ·exact n6 x hx y hy
     ·exact n3 x (List.mem_append_left _ hx) y hy
 | .hole n,cs,bs,off,c',h,he=>by
  have ln:=hn.length
  have hl:cs.length=n:=h.2
  simp only [BC.put] at he
  split at he
  ·rename_i hz
   injection he with he; subst he
   obtain ⟨rfl,hs⟩:=hz
   rw [qbI (by omega)]
   exact ⟨by omega,b2,hn,fun b hb=> .inr hb,fun hnd=>(List.nodup_append.1 hnd).2.1⟩
  ·cases he
theorem qP.oneCell_own {et:Nat} {e:Ty} {xs:List e.den} {cs:List Value} {bs:List Nat} (h:qP w F (.own et e xs) cs bs):∀v∈cs,v.oneCell'=true:=by
 obtain ⟨v,rfl,h⟩:=h
 intro u hu
 simp at hu
 subst hu
 exact h.oneCell
theorem qP.oneCell: {c:BC} → {cs:List Value} → {bs:List Nat} →c.sound=true→qP w F c cs bs→∀v∈cs,v.oneCell'=true
 | .val _ _,_,_,_,h=>h.2.oneCell
 | .own _ _ _,_,_,_,h=>h.oneCell_own
 | .pair _ _,_,_,hs,⟨c1,c2,_,_,rfl,_,h1,h2⟩=>fun v hv=>by
  simp only [BC.sound,Bool.and_eq_true] at hs
  rcases List.mem_append.1 hv with hv|hv
  ·exact h1.oneCell hs.1 v hv
  ·exact h2.oneCell hs.2 v hv
 | .hole _,_,_,hs,_=>by simp [BC.sound] at hs
theorem qcB {b:Nat} {cur:Array Value} (new:Array Value) {te:Nat} (h:w.heap[b]? =some (.cells cur te (0,0))):qa5 (fun k=>k=b) w (w.setRow b new):=
 ⟨rfl,rfl,rfl,by simp,fun k _ hk=>setRow_other w b k new hk⟩
end
section
variable {C:Ctx} {E:Env} {σ:St} {a:Act} {w w':World} {own:Nat→List Nat} {o:Oper} [Tabbed E C]
theorem qeu (h:qv C σ a.tmps w own) {t:Ty} {x1:Op1} {v:Value} (ho:qas (sit C σ a.tmps w own) x1 v) {n:BC×List Nat×List U} (he:(qd7 t x1).run (qb σ)=some n) (h0:n.2.1=[]):
  ∃bs,qP w (C.free w own) n.1 v.cells.toList bs∧v.cells.toList.length=t.size∧(∀u∈v.cells.toList,u.oneCell'=true)∧
   ((n.2.2=[]∧bs=[])∨∃s,n.2.2=[⟨s,true,.undef⟩]∧bs=own s):=by
 obtain ⟨os,ov,oa⟩:=x1
 unfold qd7 at he
 split at he
 ·rename_i s et e xs h1 h2
  simp only at h1 h2
  subst h1; subst h2
  split at he
  ·rename_i ht
   subst ht
   have:=Q.ret_some he
   subst this
   obtain ⟨e1,e2,e3⟩:=ho
   have e3:qA w (C.free w own) et e xs v (own s):=e3
   have hc:v.cells= #[v]:=by
    obtain ⟨cells,ho⟩:=e3.hdr
    rcases ho.2 with ⟨rfl,_⟩|⟨g,cap,cur,rfl,_⟩ <;> rfl
   rw [hc]
   exact ⟨own s,⟨v,rfl,e3⟩,rfl,fun u hu=>by simp at hu; subst hu; exact e3.oneCell,.inr ⟨s,rfl,rfl⟩⟩
  ·cases he
 ·rename_i et e xs h1 h2
  simp only at h1 h2
  subst h1; subst h2
  split at he
  ·rename_i ht
   subst ht
   have:=Q.ret_some he
   subst this
   have e3:qA w (C.free w own) et e xs v []:=ho
   have hc:v.cells= #[v]:=by
    obtain ⟨cells,ho⟩:=e3.hdr
    rcases ho.2 with ⟨rfl,_⟩|⟨g,cap,cur,rfl,_⟩ <;> rfl
   rw [hc]
   exact ⟨[],⟨v,rfl,e3⟩,rfl,fun u hu=>by simp at hu; subst hu; exact e3.oneCell,.inl ⟨rfl,rfl⟩⟩
  ·cases he
 ·rename_i s c h1 h2
  simp only at h1 h2
  subst h1; subst h2
  split at he
  ·rename_i ht
   have:=Q.ret_some he
   subst this
   obtain ⟨e1,e2,cs,e4,e3⟩:=ho
   have hc:v.cells.toList=cs:=by rw [e4]; simp [Value.cells]
   rw [hc]
   exact ⟨own s,e3,e3.length.trans ht.1,e3.oneCell ht.2,.inr ⟨s,rfl,rfl⟩⟩
  ·cases he
 ·obtain ⟨r,h1,h2⟩:=Q.bind_some he
  have hv:=qbc h ho h1
  have:=Q.ret_some h2
  subst this
  simp only at h0
  rw [h0] at hv
  have hr:=hv.1
  exact ⟨[],⟨rfl,hr.keep fun b hb hs=>⟨qhK hb,hs,rfl⟩⟩,hr.length,hr.oneCell,.inl ⟨rfl,rfl⟩⟩
theorem qdl {τ:St} (hr:(execOp a.eval o).run C.P w= .ok .skip w') (h:∃own',qv C τ (a.put o.dst undef).tmps w' own'):qbh C o a w τ:=by
 intro K Q hK
 obtain ⟨own',h⟩:=h
 unfold Oper.wp
 rw [hr]
 exact hK _ _ own' (qc9 o a _) h
theorem qfr (cons:List Nat):∀(σ:St),(∀s∈cons,s<σ.length)→
  (∀s,s∉cons→qb (qa σ (cons.map fun s=>⟨s,true,.undef⟩)) s=qb σ s)∧(∀s∈cons,(qb σ s).1<(qb (qa σ (cons.map fun s=>⟨s,true,.undef⟩)) s).1∧(qb (qa σ (cons.map fun s=>⟨s,true,.undef⟩)) s).2= .undef):=by
 induction cons with
 |nil=>intro σ _; exact ⟨fun _ _=>rfl,fun s hs=>by cases hs⟩
 |cons c r ih=>
  intro σ hl
  have hc:c<σ.length:=hl c List.mem_cons_self
  obtain ⟨h1,h2⟩:=ih (qr σ ⟨c,true,.undef⟩) (fun s hs=>by rw [qD]; exact hl s (List.mem_cons_of_mem _ hs))
  have e:qa σ ((c::r).map fun s=>⟨s,true,.undef⟩)=qa (qr σ ⟨c,true,.undef⟩) (r.map fun s=>⟨s,true,.undef⟩):=rfl
  rw [e]
  have eC:qb (qr σ ⟨c,true,.undef⟩) c=((qb σ c).1+1,.undef):=qk σ ⟨c,true,.undef⟩ hc
  refine ⟨fun s hs=> ?_,fun s hs=> ?_⟩
  ·rw [h1 s (fun hm=>hs (List.mem_cons_of_mem _ hm)),qc _ _ (fun e=>hs (by rw [e]; exact List.mem_cons_self))]
  ·by_cases hr:s∈r
   ·obtain ⟨h3,h4⟩:=h2 s hr
    refine ⟨Nat.lt_of_le_of_lt ?_ h3,h4⟩
    by_cases hsc:s=c
    ·subst hsc; rw [eC]; exact Nat.le_succ _
    ·rw [qc _ _ hsc]; exact Nat.le_refl _
   ·have hsc:s=c:=(List.mem_cons.1 hs).resolve_right hr
    subst hsc
    rw [h1 s hr,eC]
    exact ⟨Nat.lt_succ_self _,rfl⟩
theorem qv.mut {tm:Array Value} (h:qv C σ tm w own) {d:Nat} (hd:d<σ.length) (cons:List Nat) (hcons:∀s∈cons,s<σ.length∧s≠d) (hk:qa5 (fun k=>k∈own d∨∃s∈cons,k∈own s) w w') {av:AV} {v:Value} {bs:List Nat}
  (hb:∀b∈bs,(w.heap.size≤b∧b<w'.heap.size)∨b∈own d∨∃s∈cons,b∈own s) (hnd:bs.Nodup) (hrep:qL { sit C σ tm w own with w:=w' } av v bs) (hm:av.mentions=[]):
  ∃own',qv C (qa σ (cons.map (fun s=>⟨s,true,.undef⟩)++[⟨d,true,av⟩])) (tm.setIfInBounds d v) w' own':=by
 obtain ⟨c1,c2⟩:=qfr cons σ (fun s hs=>(hcons s hs).1)
 have hdc:d∉cons:=fun hm=>(hcons d hm).2 rfl
 rw [qao]
 generalize hτ:qa σ (cons.map fun s=>⟨s,true,.undef⟩)=τ at c1 c2
 have hlen:τ.length=σ.length:=by rw [←hτ,qj]
 have eD:qb (qa τ [⟨d,true,av⟩]) d=((qb σ d).1+1,av):=by
  show qb (qr τ ⟨d,true,av⟩) d=_
  rw [qk τ ⟨d,true,av⟩ (by rw [hlen]; exact hd),c1 d hdc]
  rfl
 have eN:∀s,s≠d→qb (qa τ [⟨d,true,av⟩]) s=qb τ s:=fun s hs=>qc τ ⟨d,true,av⟩ hs
 let own':Nat→List Nat:=fun x=>if x=d then bs else if x∈cons then [] else own x
 have oD:own' d=bs:=by simp [own']
 have oC:∀s∈cons,own' s=[]:=fun s hs=>by simp [own',hs,(hcons s hs).2]
 refine ⟨own',h.update (fun x=>x=d∨x∈cons) (by rw [qj,hlen]) (by simp) ?_ ?_ (hk.mono ?_) ?_ ?_ ?_ ?_ ?_⟩
 ·intro x hx
  have h1:x≠d:=fun e=>hx (.inl e)
  have h2:x∉cons:=fun e=>hx (.inr e)
  exact ⟨by rw [eN x h1,c1 x h2],qB tm _ h1,by simp [own',h1,h2]⟩
 ·rintro x (rfl|hx)
  ·rw [eD]; exact .inl (Nat.lt_succ_self _)
  ·rw [eN x (hcons x hx).2]; exact .inl (c2 x hx).1
 ·rintro k (hk|⟨s,hs,hk⟩)
  ·exact ⟨d,.inl rfl,hk⟩
  ·exact ⟨s,.inr hs,hk⟩
 ·rintro x (rfl|hx)
  ·exact hd
  ·exact (hcons x hx).1
 ·rintro x (rfl|hx)
  ·rw [oD]
   refine ⟨fun b hbm=> ?_,hnd⟩
   rcases hb b hbm with h1|h1|⟨s,hs,h1⟩
   ·exact .inl h1
   ·exact .inr ⟨x,.inl rfl,h1⟩
   ·exact .inr ⟨s,.inr hs,h1⟩
  ·rw [oC x hx]; exact ⟨(fun b hb=>by cases hb),List.nodup_nil⟩
 ·rintro x y b (rfl|hx) (rfl|hy) hb1 hb2
  ·rfl
  ·rw [oC y hy] at hb2; cases hb2
  ·rw [oC x hx] at hb1; cases hb1
  ·rw [oC x hx] at hb1; cases hb1
 ·rintro x (rfl|hx)
  ·rw [eD,oD,qaj tm v (by rw [h.size]; exact hd)]
   refine qL.keep (X:= { sit C σ tm w own with w:=w' }) (X':=sit C _ _ w' own') ⟨rfl,rfl⟩ (fun x hx hlt=> ?_) (fun _ _ _=>rfl) (fun m hmm=>by rw [hm] at hmm; cases hmm) hrep
   have hx':C.free w own x:=hx
   refine ⟨⟨hx'.1,Nat.lt_of_lt_of_le hx'.2.1 hk.size,fun s hs=> ?_⟩,hlt,rfl⟩
   have hs:x∈own' s:=hs
   simp only [own'] at hs
   split at hs
   ·rcases hb x hs with h1|h1|⟨s0,_,h1⟩
    ·have:=hx'.2.1; omega
    ·exact hx'.2.2 _ h1
    ·exact hx'.2.2 _ h1
   ·split at hs
    ·cases hs
    ·exact hx'.2.2 _ hs
  ·rw [eN x (hcons x hx).2,(c2 x hx).2]; trivial
 ·rintro x (rfl|hx) m hmm
  ·rw [eD,hm] at hmm; cases hmm
  ·rw [eN x (hcons x hx).2,(c2 x hx).2] at hmm; cases hmm
theorem qkK (tm:Array Value) {d:Nat} (h:d<tm.size):tm.setIfInBounds d (tm.getD d undef)=tm:=by
 apply Array.ext
 ·simp
 ·intro i h1 h2
  by_cases hi:d=i
  ·subst hi
   simp [Array.getD,h]
  ·rw [Array.getElem_setIfInBounds_ne (h:=hi)]
theorem qhJ {cells ds:List Value} {i sz off:Nat} (h1:off+ds.length≤sz) (h2:i * sz+sz≤cells.length):
  ((qT cells (i * sz+off) ds).drop (i * sz)).take sz=qT ((cells.drop (i * sz)).take sz) off ds:=by
 apply List.ext_getElem?
 intro k
 rw [qaG (by rw [List.length_take,List.length_drop]; omega),List.getElem?_take,List.getElem?_drop,qaG (by omega)]
 by_cases hk:k<sz
 ·rw [if_pos hk]
  by_cases c1:k<off
  ·rw [if_pos (by omega),if_pos c1,List.getElem?_take,if_pos hk,List.getElem?_drop]
  ·rw [if_neg (by omega),if_neg c1]
   by_cases c2:k<off+ds.length
   ·rw [if_pos (by omega),if_pos c2]; congr 1; omega
   ·rw [if_neg (by omega),if_neg c2,List.getElem?_take,if_pos hk,List.getElem?_drop]
 ·rw [if_neg hk,if_neg (by omega),if_neg (by omega),List.getElem?_take,if_neg hk]
theorem qgq {cells ds:List Value} {i j sz off:Nat} (h1:off+ds.length≤sz) (h2:i * sz+sz≤cells.length) (hne:i≠j):
  ((qT cells (i * sz+off) ds).drop (j * sz)).take sz=(cells.drop (j * sz)).take sz:=by
 apply List.ext_getElem?
 intro k
 rw [List.getElem?_take,List.getElem?_take]
 split
 ·rename_i hk
  rw [List.getElem?_drop,List.getElem?_drop,qaG (by omega)]
  rcases Nat.lt_or_gt_of_ne hne with hlt|hgt
  ·have:i * sz+sz≤j * sz:=by rw [←Nat.succ_mul]; exact Nat.mul_le_mul_right _ hlt
   rw [if_neg (by omega),if_neg (by omega)]
  ·have:j * sz+sz≤i * sz:=by rw [←Nat.succ_mul]; exact Nat.mul_le_mul_right _ hgt
   rw [if_pos (by omega)]
 ·rfl
theorem qfs {P:Program} {w:World} {t:Nat} {u:Ty} {et sz g n cap p:Nat} {v:Value} {cells:List Value} (hT:TyB P t u) (ho:w.ownsRow 0 et sz (.slice (some ⟨g,0,none⟩) n cap) n cells)
  (hl:v.cells.toList.length=u.size) (hp:p+u.size≤n * sz) (h1:∀x∈v.cells.toList,x.oneCell'=true):
  ∃W,(Instr.storeAt t (ptr g p) v).run P w= .ok () W∧qa5 (fun k=>k=g) w W∧W.ownsRow 0 et sz (.slice (some ⟨g,0,none⟩) n cap) n (qT cells p v.cells.toList):=by
 obtain ⟨r4,r5⟩:=ho
 rcases r5 with ⟨r6,_⟩|⟨g',cap',cur,r6,_,r7,r8,r9,r10,r11⟩
 ·cases r6
 injection r6 with r6 r6n r6c
 injection r6 with r6
 injection r6 with r6
 subst r6; subst r6c
 have hcz:cur.toList.length=cur.size:=Array.length_toList
 have hcur:n * sz≤cur.size:=by rw [r10]; exact Nat.mul_le_mul_right _ r8
 have hrun:=qeX (w:=w) hT (v:=v) (off:=p) r7 hl (by omega) h1
 refine ⟨_,hrun,?_⟩
 rw [←hl]
 have hsp:(cur.toList.take p++v.cells.toList++cur.toList.drop (p+v.cells.toList.length)).toArray=(qT cur.toList p v.cells.toList).toArray:=rfl
 rw [hsp]
 refine ⟨qcB _ r7,by rw [qbS (by omega)]; exact r4,.inr ⟨g,cap,_,rfl,Nat.zero_le _,setRow_heap w g _ _ et _ r7,r8,r9,?_,?_⟩⟩
 ·rw [List.size_toArray,qbS (by omega)]; simpa using r10
 ·show (qT cur.toList p v.cells.toList).take (n * sz)=qT cells p v.cells.toList
  apply List.ext_getElem?
  intro k
  rw [List.getElem?_take,qaG (by omega),qaG (by omega),←r11,List.getElem?_take]
  by_cases hk:k<n * sz
  ·simp only [if_pos hk]
  ·rw [if_neg hk,if_neg (show ¬k<p by omega),if_neg (show ¬k<p+v.cells.toList.length by omega),if_neg hk]
theorem qdM.store {P:Program} {w:World} {F:Nat→Prop} {t:Nat} {u:Ty} {et:Nat} {e:Ty} {hl:Int×Nat×Nat} {xs:List e.den} {g n cap:Nat} {bs:List Nat} {i:Int} {off:Nat} {v:Value} {y0:u.den} {y:e.den} (hT:TyB P t u) (hrow:qdM w F et e hl xs (.slice (some ⟨g,0,none⟩) n cap) bs) (hnd:bs.Nodup)
  (hF0:∀x,F x→x≠g) (k2:0≤i) (k3:i<n) (hm:(etM et).hits off (off+u.size)=false) (hy:e.upd (qbt xs i e.dflt) off u y0=some y) (hrc:Rep w F u y0 v.cells.toList):
  ∃W,(Instr.storeAt t (ptr g (i.toNat * e.size+off)) v).run P w= .ok () W∧qa5 (fun k=>k=g) w W∧qdM W F et e hl (qcr xs i y) (.slice (some ⟨g,0,none⟩) n cap) bs:=by
 have hn:=hrow.cap
 subst hn
 obtain ⟨cells,bss,ho,hlb,hbs,hx⟩:=hrow
 have hi:i.toNat<xs.length:=by omega
 rw [show qbt xs i e.dflt=xs[i.toNat] from qbZ (List.getElem?_eq_getElem hi)] at hy
 have hib:i.toNat<bss.length:=by omega
 have hrl:=hrc.length
 have hin:i.toNat * e.size+e.size≤xs.length * e.size:=by rw [←Nat.succ_mul]; exact Nat.mul_le_mul_right _ hi
 have hcl:cells.length=xs.length * e.size:=ho.1
 obtain ⟨u1,u2⟩:=qkt e (o:=0) (hx i.toNat _ _ (List.getElem?_eq_getElem hi) (List.getElem?_eq_getElem hib)) hrc hy (by rw [Nat.zero_add]; exact hm)
 have hel:((cells.drop (i.toNat * e.size)).take e.size).length=e.size:=by rw [List.length_take,List.length_drop]; omega
 rw [hel] at u1
 obtain ⟨W,w1,w2,w3⟩:=qfs hT ho (p:=i.toNat * e.size+off) hrl (by omega) hrc.oneCell
 have hgb:bs=g::bss.flatten:=hbs
 have hgn:g∉bss.flatten:=by rw [hgb] at hnd; exact (List.nodup_cons.1 hnd).1
 have hF:∀x,F x→x<w.heap.size→F x∧x<W.heap.size∧W.heap[x]? =w.heap[x]? :=fun x hx hlt=>⟨hx,Nat.lt_of_lt_of_le hlt w2.size,w2.block x hlt fun e=>hF0 x hx e⟩
 have hB:∀b∈bss,∀k∈b,k<w.heap.size→W.heap[k]? =w.heap[k]? :=fun b hb k hk hlt=>w2.block k hlt fun e=>hgn (e ▸ List.mem_flatten.2 ⟨b,hb,hk⟩)
 have hlx:(qcr xs i y).length=xs.length:=by simp [qaA]
 refine ⟨W,w1,w2,qT cells (i.toNat * e.size+off) v.cells.toList,bss,by rw [hlx]; exact w3,by rw [hlx]; exact hlb,hbs,fun j x b hj hb=> ?_⟩
 simp only [qaA] at hj
 by_cases hji:i.toNat=j
 ·subst hji
  rw [List.getElem?_set_self hi] at hj
  injection hj with hj
  subst hj
  rw [List.getElem?_eq_getElem hib] at hb
  injection hb with hb
  subst hb
  rw [qhJ (by omega) (by omega)]
  rw [←hrl] at u2
  exact u2.keep hF (hB _ (List.getElem_mem hib))
 ·rw [List.getElem?_set_ne hji] at hj
  rw [qgq (by omega) (by omega) hji]
  exact (hx j x b hj hb).keep hF (hB b (List.mem_of_getElem? hb))
theorem qdM.put {P:Program} {w:World} {F:Nat→Prop} {t et:Nat} {e:Ty} {xs:List e.den} {g n cap:Nat} {bs:List Nat} {i:Int} {off et':Nat} {e':Ty} {ys ys':List e'.den} {x':e.den} {v':Value} {b':List Nat}
  (hT:TyB P t (.slice e')) (hrow:qdM w F et e (i,off,off+1) xs (.slice (some ⟨g,0,none⟩) n cap) bs) (hnd:bs.Nodup) (hF0:∀x,F x→x≠g)
  (k2:0≤i) (k3:i<n) (hn:e.noArr=true) (hs:e.sub (qbt xs i e.dflt) off (.slice e')=some ys) (hm:(etM et).at off=some et') (hu:e.upd (qbt xs i e.dflt) off (.slice e') ys'=some x')
  (hr:qJ w F et' e' ys' v' b') (hgb:g∉b'):
  ∃W p q,(Instr.storeAt t (ptr g (i.toNat * e.size+off)) v').run P w= .ok () W∧qa5 (fun k=>k=g) w W∧bs=g::(p++q)∧qdM W F et e (-1,0,0) (qcr xs i x') (.slice (some ⟨g,0,none⟩) n cap) (g::(p++(b'++q))):=by
 have hnn:=hrow.cap
 subst hnn
 obtain ⟨cells,bss,ho,hlb,hbs,hx⟩:=hrow
 have hi:i.toNat<xs.length:=by omega
 rw [show qbt xs i e.dflt=xs[i.toNat] from qbZ (List.getElem?_eq_getElem hi)] at hs hu
 have hib:i.toNat<bss.length:=by omega
 have hin:i.toNat * e.size+e.size≤xs.length * e.size:=by rw [←Nat.succ_mul]; exact Nat.mul_le_mul_right _ hi
 have hcl:cells.length=xs.length * e.size:=ho.1
 have hlt:=Ty.sub_lt e hs
 have hone:v'.cells.toList=[v']:=by rw [cells_one (hr.rep.2.2 rfl)]
 obtain ⟨W,w1,w2,w3⟩:=qfs hT ho (p:=i.toNat * e.size+off) (v:=v') (by rw [hone]; rfl) (by show i.toNat * e.size+off+1≤_; omega) (by rw [hone]; intro x hx; rw [List.mem_singleton.1 hx]; exact qJ.oneCell hr)
 rw [hone] at w3
 have hgb0:bs=g::bss.flatten:=hbs
 have hgn:g∉bss.flatten:=by rw [hgb0] at hnd; exact (List.nodup_cons.1 hnd).1
 have hF:∀x,F x→x<w.heap.size→F x∧x<W.heap.size∧W.heap[x]? =w.heap[x]? :=fun x hx hlt=>⟨hx,Nat.lt_of_lt_of_le hlt w2.size,w2.block x hlt fun e=>hF0 x hx e⟩
 have hB:∀b∈bss,∀k∈b,k<w.heap.size→W.heap[k]? =w.heap[k]? :=fun b hb k hk hlt=>w2.block k hlt fun e=>hgn (e ▸ List.mem_flatten.2 ⟨b,hb,hk⟩)
 have hr':qJ W F et' e' ys' v' b':=hr.keep hF fun b hb hlt=>w2.block b hlt fun e=>hgb (e ▸ hb)
 have hx0:=(hx i.toNat _ _ (List.getElem?_eq_getElem hi) (List.getElem?_eq_getElem hib)).keep hF (hB _ (List.getElem_mem hib))
 rw [qe6 k2] at hx0
 obtain ⟨p,q,g1,g2,g3⟩:=qgn e (o:=0) (off:=off) hn (by rw [Nat.zero_add]; exact hx0) hs (by rw [Nat.zero_add]; exact hm)
 have g4:=g3 v' ys' b' x' hu hr'
 have hlx:(qcr xs i x').length=xs.length:=by simp [qaA]
 refine ⟨W,(bss.take i.toNat).flatten++p,q++(bss.drop (i.toNat+1)).flatten,w1,w2,?_,qT cells (i.toNat * e.size+off) [v'],bss.set i.toNat (p++(b'++q)),by rw [hlx]; exact w3,by rw [hlx]; simpa using hlb,?_,fun j x b hj hb=> ?_⟩
 ·rw [hbs,qdJ hib,g1]
  simp [Value.ownBlock]
 ·rw [qe4 hib]
  simp [Value.ownBlock]
 ·simp only [qaA] at hj
  rw [qa3]
  by_cases hji:i.toNat=j
  ·subst hji
   rw [List.getElem?_set_self hib] at hb
   injection hb with hb
   subst hb
   rw [List.getElem?_set_self hi] at hj
   injection hj with hj
   subst hj
   rw [qhJ (by show off+1≤_; omega) (by omega)]
   exact g4
  ·rw [List.getElem?_set_ne hji] at hb hj
   have:=(hx j x b hj hb).keep hF (hB b (List.mem_of_getElem? hb))
   rw [qg7 k2 hji] at this
   rw [qgq (by show off+1≤_; omega) (by omega) hji]
   exact this
theorem qv.mut2 {tm:Array Value} (h:qv C σ tm w own) {d s0:Nat} (hd:d<σ.length) (hs0:s0<σ.length) (hne:s0≠d) {b1 b2 b3:List Nat} (ho:own s0=b1++(b2++b3)) (hk:qa5 (fun k=>k∈own d∨k∈b2) w w') {av av0:AV} {v:Value} {bs:List Nat}
  (hb:∀b∈bs,(w.heap.size≤b∧b<w'.heap.size)∨b∈own d∨b∈b2) (hnd:bs.Nodup) (hrep:qL { sit C σ tm w own with w:=w' } av v bs) (hm:av.mentions=[]) (hrep0:qL { sit C σ tm w own with w:=w' } av0 (tm.getD s0 undef) (b1++b3)) (hm0:av0.mentions=[]):
  ∃own',qv C (qa σ [⟨s0,true,av0⟩,⟨d,true,av⟩]) (tm.setIfInBounds d v) w' own':=by
 have eD:qb (qa σ [⟨s0,true,av0⟩,⟨d,true,av⟩]) d=((qb σ d).1+1,av):=by
  show qb (qr (qr σ ⟨s0,true,av0⟩) ⟨d,true,av⟩) d=_
  rw [qk _ ⟨d,true,av⟩ (by rw [qD]; exact hd),qc _ _ (show d≠s0 from fun e=>hne e.symm)]
  rfl
 have eS:qb (qa σ [⟨s0,true,av0⟩,⟨d,true,av⟩]) s0=((qb σ s0).1+1,av0):=by
  show qb (qr (qr σ ⟨s0,true,av0⟩) ⟨d,true,av⟩) s0=_
  rw [qc _ _ hne,qk σ ⟨s0,true,av0⟩ hs0]
  rfl
 have eO:∀x,x≠s0→x≠d→qb (qa σ [⟨s0,true,av0⟩,⟨d,true,av⟩]) x=qb σ x:=fun x h1 h2=>by
  show qb (qr (qr σ ⟨s0,true,av0⟩) ⟨d,true,av⟩) x=_
  rw [qc _ _ h2,qc _ _ h1]
 let own':Nat→List Nat:=fun x=>if x=d then bs else if x=s0 then b1++b3 else own x
 have oD:own' d=bs:=by simp [own']
 have oS:own' s0=b1++b3:=by simp [own',hne]
 have hns:=h.nodup s0
 rw [ho] at hns
 have n1:=List.nodup_append.1 hns
 have n2:=List.nodup_append.1 n1.2.1
 have sub0:∀b,b∈b1++b3→b∈own s0:=fun b hb=>by
  rw [ho]
  rcases List.mem_append.1 hb with hb|hb
  ·exact List.mem_append_left _ hb
  ·exact List.mem_append_right _ (List.mem_append_right _ hb)
 have not2:∀b,b∈b1++b3→b∉b2:=fun b hb hb2=>by
  rcases List.mem_append.1 hb with hb|hb
  ·exact n1.2.2 b hb b (List.mem_append_left _ hb2) rfl
  ·exact n2.2.2 b hb2 b hb rfl
 have dis:∀b,b∈bs→b∈b1++b3→False:=fun b h1 h2=>by
  rcases hb b h1 with h3|h3|h3
  ·have:=(h.mine s0 b (sub0 b h2)).2; omega
  ·exact hne (h.apart s0 d b (sub0 b h2) h3)
  ·exact not2 b h2 h3
 have keep:∀ {av1:AV} {v1:Value} {bs1:List Nat},av1.mentions=[]→qL { sit C σ tm w own with w:=w' } av1 v1 bs1→qL (sit C (qa σ [⟨s0,true,av0⟩,⟨d,true,av⟩]) (tm.setIfInBounds d v) w' own') av1 v1 bs1:=by
  intro av1 v1 bs1 hm1 hr1
  refine qL.keep (X:= { sit C σ tm w own with w:=w' }) (X':=sit C _ _ w' own') ⟨rfl,rfl⟩ (fun x hx hlt=> ?_) (fun _ _ _=>rfl) (fun m hmm=>by rw [hm1] at hmm; cases hmm) hr1
  have hx':C.free w own x:=hx
  refine ⟨⟨hx'.1,Nat.lt_of_lt_of_le hx'.2.1 hk.size,fun s hs=> ?_⟩,hlt,rfl⟩
  have hs:x∈own' s:=hs
  simp only [own'] at hs
  split at hs
  ·rcases hb x hs with h1|h1|h1
   ·have:=hx'.2.1; omega
   ·exact hx'.2.2 _ h1
   ·exact hx'.2.2 s0 (by rw [ho]; exact List.mem_append_right _ (List.mem_append_left _ h1))
  ·split at hs
   ·exact hx'.2.2 s0 (sub0 x hs)
   ·exact hx'.2.2 _ hs
 refine ⟨own',h.update (fun x=>x=s0∨x=d) (qj _ _) (by simp) ?_ ?_ (hk.mono ?_) ?_ ?_ ?_ ?_ ?_⟩
 ·intro x hx
  have h1:x≠s0:=fun e=>hx (.inl e)
  have h2:x≠d:=fun e=>hx (.inr e)
  exact ⟨eO x h1 h2,qB tm _ h2,by simp [own',h1,h2]⟩
 ·rintro x (rfl|rfl)
  ·rw [eS]; exact .inl (Nat.lt_succ_self _)
  ·rw [eD]; exact .inl (Nat.lt_succ_self _)
 ·rintro k (hk|hk)
  ·exact ⟨d,.inr rfl,hk⟩
  ·exact ⟨s0,.inl rfl,by rw [ho]; exact List.mem_append_right _ (List.mem_append_left _ hk)⟩
 ·rintro x (rfl|rfl) <;> assumption
 ·rintro x (rfl|rfl)
  ·rw [oS]
   exact ⟨fun b hbm=> .inr ⟨x,.inl rfl,sub0 b hbm⟩,List.nodup_append.2 ⟨n1.1,n2.2.1,fun b hb b' hb'=>n1.2.2 b hb b' (List.mem_append_right _ hb')⟩⟩
  ·rw [oD]
   refine ⟨fun b hbm=> ?_,hnd⟩
   rcases hb b hbm with h1|h1|h1
   ·exact .inl h1
   ·exact .inr ⟨x,.inr rfl,h1⟩
   ·exact .inr ⟨s0,.inl rfl,by rw [ho]; exact List.mem_append_right _ (List.mem_append_left _ h1)⟩
 ·rintro x y b (rfl|rfl) (rfl|rfl) hb1 hb2
  ·rfl
  ·rw [oS] at hb1; rw [oD] at hb2; exact (dis b hb2 hb1).elim
  ·rw [oD] at hb1; rw [oS] at hb2; exact (dis b hb1 hb2).elim
  ·rfl
 ·rintro x (rfl|rfl)
  ·rw [eS,oS,qB tm _ hne]
   exact keep hm0 hrep0
  ·rw [eD,oD,qaj tm v (by rw [h.size]; exact hd)]
   exact keep hm hrep
 ·rintro x (rfl|rfl) m hmm
  ·rw [eS,hm0] at hmm; cases hmm
  ·rw [eD,hm] at hmm; cases hmm
theorem qv.mutK {tm:Array Value} (h:qv C σ tm w own) {s:Nat} (hs:s<σ.length) {b1 b2 b3:List Nat} (ho:own s=b1++(b2++b3)) (hptr:∀b,tm.getD s undef=ptr b 0→b∉b2) (hk:qa5 (fun k=>k∈b2) w w') {av:AV}
  (hrep:qL { sit C σ tm w own with w:=w' } av (tm.getD s undef) (own s)) (hm:av.mentions=[]):qv C (qa σ [⟨s,false,av⟩]) tm w' own:=by
 have eS:qb (qa σ [⟨s,false,av⟩]) s=((qb σ s).1,av):=qk σ ⟨s,false,av⟩ hs
 refine h.update (fun x=>x=s) (qj _ _) rfl ?_ ?_ (hk.mono ?_) ?_ ?_ ?_ ?_ ?_
 ·intro x hx
  exact ⟨qc σ ⟨s,false,av⟩ hx,rfl,rfl⟩
 ·rintro x rfl
  rw [eS]
  exact .inr ⟨rfl,rfl,fun b hb hp=>⟨hb,hk.block b (h.mine x b hb).2 (hptr b hp)⟩⟩
 ·intro k hk
  exact ⟨s,rfl,by rw [ho]; exact List.mem_append_right _ (List.mem_append_left _ hk)⟩
 ·rintro x rfl; exact hs
 ·rintro x rfl
  exact ⟨fun b hb=> .inr ⟨x,rfl,hb⟩,h.nodup x⟩
 ·rintro x y b rfl rfl _ _
  rfl
 ·rintro x rfl
  rw [eS]
  refine qL.keep (X:= { sit C σ tm w own with w:=w' }) (X':=sit C _ _ w' own) ⟨rfl,rfl⟩ (fun x hx hlt=> ?_) (fun _ _ _=>rfl) (fun m hmm=>by rw [hm] at hmm; cases hmm) hrep
  have hx':C.free w own x:=hx
  exact ⟨⟨hx'.1,Nat.lt_of_lt_of_le hx'.2.1 hk.size,hx'.2.2⟩,hlt,rfl⟩
 ·rintro x rfl m hmm
  rw [eS,hm] at hmm; cases hmm
theorem qdQ {av a':AV} {m:BC} {fo:Option Nat} (h:av.swapRow m fo=some a'):a'.mentions=[]:=by
 unfold AV.swapRow at h
 split at h
 ·split at h
  ·injection h with h; subst h; rfl
  ·injection h with h; subst h; rfl
  ·cases h
 ·split at h
  ·rw [Option.map_eq_some_iff] at h
   obtain ⟨c,_,rfl⟩:=h
   rfl
  ·cases h
 ·cases h
theorem qof (h:qv C σ a.tmps w own) {t s v0 sz off:Nat} {u:Ty} {fo fo':Option Nat} {i i':Int} {o1 t0 v1:Nat} {av:AV} {x1:Op1} {v p:Value} (hT:TyB C.P t u) (hp:qL (sit C σ a.tmps w own) (.prow s v0 fo sz i off) p []) (hs:(qb σ s).2= .hol av fo' i' o1 t0 v1)
  (ho:qas (sit C σ a.tmps w own) x1 v) (hdst:o.dst=none) {f:Eff} (he:(putE u x1 s v0 fo sz i off (qb σ s) av fo' i' o1).run (qb σ)=some f) (hd:∀u∈f.upd,u.s<σ.length) (hc:∀b∈f.chk,b=true)
  (hx:(execOp a.eval o).run C.P w=((Instr.storeAt t p v).run C.P w).andThen fun _ w'=> .ok .skip w'):qbh C o a w (qa σ f.upd):=by
 have hput:(a.put o.dst undef).tmps=a.tmps:=by rw [hdst]; rfl
 obtain ⟨xs1,xv,xa⟩:=x1
 unfold putE at he
 split at he
 case h_2=>cases he
 rename_i e' sx et' e'' ys et e xs h1 h2 hrow
 simp only at h1 h2
 subst h1; subst h2
 split at he
 case isFalse=>cases he
 rename_i hcond
 obtain ⟨hv,hfo,hoff,hne,hsz,hna,hat,hmk,hsub⟩:=hcond
 subst hfo; subst hoff; subst hsz
 obtain ⟨y0,hsub⟩:=Option.isSome_iff_exists.1 hsub
 split at he
 case h_2=>cases he
 rename_i ys' hys
 split at he
 case h_2=>cases he
 rename_i y hy
 split at he
 case h_2=>cases he
 rename_i a' hsw
 have:=Q.ret_some he
 subst this
 obtain ⟨hee,hyy⟩:=Ty.as_some hys
 injection hee with hee
 subst hee
 have hyy:ys=ys':=hyy
 subst hyy
 have hii:i=i':=by
  have:=hc (eqI i i') (by simp)
  simpa [qeb] using this
 subst hii
 obtain ⟨hv2,hv3,hr⟩:=ho
 have hr:qJ w (C.free w own) et' e'' ys v (own sx):=qA.to0 hmk hr
 obtain ⟨g',n',cap',k1,k2,k3,rfl⟩:=hp.2 hv
 obtain ⟨g,n,cap,b1,b2,b3,j1,j2,j3,j4,j5,j6,j7,j8⟩:=h.holRow hs hrow
 have e1:=k1.inj j4
 injection e1 with e1 e2 e3
 injection e1 with e1
 injection e1 with e1 _ _
 subst e1; subst e2; subst e3
 have hnds:=h.nodup s
 rw [j6] at hnds
 have hb2n:b2.Nodup:=(List.nodup_append.1 (List.nodup_append.1 hnds).2.1).1
 have hgb2:g'∈b2:=by
  obtain ⟨_,_,_,_,e2,_⟩:=j3
  rw [e2]; simp [Value.ownBlock]
 have hb2s:∀b∈b2,b∈own s:=fun b hb=>by rw [j6]; exact List.mem_append_right _ (List.mem_append_left _ hb)
 have hgs:g'∈own s:=hb2s _ hgb2
 obtain ⟨W,p,q,w1,w2,w3,w4⟩:=qdM.put hT j3 hb2n (fun x hx e=>hx.2.2 s (e ▸ hgs)) k2 k3 hna hsub hat hy hr (fun hm=>hne (h.apart sx s g' hm hgs))
 rw [w1] at hx
 refine qdl hx ?_
 rw [hput]
 have hsl:s<σ.length:=hd ⟨s,false,a'⟩ (by simp)
 have hsx:sx<σ.length:=hd ⟨sx,true,.undef⟩ (by simp)
 let nbS:List Nat:=b1++((g'::(p++(own sx++q)))++b3)
 have hperm:nbS.Perm (own s++own sx):=by
  rw [j6,w3]
  refine List.perm_iff_count.2 fun x=> ?_
  simp only [nbS,List.count_append,List.count_cons]
  omega
 have hnn:(own s++own sx).Nodup:=List.nodup_append.2 ⟨h.nodup s,h.nodup sx,fun b hb b' hb' e=>by subst e; exact hne (h.apart sx s b hb' hb)⟩
 let nb:Nat→List Nat:=fun x=>if x=s then nbS else []
 have nS:nb s=nbS:=by simp [nb]
 have nX:nb sx=[]:=by simp [nb,hne]
 have mem:∀u:U,u∈([⟨s,false,a'⟩,⟨sx,true,.undef⟩]:List U)→u=⟨s,false,a'⟩∨u=⟨sx,true,.undef⟩:=fun u hu=>by simpa using hu
 refine Exists.elim (h.multi (tm':=a.tmps) (w':=W) [⟨s,false,a'⟩,⟨sx,true,.undef⟩] nb (by simp [Ne.symm hne]) (fun u hu=>hd u hu) rfl (fun _ _=>rfl) (fun u hu=> ?_) (w2.mono fun k hk=>⟨⟨s,false,a'⟩,by simp,by rw [hk]; exact hgs⟩) (fun u hu=> ?_) (fun u hu u' hu' b hb hb'=> ?_) (fun X' hP hpn hw hF hF2 hver htm u hu=> ?_) (fun u hu m hm=> ?_)) fun own' hfin=>⟨own',hfin.1⟩
 ·rcases mem u hu with rfl|rfl
  ·refine .inr ⟨rfl,fun b hb hp=>⟨?_,?_⟩⟩
   ·show b∈nb s
    rw [nS]
    exact hperm.mem_iff.2 (List.mem_append_left _ hb)
   ·exact w2.block b (h.mine s b hb).2 fun e=>j7 b hp (by rw [e]; exact hgb2)
  ·exact .inl rfl
 ·rcases mem u hu with rfl|rfl
  ·simp only [nS]
   refine ⟨fun b hb=> ?_,hperm.nodup_iff.2 hnn⟩
   rcases List.mem_append.1 (hperm.mem_iff.1 hb) with hb|hb
   ·exact .inr ⟨⟨s,false,a'⟩,by simp,hb⟩
   ·exact .inr ⟨⟨sx,true,.undef⟩,by simp,hb⟩
  ·simp only [nX]
   exact ⟨(fun b hb=>by cases hb),List.nodup_nil⟩
 ·rcases mem u hu with rfl|rfl <;> rcases mem u' hu' with rfl|rfl
  ·rfl
  ·simp only [nX] at hb'; cases hb'
  ·simp only [nX] at hb; cases hb
  ·rfl
 ·rcases mem u hu with rfl|rfl
  ·simp only [nS]
   refine (j8 X' (.own et e (qcr xs i y)) (g'::(p++(own sx++q))) a' ?_ hF ⟨_,rfl,?_⟩ hsw).1
   ·rw [hw]; exact w2.mono fun k hk=>by rw [hk]; exact hgb2
   ·rw [hw]
    exact qdM.keep (fun b hb hlt=>⟨hF b hb,hlt,rfl⟩) (fun _ _ _=>rfl) w4
  ·trivial
 ·rcases mem u hu with rfl|rfl
  ·rw [qdQ hsw] at hm; cases hm
  ·cases hm
theorem qlZ (hE:qai E C.P) (h:qv C σ a.tmps w own) (hpt:qm8 (sit C σ a.tmps w own)) {t:Nat} {p1 x1:Op1} {p v:Value} (hp:qas (sit C σ a.tmps w own) p1 p) (ho:qas (sit C σ a.tmps w own) x1 v) (hdst:o.dst=none) {f:Eff}
  (he:(qmO E t p1 x1).run (qb σ)=some f) (hd:∀u∈f.upd,u.s<σ.length) (hck:∀b∈f.chk,b=true) (hx:(execOp a.eval o).run C.P w=((Instr.storeAt t p v).run C.P w).andThen fun _ w'=> .ok .skip w'):qbh C o a w (qa σ f.upd):=by
 have hput:(a.put o.dst undef).tmps=a.tmps:=by rw [hdst]; rfl
 unfold qmO at he
 split at he
 ·cases he
 rename_i u hu
 have hT:=hE.ty t u hu
 split at he
 ·rename_i s v0 off hb
  obtain ⟨n,h1,h2⟩:=Q.bind_some he
  split at h2
  ·rename_i hcond
   simp only [Bool.and_eq_true,List.isEmpty_iff,Bool.not_eq_true'] at hcond
   obtain ⟨hc1,hc2⟩:=hcond
   rw [Q.run_get] at h2
   split at h2
   ·rename_i hv
    split at h2
    ·rename_i c hc
     split at h2
     ·rename_i c' hput'
      have:=qg h2
      subst this
      obtain ⟨b,hpb,rfl,_⟩:=qct h hpt hp hb hv
      obtain ⟨b',cs,bs',te,k1,k2,k3,k4⟩:=h.box hc
      rw [hpb] at k1
      obtain ⟨rfl,_⟩:=qbk k1
      obtain ⟨b2,q1,q2,q3,q4⟩:=qeu h ho h1 hc1
      obtain ⟨g1,bn,g2,g3,g4⟩:=qP.put q1 k3 hput'
      have hrun:=qeX (w:=w) hT (v:=v) (off:=off) k2 q2 (by simp; omega) q3
      rw [hrun] at hx
      refine qdl hx ?_
      rw [hput]
      have hnd:=h.nodup s
      rw [k4] at hnd
      have hsplice:(cs.toArray.toList.take off++v.cells.toList++cs.toArray.toList.drop (off+u.size)).toArray=(qT cs off v.cells.toList).toArray:=by
       rw [qT,q2]
      rw [hsplice]
      generalize hW:w.setRow b (qT cs off v.cells.toList).toArray=W
      have hkept:qa5 (fun k=>k=b) w W:=by rw [←hW]; exact qcB _ k2
      have hheap:W.heap[b]? =some (.cells (qT cs off v.cells.toList).toArray te (0,0)):=by rw [←hW]; exact setRow_heap w b _ _ te _ k2
      have hsl:s<σ.length:=hd ⟨s,true,.box c'⟩ (by simp)
      have hbs:b∈own s:=by rw [k4]; exact List.mem_cons_self
      have fin:∀cons:List Nat,n.2.2=cons.map (fun s=>⟨s,true,.undef⟩)→(∀s'∈cons,s'<σ.length∧s'≠s)→(∀x∈b2,∃s'∈cons,x∈own s')→b∉b2→(bs'++b2).Nodup→
        ∃own',qv C (qa σ (n.2.2++[⟨s,true,.box c'⟩])) a.tmps W own':=by
       intro cons e1 e2 e3 e4 e5
       have hbn:b∉bn:=fun hbm=>by
        rcases g3 b hbm with hbm|hbm
        ·exact (List.nodup_cons.1 hnd).1 hbm
        ·exact e4 hbm
       have key:=h.mut hsl cons e2 (w':=W) (hkept.mono fun k hk=> .inl (by rw [hk]; exact hbs)) (av:= .box c') (v:=a.tmps.getD s undef) (bs:=b::bn)
        (fun x hx=>by
         rcases List.mem_cons.1 hx with rfl|hx
         ·exact .inr (.inl hbs)
         ·rcases g3 x hx with hx|hx
          ·exact .inr (.inl (by rw [k4]; exact List.mem_cons_of_mem _ hx))
          ·exact .inr (.inr (e3 x hx)))
        (List.nodup_cons.2 ⟨hbn,g4 e5⟩)
        ⟨b,_,bn,te,hpb,hheap,g2.keep (fun x hx hlt=>⟨hx,Nat.lt_of_lt_of_le hlt hkept.size,hkept.block x hlt fun e=>hx.2.2 s (by rw [e]; exact hbs)⟩) (fun x hx hlt=>hkept.block x hlt fun e=>hbn (by rw [←e]; exact hx)),rfl⟩ rfl
       rw [qkK a.tmps (by rw [h.size]; exact hsl),←e1] at key
       exact key
      rcases q4 with ⟨e1,e2⟩|⟨s',e1,e2⟩
      ·subst e2
       exact fin [] (by rw [e1]; rfl) (fun _ hx=>by cases hx) (fun _ hx=>by cases hx) (by simp) (by simpa using (List.nodup_cons.1 hnd).2)
      ·subst e2
       have hne:s'≠s:=by
        intro e
        rw [e1,e] at hc2
        simp at hc2
       have hdis:∀x,x∈own s'→x∉own s:=fun x hx hx'=>hne (h.apart s' s x hx hx')
       refine fin [s'] (by rw [e1]; rfl) (fun x hx=> ?_) (fun x hx=>⟨s',by simp,hx⟩) (fun hbm=>hdis b hbm hbs) (List.nodup_append.2 ⟨(List.nodup_cons.1 hnd).2,h.nodup s',fun x hx y hy e=> ?_⟩)
       ·simp at hx
        subst hx
        exact ⟨hd ⟨x,true,.undef⟩ (by rw [e1]; simp),hne⟩
       ·subst e
        exact hdis x hy (by rw [k4]; exact List.mem_cons_of_mem _ hx)
     ·cases h2
    ·cases h2
   ·cases h2
  ·cases h2
 ·split at he
  ·rename_i s v0 fo sz i off hpa
   rw [Q.run_get] at he
   split at he
   ·rename_i av fo' i' o1 t0 v1 hs
    exact qof h hT (hpa ▸ hp.unowned (by rw [hpa]; rfl)) hs ho hdst he hd hck hx
   obtain ⟨r,h1,h2⟩:=Q.bind_some he
   split at h2
   ·cases h2
   rename_i hcond
   have hns:s∉r.2:=by simpa using hcond
   obtain ⟨fz,h3,h4⟩:=Q.bind_some h2
   clear h2
   rw [Q.run_get] at h4
   split at h4
   case isFalse=>cases h4
   rename_i hv
   split at h4
   case h_2=>cases h4
   rename_i et e xs hown
   split at h4
   case isFalse=>cases h4
   rename_i hsz
   obtain ⟨hsz,hmk⟩:=hsz
   subst hsz
   split at h4
   case h_2=>cases h4
   rename_i y hy
   split at h4
   case h_2=>cases h4
   rename_i a' hsw
   have:=qg h4
   subst this
   obtain ⟨own1,f1,_,f3,f4⟩:=qbm r.2 h h3
   obtain ⟨f5,f6⟩:=f3 s hns
   obtain ⟨_,hpp⟩:=hpa ▸ hp.unowned (by rw [hpa]; rfl)
   obtain ⟨g,n,cap,k1,k2,k3,rfl⟩:=hpp hv
   have k1':qbd (sit C (qa σ fz) a.tmps w own1) s fo (.slice (some ⟨g,0,none⟩) n cap):=by
    cases fo with
    |none=>exact k1
    |some o=>
     obtain ⟨b,m1,m2⟩:=k1
     exact ⟨b,by show b∈own1 s; rw [f5]; exact m1,m2⟩
   obtain ⟨hsl,b1,b2,b3,q1,q2,q3,q4⟩:=f1.rowAt (by rw [f6]; exact hown) k1'
   have hrv:=qbc h ho h1
   have hrc:Rep w (C.free w own1) u r.1 v.cells.toList:=hrv.1.keep fun b hb hs=>⟨f4 b hb,hs,rfl⟩
   have hg:g∈b2:=by
    obtain ⟨_,_,_,_,e2,_⟩:=q1
    rw [e2]; simp [Value.ownBlock]
   have hgs:g∈own1 s:=by rw [q2]; exact List.mem_append_right _ (List.mem_append_left _ hg)
   have hnd2:b2.Nodup:=by
    have h0:=f1.nodup s
    rw [q2] at h0
    exact (List.nodup_append.1 (List.nodup_append.1 h0).2.1).1
   obtain ⟨W,hrun,hkept,hrow'⟩:=qdM.store hT q1 hnd2 (fun x hx e=>hx.2.2 s (by rw [e]; exact hgs)) k2 k3 hmk hy hrc
   rw [hrun] at hx
   refine qdl hx ?_
   rw [hput]
   have hkept2:qa5 (fun k=>k∈b2) w W:=hkept.mono fun k hk=>by rw [hk]; exact hg
   obtain ⟨g1,g2⟩:=q4 W (.own et e (qcr xs i y)) b2 a' hkept2 ⟨_,rfl,hrow'⟩ (by rw [f6]; exact hsw)
   rw [qao]
   exact ⟨own1,f1.mutK hsl q2 q3 hkept2 (by rw [q2]; exact g1) g2⟩
  ·rename_i s v0 off n e i o2 hpa
   obtain ⟨r,h1,h2⟩:=Q.bind_some he
   split at h2
   case isFalse=>cases h2
   rename_i hcond
   rw [List.isEmpty_iff] at hcond
   rw [Q.run_get] at h2
   split at h2
   case isFalse=>cases h2
   rename_i hv
   split at h2
   case h_2=>cases h2
   rename_i c hc
   split at h2
   case h_2=>cases h2
   rename_i xs hg
   split at h2
   case h_2=>cases h2
   rename_i y hy
   split at h2
   case h_2=>cases h2
   rename_i c' hput'
   have:=qg h2
   subst this
   obtain ⟨i0,i1,b,hpb,rfl,_⟩:=qks hpt (hpa ▸ hp.unowned (by rw [hpa]; rfl)) hv
   obtain ⟨b',cs,bs',te,k1,k2,k3,k4⟩:=h.box hc
   rw [hpb] at k1
   obtain ⟨rfl,_⟩:=qbk k1
   have hrv:=qbc h ho h1
   rw [hcond] at hrv
   have hrc:Rep w (C.free w own) u r.1 v.cells.toList:=hrv.1.keep fun b hb hs=>⟨qhK hb,hs,rfl⟩
   obtain ⟨g1,_,g3⟩:=k3.get hg
   have hreg:=g3 rfl
   have hregl:=hreg.length
   obtain ⟨x,m1,m2,m3⟩:=hreg.elem (i:=i.toNat) (by omega)
   rw [qbZ m1] at hy
   obtain ⟨u1,u2⟩:=m2.upd hrc hy
   have hml:=m2.length
   have hvl:=hrc.length
   have hnew:=hreg.setElem (i:=i.toNat) (by omega) u2
   have hi:((i.toNat:Nat):Int)=i:=by omega
   rw [hi] at hnew
   have hinner:List.take o2 (List.take e.size (List.drop (i.toNat * e.size) (List.take (Ty.arr n e).size (List.drop off cs))))++v.cells.toList++List.drop (o2+u.size) (List.take e.size (List.drop (i.toNat * e.size) (List.take (Ty.arr n e).size (List.drop off cs))))=qT (List.take e.size (List.drop (i.toNat * e.size) (List.take (Ty.arr n e).size (List.drop off cs)))) o2 v.cells.toList:=by
    rw [qT,hvl]
   rw [hinner,qhf (by omega) (by omega)] at hnew
   obtain ⟨p1',bn,p2,p3,p4⟩:=qP.put (b2:=[]) (qP.ofVal hnew) k3 hput'
   rw [qhf (p:=off) (n:=(Ty.arr n e).size) (q:=i.toNat * e.size+o2) (ds:=v.cells.toList) (by omega) (by omega)] at p2
   have hrun:=qeX (w:=w) hT (v:=v) (off:=off+i.toNat * e.size+o2) k2 hvl (by simp; omega) (fun z hz=>hrc.oneCell z hz)
   rw [hrun] at hx
   refine qdl hx ?_
   rw [hput]
   have hnd:=h.nodup s
   rw [k4] at hnd
   have hsplice:(cs.toArray.toList.take (off+i.toNat * e.size+o2)++v.cells.toList++cs.toArray.toList.drop (off+i.toNat * e.size+o2+u.size)).toArray=(qT cs (off+(i.toNat * e.size+o2)) v.cells.toList).toArray:=by
    rw [qT,hvl,Nat.add_assoc]
   rw [hsplice]
   generalize hW:w.setRow b (qT cs (off+(i.toNat * e.size+o2)) v.cells.toList).toArray=W
   have hkept:qa5 (fun k=>k=b) w W:=by rw [←hW]; exact qcB _ k2
   have hheap:W.heap[b]? =some (.cells (qT cs (off+(i.toNat * e.size+o2)) v.cells.toList).toArray te (0,0)):=by rw [←hW]; exact setRow_heap w b _ _ te _ k2
   have hsl:s<σ.length:=hd ⟨s,true,.box c'⟩ (by simp)
   have hbs:b∈own s:=by rw [k4]; exact List.mem_cons_self
   have hbn:b∉bn:=fun hbm=>by
    rcases p3 b hbm with hbm|hbm
    ·exact (List.nodup_cons.1 hnd).1 hbm
    ·cases hbm
   have key:=h.mut hsl [] (fun _ hx=>by cases hx) (w':=W) (hkept.mono fun k hk=> .inl (by rw [hk]; exact hbs)) (av:= .box c') (v:=a.tmps.getD s undef) (bs:=b::bn)
    (fun x hx=>by
     rcases List.mem_cons.1 hx with rfl|hx
     ·exact .inr (.inl hbs)
     ·rcases p3 x hx with hx|hx
      ·exact .inr (.inl (by rw [k4]; exact List.mem_cons_of_mem _ hx))
      ·cases hx)
    (List.nodup_cons.2 ⟨hbn,p4 (by simpa using (List.nodup_cons.1 hnd).2)⟩)
    ⟨b,_,bn,te,hpb,hheap,p2.keep (fun x hx hlt=>⟨hx,Nat.lt_of_lt_of_le hlt hkept.size,hkept.block x hlt fun e=>hx.2.2 s (by rw [e]; exact hbs)⟩) (fun x hx hlt=>hkept.block x hlt fun e=>hbn (by rw [←e]; exact hx)),rfl⟩ rfl
   rw [qkK a.tmps (by rw [h.size]; exact hsl)] at key
   exact key
  ·cases he
end
end Go.Vi
namespace Go.Vi
open Go.RowKit
section
variable {C:Ctx} {E:Env} {σ:St} {a:Act} {w w':World} {own:Nat→List Nat} {o:Oper} [Tabbed E C]
theorem qv.newBox (h:qv C σ a.tmps w own) {d:Nat} (hd:d<σ.length) (cons:List Nat) (hcons:∀s∈cons,s<σ.length∧s≠d) {c:BC} {cs:List Value} {bs:List Nat} {te:Nat} (hc:qP w (C.free w own) c cs bs)
  (hb:∀b∈bs,∃s∈cons,b∈own s) (hnd:bs.Nodup):∃own',qv C (qa σ (cons.map (fun s=>⟨s,true,.undef⟩)++[⟨d,true,.box c⟩])) (a.tmps.setIfInBounds d (ptr w.heap.size 0)) (w.alloc (.cells cs.toArray te)) own':=by
 have hlt:∀b∈bs,b<w.heap.size:=fun b hbm=>by
  obtain ⟨s,_,hs⟩:=hb b hbm
  exact (h.mine s b hs).2
 have hold:∀k,k<w.heap.size→(w.alloc (.cells cs.toArray te)).heap[k]? =w.heap[k]? :=fun k hk=>qdh w _ _ hk
 refine h.mut hd cons hcons ((qa5.alloc (fun _=>False) w (.cells cs.toArray te)).mono fun _ h=>h.elim) (bs:=w.heap.size::bs) (fun b hbm=> ?_) (List.nodup_cons.2 ⟨fun hm=>by have:=hlt _ hm; omega,hnd⟩) ?_ rfl
 ·rcases List.mem_cons.1 hbm with rfl|hbm
  ·exact .inl ⟨Nat.le_refl _,by simp⟩
  ·exact .inr (.inr (hb b hbm))
 ·exact ⟨w.heap.size,cs,bs,te,rfl,heap_alloc_new w _,hc.keep (fun b hb hlt=>⟨hb,by simp; omega,hold b hlt⟩) (fun b _ hlt=>hold b hlt),rfl⟩
theorem qoL (h:qv C σ a.tmps w own) {t:Nat} {x1:Op1} {v:Value} (ho:qas (sit C σ a.tmps w own) x1 v) {f:Eff} (he:(boxE E o t x1).run (qb σ)=some f) (hd:∀u∈f.upd,u.s<σ.length)
  (hx:(execOp a.eval o).run C.P w= .ok (.value (ptr w.heap.size 0)) (w.alloc (.cells v.cells t))):qbh C o a w (qa σ f.upd):=by
 unfold boxE at he
 split at he
 ·rename_i u d hu hdst
  obtain ⟨c,h1,h2⟩:=Q.bind_some he
  split at h2
  ·rename_i hcond
   simp only [Bool.and_eq_true,List.isEmpty_iff,Bool.not_eq_true'] at hcond
   obtain ⟨hc1,hc2⟩:=hcond
   have:=qg h2
   subst this
   obtain ⟨b2,q1,q2,q3,q4⟩:=qeu h ho h1 hc1
   refine qe hx ?_
   rw [qbU a hdst]
   have hv:v.cells.toList.toArray=v.cells:=by simp
   rcases q4 with ⟨e1,e2⟩|⟨s',e1,e2⟩
   ·subst e2
    have:=h.newBox (d:=d) (hd ⟨d,true,.box c.1⟩ (by simp)) [] (fun _ hs=>by cases hs) (te:=t) q1 (fun _ hb=>by cases hb) List.nodup_nil
    rw [hv] at this
    rw [e1]
    exact this
   ·subst e2
    have hne:s'≠d:=by
     intro e
     rw [e1,e] at hc2
     simp at hc2
    have:=h.newBox (d:=d) (hd ⟨d,true,.box c.1⟩ (by simp)) [s'] (fun s hs=>by
     simp at hs
     subst hs
     exact ⟨hd ⟨s,true,.undef⟩ (by rw [e1]; simp),hne⟩) (te:=t) q1 (fun b hb=>⟨s',by simp,hb⟩) (h.nodup s')
    rw [hv] at this
    rw [e1]
    exact this
  ·cases h2
 ·cases he
theorem ql7 (hE:qai E C.P) (h:qv C σ a.tmps w own) {t:Nat} {c:BC} (hc:E.zero t=some c) (hd:∀u∈qaq o (.box c),u.s<σ.length) {z:Value} {i:TypeInfo} (hi:C.P.info? t=some i) (hz:i.zero=some z)
  (hx:(execOp a.eval o).run C.P w= .ok (.value (ptr w.heap.size 0)) (w.alloc (.cells z.cells t))):qbh C o a w (qa σ (qaq o (.box c))):=by
 obtain ⟨i',z',h1,h2,h3⟩:=hE.zero t c hc
 rw [hi] at h1
 injection h1 with h1
 subst h1
 rw [hz] at h2
 injection h2 with h2
 subst h2
 refine qe hx ?_
 unfold qaq at *
 cases hdst:o.dst with
 |none=>exact ⟨own,h.world (qa5.alloc _ _ _)⟩
 |some d=>
  rw [hdst] at hd
  have:=h.newBox (d:=d) (hd ⟨d,true,.box c⟩ (by simp)) [] (fun _ hs=>by cases hs) (te:=t) (h3 w _) (fun _ hb=>by cases hb) List.nodup_nil
  simpa [Act.put] using this
theorem qnz (h:qv C σ a.tmps w own) (hpt:qm8 (sit C σ a.tmps w own)) {n:Nat} {x1:Op1} {p:Value} (ho:qas (sit C σ a.tmps w own) x1 p) (hw:∀m∈x1.a.mentions,m.2≤(qb σ m.1).1) {f:Eff} (he:(qov o n x1).run (qb σ)=some f) (hd:∀u∈f.upd,u.s<σ.length)
  (hx:∀ad,p= .pointer (some ad)→(execOp a.eval o).run C.P w= .ok (.value (.pointer (some (ad.add n)))) w):qbh C o a w (qa σ f.upd):=by
 unfold qov at he
 split at he
 ·rename_i s v0 b0 hb
  rw [Q.run_get] at he
  split at he
  ·rename_i hv
   have:=qg he
   subst this
   obtain ⟨b,h1,rfl,h2⟩:=qct h hpt ho hb hv
   obtain ⟨q1,q2⟩:=qk6 (off:=b0+n) (v:= .pointer (some ((⟨b,b0,none⟩:Addr).add n))) h hv h1 (by rw [qH]; rfl) h2
   exact qe (hx _ rfl) (h.dst0 hd q1 q2)
  ·cases he
 ·split at he
  ·rename_i s v0 fo sz i b hxa
   rw [Q.run_get] at he
   split at he
   ·rename_i hv
    have:=qg he
    subst this
    have hp:=ho.unowned (by rw [hxa]; rfl)
    rw [hxa] at hp hw
    obtain ⟨g,k,cap,k1,k2,k3,rfl⟩:=hp.2 hv
    refine qe (hx _ rfl) (h.dst0 hd ⟨rfl,fun _=>⟨g,k,cap,k1,k2,k3,?_⟩⟩ hw)
    rw [qH,Nat.add_assoc]; rfl
   ·cases he
  ·rename_i t x b hxa
   have:=qg he
   subst this
   have hp:=ho.unowned (by rw [hxa]; rfl)
   rw [hxa] at hp
   obtain ⟨_,ad,cs,rfl,g1⟩:=hp
   refine qe (hx _ rfl) (h.dst0 hd ⟨rfl,ad,cs,?_,g1⟩ (fun m hm=>by cases hm))
   rw [qaf]
  ·rename_i s v0 b k e i o2 hxa
   rw [Q.run_get] at he
   split at he
   case isFalse=>cases he
   rename_i hv
   have:=qg he
   subst this
   obtain ⟨i0,i1,bb,h1,rfl,h2⟩:=qks hpt (hxa ▸ ho.unowned (by rw [hxa]; rfl)) hv
   obtain ⟨q1,q2⟩:=qm3 (C:=C) (w:=w) (own:=own) (off:=b) (o2:=o2+n) (v:= .pointer (some ((⟨bb,b+i.toNat * e.size+o2,none⟩:Addr).add n))) hv i0 i1 h1 (by rw [qH,Nat.add_assoc]; rfl) h2
   exact qe (hx _ rfl) (h.dst0 hd q1 q2)
  ·cases he
end
end Go.Vi
namespace Go.Vi
open Go.RowKit
theorem qbz (k:IntKind) (n:Int):k.has (k.wrap n):=by
 cases k <;> simp [IntKind.has,IntKind.wrap,IntKind.bits,IntKind.signed,IntKind.min,IntKind.max] <;> omega
theorem qh7 (k:IntKind):k.min≤0:=by cases k <;> decide
theorem qhY (k:IntKind):0≤k.max:=by cases k <;> decide
theorem qnN {k:IntKind} {x y:Int} (h:k.has x) (hy:y≠0):k.has (x.tmod y):=by
 have h1:=qh7 k
 have h2:=qhY k
 obtain ⟨h3,h4⟩:=h
 by_cases hx:0≤x
 ·have e1:0≤x.tmod y:=Int.tmod_nonneg y hx
  have e2:x.tmod y≤x:=by
   have:=Int.natAbs_tmod x y
   have h5:(x.natAbs % y.natAbs)≤x.natAbs:=Nat.mod_le _ _
   omega
  exact ⟨by omega,by omega⟩
 ·have h5:(x.natAbs % y.natAbs)≤x.natAbs:=Nat.mod_le _ _
  have:=Int.natAbs_tmod x y
  have e1:x.tmod y≤0:=by
   have:=Int.tmod_nonneg y (show 0≤ -x by omega)
   rw [Int.neg_tmod] at this
   omega
  exact ⟨by omega,by omega⟩
theorem qny {k:IntKind} {x:Int} (h:k.has x) (n:Nat):k.has (x.fdiv (2^n)):=by
 have h1:=qh7 k
 have h2:=qhY k
 obtain ⟨h3,h4⟩:=h
 have hp:(0:Int)<2^n:=by exact Int.pow_pos (by decide)
 have hp1:(1:Int)≤2^n:=hp
 have e:x.fdiv (2^n)=x / 2^n:=by rw [Int.fdiv_eq_ediv_of_nonneg _ (Int.le_of_lt hp)]
 rw [e]
 by_cases hx:0≤x
 ·have e1:0≤x / 2^n:=Int.ediv_nonneg hx (Int.le_of_lt hp)
  have e2:x / 2^n≤x:=Int.ediv_le_self _ hx
  exact ⟨by omega,by omega⟩
 ·have e1:x / 2^n<0:=Int.ediv_neg_of_neg_of_pos (by omega) hp
  have e2:x≤x / 2^n:=by
   rw [Int.le_ediv_iff_mul_le hp]
   have:x * 2^n≤x * 1:=Int.mul_le_mul_of_nonpos_left (by omega) hp1
   omega
  exact ⟨by omega,by omega⟩
def qbg (c:List Bool):Prop:=∀b∈c,b=true
section
variable {P:Program} {w:World} {F:Nat→Prop}
theorem qnD {op:BinOp} {k k':IntKind} {x y:Int} (hx:k.has x) (hy:k'.has y) (hk:(qgW op||decide (k=k'))=true) (hc:qbg (qj0 op k x y).2) (t:Nat):
  ∃v,(binOp op t (.int k x) (.int k' y)).run P w= .ok v w∧∃u z,(qj0 op k x y).1= .val u z∧qO w F u z v:=by
 by_cases hs:qgW op=true
 ·cases op <;> simp [qgW] at hs
  ·have h0:0≤y:=by simpa [qj0,qbg,qds] using hc
   exact ⟨.int k (shlI k x y),by simp [binOp,Op.shift,show ¬y<0 by omega,qk3],.int k,_,rfl,qO.ofInt _ _ (by rw [qk3]; exact qbz _ _)⟩
  ·have h0:0≤y:=by simpa [qj0,qbg,qds] using hc
   exact ⟨.int k (shrI k x y),by simp [binOp,Op.shift,show ¬y<0 by omega,qk0],.int k,_,rfl,qO.ofInt _ _ (by rw [qk0]; exact qny hx _)⟩
 ·have hkk:k=k':=by simpa [hs] using hk
  subst hkk
  cases op <;> simp [qgW] at hs
  ·exact ⟨.int k (qaX k x y),by simp [binOp,Op.intArith,qbf],.int k,_,rfl,qO.ofInt _ _ (by rw [qbf]; exact qbz _ _)⟩
  ·exact ⟨.int k (qcQ k x y),by simp [binOp,Op.intArith,qew],.int k,_,rfl,qO.ofInt _ _ (by rw [qew]; exact qbz _ _)⟩
  ·exact ⟨.int k (qfc k x y),by simp [binOp,Op.intArith,qiH],.int k,_,rfl,qO.ofInt _ _ (by rw [qiH]; exact qbz _ _)⟩
  ·have h0:y≠0:=by simpa [qj0,qbg,qfR] using hc
   exact ⟨.int k (iquo k x y),by simp [binOp,Op.intDiv,h0,qkV],.int k,_,rfl,qO.ofInt _ _ (by rw [qkV]; exact qbz _ _)⟩
  ·have h0:y≠0:=by simpa [qj0,qbg,qfR] using hc
   exact ⟨.int k (irem x y),by simp [binOp,Op.intDiv,h0,qlc],.int k,_,rfl,qO.ofInt _ _ (by rw [qlc]; exact qnN hx h0)⟩
  ·exact ⟨.int k (band k x y),by simp [binOp,Op.intBits,qk8],.int k,_,rfl,qO.ofInt _ _ (by rw [qk8]; exact qbz _ _)⟩
  ·exact ⟨.int k (bor k x y),by simp [binOp,Op.intBits,qmh],.int k,_,rfl,qO.ofInt _ _ (by rw [qmh]; exact qbz _ _)⟩
  ·exact ⟨.int k (bxor k x y),by simp [binOp,Op.intBits,qgh],.int k,_,rfl,qO.ofInt _ _ (by rw [qgh]; exact qbz _ _)⟩
  ·exact ⟨.int k (qiV k x y),by simp [binOp,Op.intBits,qgw],.int k,_,rfl,qO.ofInt _ _ (by rw [qgw]; exact qbz _ _)⟩
  ·exact ⟨.bool (eqI x y),by simp [binOp,Op.intCmp,qeb],.bool,_,rfl,qO.ofBool _ _ _⟩
  ·exact ⟨.bool (neI x y),by simp [binOp,Op.intCmp,qfR],.bool,_,rfl,qO.ofBool _ _ _⟩
  ·exact ⟨.bool (ltI x y),by simp [binOp,Op.intCmp,qin],.bool,_,rfl,qO.ofBool _ _ _⟩
  ·exact ⟨.bool (leI x y),by simp [binOp,Op.intCmp,qds],.bool,_,rfl,qO.ofBool _ _ _⟩
  ·exact ⟨.bool (ltI y x),by simp [binOp,Op.intCmp,qin],.bool,_,rfl,qO.ofBool _ _ _⟩
  ·exact ⟨.bool (leI y x),by simp [binOp,Op.intCmp,qds],.bool,_,rfl,qO.ofBool _ _ _⟩
theorem qnl {op:BinOp} {x y:List UInt8} (hx:x.length≤maxLen) (hy:y.length≤maxLen) {r:AV×List Bool} (hr:qok op x y=some r) (hc:qbg r.2) (t:Nat):
  ∃v,(binOp op t (.string ⟨x.toArray⟩) (.string ⟨y.toArray⟩)).run P w= .ok v w∧∃u z,r.1= .val u z∧qO w F u z v:=by
 cases op <;> simp only [qok] at hr <;> cases hr
 ·have h0:x.length+y.length≤140737488355328:=by
   have:=hc _ (List.mem_singleton.2 rfl)
   simp [qd6,qf] at this
   omega
  refine ⟨.string ⟨(qcD x y).toArray⟩,?_,.str,_,rfl,qO.ofStr _ _ (by simp [qa1,maxLen]; omega)⟩
  rw [qa1]
  rw [show binOp .add t (.string ⟨x.toArray⟩) (.string ⟨y.toArray⟩)=Op.stringOp .add ⟨x.toArray⟩ ⟨y.toArray⟩ from by simp [binOp]]
  rw [run_string_add_sum w _ _ (by show x.toArray.size+y.toArray.size≤_; simp; omega)]
  rw [ByteArray.mk_append_mk]
 all_goals
  refine ⟨_,?_,.bool,_,rfl,qO.ofBool _ _ _⟩
  simp [binOp,Op.stringOp,qiN,qmK]
end
end Go.Vi
namespace Go.Vi
open Go.RowKit
section
variable {C:Ctx} {E:Env} {σ:St} {tm:Array Value} {a:Act} {w w':World} {own:Nat→List Nat} {o:Oper} [Tabbed E C]
theorem qO.flat {F F':Nat→Prop} {t:Ty} {x:t.den} {v:Value} (hf:t.flat=true) (h:qO w F t x v):qO w' F' t x v:=⟨Rep.flat hf h.1,h.2⟩
theorem qdY (h:qv C σ a.tmps w own) {t:Ty} {x:t.den} {v:Value} {ow:List Nat} {us:List U} (hr:(execOp a.eval o).run C.P w= .ok (.value v) w)
  (hus:(if t.flat then Q.ret [] else qaC ow).run (qb σ)=some us) (hd:∀u∈us++qaq o (.val t x),u.s<σ.length) (hv:qO w (FW (sit C σ a.tmps w own) ow) t x v):
  qbh C o a w (qa σ (us++qaq o (.val t x))):=by
 by_cases hf:t.flat=true
 ·rw [if_pos hf] at hus
  have:=Q.ret_some hus
  subst this
  exact qZ h hr hd (hv.flat hf)
 ·rw [if_neg hf] at hus
  obtain ⟨own',k1,k2,k3,k4⟩:=qbm ow h hus
  rw [qao]
  exact qZ k1 hr (fun u hu=>by rw [qj]; exact hd u (List.mem_append_right _ hu)) (hv.mono fun b hb _=>k4 b hb)
variable {p:qdR}
theorem qN (h:qv C σ a.tmps w own) (hp:qay (sit C σ a.tmps w own) p) {tid:Nat} {x:Operand} {o1:Op1} (ho:(opd E p tid x).run (qb σ)=some o1):qas (sit C σ a.tmps w own) o1 (a.eval x):=
 opd_ok (ds:=a.defers) h hp ho
def plainV (v:Value):Prop:=(∃k n,v= .int k n)∨(∃s,v= .string s)∨∃b,v= .bool b
theorem qeH {op:BinOp} {t:Nat} {x y:Operand} {a b:Value} {P:Program} (h1:plainV a):(eqGuard op t x y a b).run P w= .ok () w:=by
 rcases h1 with ⟨_,_,rfl⟩|⟨_,rfl⟩|⟨_,rfl⟩ <;> cases op <;> simp [eqGuard]
theorem qcy (d:Nat) {P:Program} {t e:Nat} (a:Option Addr) (l c:Nat) (h:P.underlying t=some (.slice e)):(Op.equalIn (d+1) t (.slice a l c) (.slice none 0 0)).run P w= .ok a.isNone w:=by
 cases a <;> simp [Op.equalIn,run_underlying h]
theorem qiB {P:Program} {t e:Nat} (a:Option Addr) (l c:Nat) (h:P.underlying t=some (.slice e)) (op:BinOp) (hop:op= .eql∨op= .neq):
  (binOp op t (.slice a l c) (.slice none 0 0)).run P w= .ok (.bool (if qcR op then a.isNone else !a.isNone)) w:=by
 rcases hop with rfl|rfl
 ·simp only [binOp]
  simp [Op.equal,Op.maxDepth,qcy 9999 a l c h,qcR]
 ·simp only [binOp]
  simp [Op.equal,Op.maxDepth,qcy 9999 a l c h,qcR]
theorem qhy (hE:qai E C.P) (h:qv C σ a.tmps w own) (hp:qay (sit C σ a.tmps w own) p) {op:BinOp} {t:Nat} {x y:Operand} {b:TypeId} (hop:o.op= .binOp op t x y b) {f:Eff} (hn:qmR op y=true) {e0:Ty} (hty:E.ty t=some (.slice e0))
  (he:(((opd E p t x).bind fun x=>(match x.a with
   | .nz _ xs=>okE (qaq o (.val .bool (bif qcR op then eqI (qR xs) 0 else !(eqI (qR xs) 0))))
   |_=>(qhk x).bind fun x=>(match x with
    |⟨.slice _,xs,_⟩=>okE (qaq o (.amb (qcR op) (eqI (qR xs) 0)))
    |_=> .fail))).run (qb σ))=some f) (hd:∀u∈f.upd,u.s<σ.length):qbh C o a w (qa σ f.upd):=by
 obtain ⟨x1,hx,he⟩:=Q.bind_some he
 have ho1:=qN h hp hx
 have hu:=(hE.elem t e0 hty).under
 obtain ⟨hyo,hopc⟩:y= .const (.slice none 0 0)∧(op= .eql∨op= .neq):=by
  unfold qmR at hn
  split at hn
  ·exact ⟨rfl,.inl rfl⟩
  ·exact ⟨rfl,.inr rfl⟩
  ·cases hn
 have hya:a.eval y= .slice none 0 0:=by rw [hyo]; rfl
 have key:∀ {F:Nat→Prop} {e:Ty} {xs:List e.den},qO w F (.slice e) xs (a.eval x)→∃ad l c,a.eval x= .slice ad l c∧(ad=none→xs=[])∧(execOp a.eval o).run C.P w= .ok (.value (.bool (if qcR op then ad.isNone else !ad.isNone))) w:=by
  intro F e xs rx
  obtain ⟨ad,l,c,hv,hl⟩:∃ad l c,a.eval x= .slice ad l c∧(ad=none→xs=[]):=by
   rcases qO.slice rx with ⟨k4,k5⟩|⟨ad,cap,k4,k5,k6,k7⟩
   ·exact ⟨none,0,0,k4,fun _=>k5⟩
   ·exact ⟨some ad,_,_,k4,fun h=>by cases h⟩
  have hg:(eqGuard op t x y (a.eval x) (a.eval y)).run C.P w= .ok () w:=by
   rw [hv,hya]
   rcases hopc with rfl|rfl <;> simp [eqGuard]
  refine ⟨ad,l,c,hv,hl,?_⟩
  unfold execOp
  rw [hop]
  simp only [Sem.run_bind,hg,Result.andThen_ok]
  rw [hv,hya,qiB ad l c hu op hopc]
  rfl
 split at he
 ·rename_i e xs hxa
  have:=qg he
  subst this
  have hnz:qL (sit C σ a.tmps w own) (.nz e xs) (a.eval x) []:=by
   have:=ho1.unowned (by rw [hxa]; rfl)
   rwa [hxa] at this
  obtain ⟨_,rx,hnil⟩:=hnz
  obtain ⟨ad,l,c,hv,hl,hr⟩:=key rx
  refine qe hr (h.dst0 hd ?_ (fun m hm=>by cases hm))
  have e1:ad.isNone=eqI (qR xs) 0:=by
   rw [qeb,qf]
   cases xs with
   |nil=>
    have:=hnil rfl
    rw [hv] at this
    injection this with h1
    subst h1
    rfl
   |cons x0 xs0=>
    cases ad with
    |none=>have:=hl rfl; cases this
    |some ad=>
     symm
     simp only [Option.isNone_some,beq_eq_false_iff_ne,List.length_cons]
     omega
  have e2:(if qcR op=true then ad.isNone else !ad.isNone)=(bif qcR op then eqI (qR xs) 0 else !(eqI (qR xs) 0)):=by
   rw [e1]; cases qcR op <;> rfl
  rw [e2]
  exact ⟨rfl,qO.ofBool _ _ _⟩
 ·obtain ⟨xr,hxr,he⟩:=Q.bind_some he
  have rx:=qbE h ho1 hxr
  split at he
  case h_2=>cases he
  rename_i e xs ow
  have:=qg he
  subst this
  obtain ⟨ad,l,c,hv,hl,hr⟩:=key rx
  refine qe hr (h.dst0 hd ⟨rfl,_,rfl,fun hb=> ?_⟩ (fun m hm=>by cases hm))
  have hnone:ad=none:=by
   rcases hopc with rfl|rfl
   ·simpa [qcR] using hb
   ·simpa [qcR] using hb
  have hxs:xs=[]:=hl hnone
  rw [hxs,qeb,qf]
  rfl
theorem qif {P:Program} {w:World} {t:TypeId} {ms:Array (String×TypeId)} (hu:P.underlying t=some (.interface ms)) {b:Bool} {v:Value} (h:(b=true∧v= .nilIface)∨(b=false∧∃t x,v= .iface t x)):(Op.equal t v .nilIface).run P w= .ok b w:=by
 have key:∀d,(Op.equalIn (d+1) t v .nilIface).run P w= .ok b w:=fun d=>by
  rcases h with ⟨rfl,rfl⟩|⟨rfl,tt,x,rfl⟩ <;> simp [Op.equalIn,run_underlying hu]
 exact key 9999
theorem qhw (hE:qai E C.P) (h:qv C σ a.tmps w own) (hp:qay (sit C σ a.tmps w own) p) {op:BinOp} {t:Nat} {x y:Operand} {b:TypeId} (hop:o.op= .binOp op t x y b) {f:Eff} (hn:qj2 op y=true) (hty:E.ty t=some .err)
  (he:(((opd E p t x).bind fun x=>(qhk x).bind fun x=>(match x with
   |⟨.err,b,_⟩=>okE (qaq o (.val .bool (bif qcR op then b else !b)))
   |_=> .fail)).run (qb σ))=some f) (hd:∀u∈f.upd,u.s<σ.length):qbh C o a w (qa σ f.upd):=by
 obtain ⟨x1,hx,he⟩:=Q.bind_some he
 obtain ⟨xr,hxr,he⟩:=Q.bind_some he
 have rx:=qbE h (qN h hp hx) hxr
 split at he
 case h_2=>cases he
 rename_i bb ow
 have:=qg he
 subst this
 obtain ⟨ms,hu⟩:=hE.err t hty
 obtain ⟨hyo,hopc⟩:y= .const .nilIface∧(op= .eql∨op= .neq):=by
  unfold qj2 at hn
  split at hn
  ·exact ⟨rfl,.inl rfl⟩
  ·exact ⟨rfl,.inr rfl⟩
  ·cases hn
 have hya:a.eval y= .nilIface:=by rw [hyo]; rfl
 have hv:=qO.err rx
 have hg:(eqGuard op t x y (a.eval x) (a.eval y)).run C.P w= .ok () w:=by
  rw [hya,hyo]
  rcases hv with ⟨_,hv⟩|⟨_,tt,xx,hv⟩ <;> rw [hv] <;> rcases hopc with rfl|rfl <;> simp [eqGuard]
 have hq:=qif (w:=w) hu hv
 refine qe (v:= .bool (bif qcR op then bb else !bb)) ?_ (h.dst0 hd ⟨rfl,qO.ofBool _ _ _⟩ (fun m hm=>by cases hm))
 unfold execOp
 rw [hop]
 simp only [Sem.run_bind,hg,Result.andThen_ok]
 rw [hya]
 rcases hv with ⟨_,hv⟩|⟨_,tt,xx,hv⟩ <;> rw [hv] at hq⊢ <;> rcases hopc with rfl|rfl <;> simp [binOp,hq,qcR]
theorem qiS {P:Program} {w:World} {t u:TypeId} (hu:P.underlying t=some (.pointer u)) (q:Option Addr):(Op.equal t (.pointer q) (.pointer none)).run P w= .ok q.isNone w:=by
 have key:∀d,(Op.equalIn (d+1) t (.pointer q) (.pointer none)).run P w= .ok q.isNone w:=fun d=>by
  cases q <;> simp [Op.equalIn,run_underlying hu]
 exact key 9999
theorem qht (hE:qai E C.P) (h:qv C σ a.tmps w own) (hp:qay (sit C σ a.tmps w own) p) {op:BinOp} {t:Nat} {x y:Operand} {b:TypeId} (hop:o.op= .binOp op t x y b) {f:Eff} (hn:qj4 op y=true) {e0:Ty} (hty:E.ty t=some (.opt e0))
  (he:(((opd E p t x).bind fun x=>(qhk x).bind fun x=>(match x with
   |⟨.opt _,z,_⟩=>okE (qaq o (.val .bool (bif qcR op then !(qae z) else qae z)))
   |_=> .fail)).run (qb σ))=some f) (hd:∀u∈f.upd,u.s<σ.length):qbh C o a w (qa σ f.upd):=by
 obtain ⟨x1,hx,he⟩:=Q.bind_some he
 obtain ⟨xr,hxr,he⟩:=Q.bind_some he
 have rx:=qbE h (qN h hp hx) hxr
 split at he
 case h_2=>cases he
 rename_i ee z ow
 have:=qg he
 subst this
 obtain ⟨ms,hu⟩:=hE.opt t e0 hty
 obtain ⟨hyo,hopc⟩:y= .const (.pointer none)∧(op= .eql∨op= .neq):=by
  unfold qj4 at hn
  split at hn
  ·exact ⟨rfl,.inl rfl⟩
  ·exact ⟨rfl,.inr rfl⟩
  ·cases hn
 have hya:a.eval y= .pointer none:=by rw [hyo]; rfl
 obtain ⟨q,hv,hq⟩:∃q,a.eval x= .pointer q∧qae z=q.isSome:=by
  rw [qeh]
  rcases qO.opt rx with ⟨k1,k2⟩|⟨y2,ad,cs,k1,k2,_⟩
  ·exact ⟨none,k2,by have k1:z=none:=k1; rw [k1]; rfl⟩
  ·exact ⟨some ad,k2,by have k1:z=some y2:=k1; rw [k1]; rfl⟩
 have hg:(eqGuard op t x y (a.eval x) (a.eval y)).run C.P w= .ok () w:=by
  rw [hya,hyo,hv]
  rcases hopc with rfl|rfl <;> simp [eqGuard]
 have hqq:=qiS (w:=w) hu q
 refine qe (v:= .bool (bif qcR op then !(qae z) else qae z)) ?_ (h.dst0 hd ⟨rfl,qO.ofBool _ _ _⟩ (fun m hm=>by cases hm))
 unfold execOp
 rw [hop]
 simp only [Sem.run_bind,hg,Result.andThen_ok]
 rw [hya,hv,hq]
 rcases hopc with rfl|rfl <;> cases q <;> simp [binOp,hqq,qcR]
theorem qlE (hE:qai E C.P) (h:qv C σ a.tmps w own) (hp:qay (sit C σ a.tmps w own) p) {op:BinOp} {t:Nat} {x y:Operand} {b:TypeId} (hop:o.op= .binOp op t x y b) {f:Eff}
  (he:(qbN E p o).run (qb σ)=some f) (hd:∀u∈f.upd,u.s<σ.length) (hc:qbg f.chk):qbh C o a w (qa σ f.upd):=by
 unfold qbN at he
 rw [hop] at he
 simp only at he
 split at he
 ·rename_i hn
  simp only [Bool.and_eq_true] at hn
  obtain ⟨e0,hty⟩:∃e0,E.ty t=some (.slice e0):=by
   have:=hn.2
   unfold qjb at this
   split at this
   ·exact ⟨_,by assumption⟩
   ·cases this
  exact qhy hE h hp hop hn.1 hty he hd
 split at he
 ·rename_i hn
  simp only [Bool.and_eq_true] at hn
  have hty:E.ty t=some .err:=by
   have:=hn.2
   unfold qmC at this
   split at this
   ·assumption
   ·cases this
  exact qhw hE h hp hop hn.1 hty he hd
 split at he
 ·rename_i hn
  simp only [Bool.and_eq_true] at hn
  obtain ⟨e0,hty⟩:∃e0,E.ty t=some (.opt e0):=by
   have:=hn.2
   unfold qmY at this
   split at this
   ·exact ⟨_,by assumption⟩
   ·cases this
  exact qht hE h hp hop hn.1 hty he hd
 obtain ⟨x1,hx,he⟩:=Q.bind_some he
 obtain ⟨y1,hy,he⟩:=Q.bind_some he
 obtain ⟨xr,hxr,he⟩:=Q.bind_some he
 obtain ⟨yr,hyr,he⟩:=Q.bind_some he
 have rx:=qbE h (qN h hp hx) hxr
 have ry:=qbE h (qN h hp hy) hyr
 have key:∀(r:AV×List Bool),binE E op t xr yr=some r→qbg r.2→∃v,(binOp op t (a.eval x) (a.eval y)).run C.P w= .ok v w∧(eqGuard op t x y (a.eval x) (a.eval y)).run C.P w= .ok () w∧∃u z,r.1= .val u z∧qO w (C.free w own) u z v:=by
  intro r hr hcr
  unfold binE at hr
  split at hr
  ·rename_i k m _ k' n _
   split at hr
   ·rename_i hk
    injection hr with hr
    subst hr
    obtain ⟨e1,g1⟩:=qO.int rx
    obtain ⟨e2,g2⟩:=qO.int ry
    rw [e1,e2]
    obtain ⟨v,h1,h2⟩:=qnD (P:=C.P) (w:=w) (F:=C.free w own) g1 g2 (by simpa using hk) hcr t
    exact ⟨v,h1,qeH (.inl ⟨_,_,rfl⟩),h2⟩
   ·cases hr
  ·obtain ⟨e1,g1⟩:=qO.str rx
   obtain ⟨e2,g2⟩:=qO.str ry
   rw [e1,e2]
   obtain ⟨v,h1,h2⟩:=qnl (P:=C.P) (w:=w) (F:=C.free w own) g1 g2 hr hcr t
   exact ⟨v,h1,qeH (.inr (.inl ⟨_,rfl⟩)),h2⟩
  ·split at hr
   ·rename_i hty
    have hu:=hE.bool t hty
    have e1:=qO.bool rx
    have e2:=qO.bool ry
    rw [e1,e2]
    split at hr
    ·injection hr with hr
     subst hr
     exact ⟨_,run_eql_bool w t _ _ hu,qeH (.inr (.inr ⟨_,rfl⟩)),.bool,_,rfl,by rw [qkp]; exact qO.ofBool _ _ _⟩
    ·injection hr with hr
     subst hr
     exact ⟨_,run_neq_bool w t _ _ hu,qeH (.inr (.inr ⟨_,rfl⟩)),.bool,_,rfl,by rw [qkp]; exact qO.ofBool _ _ _⟩
    ·cases hr
   ·cases hr
  ·split at hr
   case isFalse=>cases hr
   rename_i hcond
   obtain ⟨c1,c2,c3⟩:=hcond
   have hq:=hE.eq t _ c2 c3
   split at hr
   case h_2=>cases hr
   rename_i b' hb'
   obtain ⟨e1,e2⟩:=Ty.as_some hb'
   subst e1
   have e2:_=b':=e2
   subst e2
   obtain ⟨r1,ra,_⟩:=rx
   obtain ⟨r2,rb,_⟩:=ry
   obtain ⟨xs,hxs⟩:=ra c1
   obtain ⟨ys,hys⟩:=rb c1
   rw [hxs] at r1
   rw [hys] at r2
   have hrun:=hq.run w _ _ _ _ _ _ r1 r2
   have mk:∀zs:Array Value,mkV _ (Value.agg zs).cells.toList=Value.agg zs:=fun zs=>by
    rw [mkV,if_pos c1]
    simp [Value.cells]
   rw [mk,mk] at hrun
   rw [hxs,hys]
   split at hr
   ·injection hr with hr
    subst hr
    exact ⟨_,by rw [run_eql_struct,hrun]; rfl,run_eqGuard_agg w _ _ _ _ _ _ hq.guard,.bool,_,rfl,qO.ofBool _ _ _⟩
   ·injection hr with hr
    subst hr
    exact ⟨_,by rw [run_neq_struct,hrun]; rfl,run_eqGuard_agg w _ _ _ _ _ _ hq.guard,.bool,_,rfl,qO.ofBool _ _ _⟩
   ·cases hr
 split at he
 ·rename_i r c hr
  have:=Q.ret_some he
  subst this
  obtain ⟨v,h1,h2,u,z,h4,h5⟩:=key (r,c) hr hc
  subst h4
  refine qZ h ?_ hd h5
  unfold execOp
  rw [hop]
  simp [Sem.run_bind,h2,h1]
 ·cases he
theorem qmN (h:qv C σ a.tmps w own) (hp:qay (sit C σ a.tmps w own) p) {op:UnOp} {t:Nat} {x:Operand} (hop:o.op= .unOp op t x) {f:Eff}
  (he:(qbN E p o).run (qb σ)=some f) (hd:∀u∈f.upd,u.s<σ.length) (hc:qbg f.chk):qbh C o a w (qa σ f.upd):=by
 unfold qbN at he
 rw [hop] at he
 obtain ⟨x1,hx,he⟩:=Q.bind_some he
 obtain ⟨xr,hxr,he⟩:=Q.bind_some he
 have rx:=qbE h (qN h hp hx) hxr
 split at he
 ·rename_i av hav
  have:=qg he
  subst this
  unfold unE at hav
  split at hav
  ·obtain ⟨e1,g1⟩:=qO.int rx
   injection hav with hav
   subst hav
   refine qZ h ?_ hd (qO.ofInt _ _ (by rw [qkP]; exact qbz _ _))
   unfold execOp
   rw [hop]
   simp [e1,Op.unary,Op.intArith,qkP]
  ·have e1:=qO.bool rx
   injection hav with hav
   subst hav
   refine qZ h ?_ hd (qO.ofBool _ _ _)
   unfold execOp
   rw [hop]
   simp [e1,Op.unary]
  ·obtain ⟨e1,g1⟩:=qO.int rx
   injection hav with hav
   subst hav
   refine qZ h ?_ hd (qO.ofInt _ _ (by rw [qgh]; exact qbz _ _))
   unfold execOp
   rw [hop]
   simp [e1,Op.unary,Op.intBits,qgh]
  ·cases hav
 ·cases he
theorem qjq (w:World) (a:Addr) (n:Nat) (b:Addr):(w.freeze a n).cell? b=w.cell? b:=by
 unfold World.freeze
 by_cases hn:n=0
 ·rw [if_pos hn]
 rw [if_neg hn]
 unfold World.cell?
 simp only [Array.getElem?_modify]
 by_cases e:a.block=b.block
 ·rw [if_pos e]
  cases w.heap[b.block]? with
  |none=>rfl
  |some o=>cases o <;> rfl
 ·rw [if_neg e]
theorem qgQ (w:World) (a:Addr) (n:Nat):(w.freeze a n).heap.size=w.heap.size:=by
 unfold World.freeze
 split
 ·rfl
 ·simp
theorem qkA (w:World) (a:Addr) (n:Nat) {O:Nat→Prop} (h:O a.block):qa5 O w (w.freeze a n):=by
 refine ⟨?_,?_,?_,by rw [qgQ]; exact Nat.le_refl _,fun k hk hO=> ?_⟩
 ·unfold World.freeze; split <;> rfl
 ·unfold World.freeze; split <;> rfl
 ·unfold World.freeze; split <;> rfl
 ·unfold World.freeze
  split
  ·rfl
  ·simp only [Array.getElem?_modify]
   rw [if_neg (fun e:a.block=k=>hO (e ▸ h))]
theorem qO.frz {F F':Nat→Prop} {k:IntKind} {xs:List Int} {v:Value} (h:qO w F (.slice (.int k)) xs v) (a:Addr) (n:Nat) (hF:∀b,F b→F' b):qO (w.freeze a n) F' (.slice (.int k)) xs v:=by
 rcases h.slice with h1|⟨ad,cap,e1,e2,e3,e4⟩
 ·exact .ofSlice (.inl h1)
 ·refine .ofSlice (.inr ⟨ad,cap,e1,e2,e3,fun i x hi=> ?_⟩)
  obtain ⟨f1,f2,cs,f3,f4⟩:=e4 i x hi
  refine ⟨hF _ f1,by rw [qgQ]; exact f2,cs,fun j u hu=>by rw [qjq]; exact f3 j u hu,f4⟩
theorem qjB (hE:qai E C.P) (h:qv C σ a.tmps w own) (hp:qay (sit C σ a.tmps w own) p) {s d:Nat} {x:Operand} (hop:o.op= .convert s d x) {f:Eff}
  (he:(qbN E p o).run (qb σ)=some f) (hd:∀u∈f.upd,u.s<σ.length) (hc:qbg f.chk):qbh C o a w (qa σ f.upd):=by
 unfold qbN at he
 rw [hop] at he
 obtain ⟨x1,hx,he⟩:=Q.bind_some he
 have ho:=qN h hp hx
 unfold convE at he
 split at he
 ·rename_i k0 k h1 h2
  obtain ⟨n,hn,he⟩:=Q.bind_some he
  have:=qg he
  subst this
  obtain ⟨e1,g1⟩:=qb4 h ho hn
  refine qZ h ?_ hd (qO.ofInt _ _ (by rw [qen]; exact qbz _ _))
  unfold execOp
  rw [hop]
  simp [e1,convert,run_underlying (hE.int s _ h1),run_underlying (hE.int d _ h2),Conv.intToInt,qen]
 ·rename_i h1 h2
  obtain ⟨n,hn,he⟩:=Q.bind_some he
  have:=qg he
  subst this
  have rx:=qbc h ho hn
  obtain ⟨e1,g1⟩:=qO.str rx
  refine qZ h ?_ hd (qO.ofStr _ _ g1)
  unfold execOp
  rw [hop]
  simp [e1,convert,run_underlying (hE.str s h1),run_underlying (hE.str d h2)]
 ·rename_i h1 h2
  split at he
  case isFalse=>cases he
  rename_i h3
  obtain ⟨n,hn,he⟩:=Q.bind_some he
  have:=qg he
  subst this
  have rx:=qbc h ho hn
  have hu:=(hE.elem s _ h1).under
  have hel:=hE.int _ _ h3
  have hst:=hE.str d h2
  rcases qO.slice rx with ⟨e1,e2⟩|⟨ad,cap,e1,e2,e3,e4⟩
  ·have e2:n.1=[]:=e2
   refine qZ (v:= .string ⟨List.toArray []⟩) h ?_ hd ?_
   ·unfold execOp
    rw [hop]
    simp only [e1,Sem.run_bind]
    rw [run_convert_bytes_nil w s _ hu hel _ _ d hst]
    rfl
   ·rw [e2,qc5]
    exact qO.ofStr _ _ (Nat.zero_le _)
  ·refine qZ (v:= .string ⟨(qcf n.1).toArray⟩) h ?_ hd (qO.ofStr _ _ ?_)
   ·have hcs:qcU w ad (n.1.map (Value.int .u8)):=by
     intro j u hj
     rw [List.getElem?_map] at hj
     obtain ⟨z,hz,rfl⟩:=Option.map_eq_some_iff.1 hj
     obtain ⟨_,_,cs,q1,q2⟩:=e4 j z hz
     have q2:cs=[.int .u8 z]:=q2.1
     subst q2
     have:=q1 0 _ rfl
     rw [qaf] at this
     simpa [Ty.size] using this
    have hl:=run_loadCells_list (P:=C.P) w ad _ hcs
    rw [List.length_map] at hl
    unfold execOp
    rw [hop]
    simp only [e1,Sem.run_bind]
    rw [run_convert_bytes_string w s d _ (some ad) _ cap hu hel hst,run_bytesToString w ad _ cap n.1 hl,foldl_push_bytes]
    rw [qc5]
    simp [ByteArray.empty,ByteArray.emptyWithCapacity]
    rfl
   ·rw [qc5,List.length_map]
    exact Nat.le_trans e2 e3
 ·rename_i h1 h2
  split at he
  case isFalse=>cases he
  rename_i h3
  obtain ⟨n,hn,he⟩:=Q.bind_some he
  have:=qg he
  subst this
  obtain ⟨e1,g1⟩:=qO.str (qbc h ho hn)
  have hu:=(hE.elem d _ h2).under
  have hel:=hE.int _ _ h3
  have hss:(⟨n.1.toArray⟩:ByteArray).size=n.1.length:=by simp [ByteArray.size]
  have hrun:=Lib.run_convert_string_bytes (P:=C.P) w s d _ ⟨n.1.toArray⟩ (hE.str s h1) hu hel
  have hsize:=Lib.bytesWorld_size w (E.etid d) ⟨n.1.toArray⟩
  have hold:=Lib.bytesWorld_at_old w (E.etid d) ⟨n.1.toArray⟩
  have hkept:qa5 (fun _=>False) w (Lib.bytesWorld w (E.etid d) ⟨n.1.toArray⟩):=⟨rfl,rfl,rfl,by rw [hsize]; omega,fun k hk _=>hold k hk⟩
  refine qe (v:= .slice (some ⟨w.heap.size,0,none⟩) n.1.length (grownCap w n.1.length 0 (E.etid d))) (w':=Lib.bytesWorld w (E.etid d) ⟨n.1.toArray⟩) ?_ (h.dst (bs:=[]) hkept hd (fun b hb=>by cases hb) List.nodup_nil ⟨rfl,?_⟩ (fun m hm=>by cases hm))
  ·unfold execOp
   rw [hop]
   simp only [e1,Sem.run_bind,hrun,hss]
   rfl
  ·have hl:(qgO n.1).length=n.1.length:=by rw [qdb]; simp
   refine qO.ofSlice (.inr ⟨⟨w.heap.size,0,none⟩,_,by rw [hl],by rw [hl]; exact grownCap_ge _ _ _ _,grownCap_le_maxLen _ _ _ _ g1,fun i x hi=> ?_⟩)
   refine ⟨⟨.inr (Nat.le_refl _),by show w.heap.size<(Lib.bytesWorld w (E.etid d) ⟨n.1.toArray⟩).heap.size; rw [hsize]; omega,by simp⟩,by show w.heap.size<(Lib.bytesWorld w (E.etid d) ⟨n.1.toArray⟩).heap.size; rw [hsize]; omega,[.int .u8 x],?_,rfl,?_⟩
   ·rw [qdb,List.getElem?_map] at hi
    obtain ⟨z,hz,rfl⟩:=Option.map_eq_some_iff.1 hi
    have hlt:=(List.getElem?_eq_some_iff.1 hz).1
    intro j u hj
    cases j with
    |succ j=>simp at hj
    |zero=>
     simp at hj
     subst hj
     have:=Lib.bytesWorld_cell w (E.etid d) ⟨n.1.toArray⟩ i (by rw [hss]; exact hlt)
     have ea:((⟨w.heap.size,0,none⟩:Addr).add (i * (Ty.int .u8).size)).add 0=⟨w.heap.size,i,none⟩:=by
      rw [qaf,qH]
      simp [Ty.size]
     rw [ea,qeo]
     refine Eq.trans this ?_
     simp [List.getD,hz]
   ·rw [qdb,List.getElem?_map] at hi
    obtain ⟨z,hz,rfl⟩:=Option.map_eq_some_iff.1 hi
    rw [qeo]
    have:=z.toNat_lt
    simp [IntKind.has,IntKind.min,IntKind.max,IntKind.signed,IntKind.bits]
    omega
 ·rename_i h1 h2
  obtain ⟨os,ov,oa⟩:=x1
  simp only at he
  split at he
  case h_2=>cases he
  rename_i s' et e xs d' hdst
  split at he
  case isFalse=>cases he
  rename_i hcond
  obtain ⟨rfl,hds,hmk,rfl,hel,hne⟩:=hcond
  have:=qg he
  subst this
  obtain ⟨e1,e2,e3⟩:=ho
  have hr0:=qA.to0 (List.isEmpty_iff.1 hmk) e3
  have hrep:=hr0.rep
  obtain ⟨cells,hrow,hbs,hx'⟩:=hr0
  rcases hrow.2 with ⟨_,h0⟩|⟨g,cap,cur,hv,_,hg,hnc,hcm,hcs,htake⟩
  ·rw [List.eq_nil_of_length_eq_zero h0] at hne; cases hne
  have hu:=(hE.elem s _ h2).under
  have hel:=hE.int _ _ hel
  have hdl:d'<σ.length:=hd ⟨d',true,.val (.slice (.int .u8)) xs⟩ (by simp)
  have hg':w.heap[g]? =some (.cells cur et (0,0)):=hg
  have hsh:w.shape? g=some (et,cur.size):=by unfold World.shape?; rw [hg']
  refine qe (v:=a.eval x) (w':=w.freeze ⟨g,cur.size,none⟩ 1) ?_ ?_
  ·unfold execOp
   rw [hop]
   simp only [Sem.run_bind]
   rw [hv]
   simp [convert,run_underlying hu,run_underlying hel,markStringish,hsh]
  rw [qbU a hdst]
  have mem:∀u:U,u∈([⟨s',true,.undef⟩,⟨d',true,.val (.slice (.int .u8)) xs⟩]:List U)→u=⟨s',true,.undef⟩∨u=⟨d',true,.val (.slice (.int .u8)) xs⟩:=fun u hu=>by simpa using hu
  have hnl:(([⟨s',true,.undef⟩,⟨d',true,.val (.slice (.int .u8)) xs⟩]:List U).map (·.s)).Nodup:=by simp [hds]
  have hgs:g∈own s':=by
   have:own s'=_:=hbs
   rw [this,hv]; simp [Value.ownBlock]
  refine Exists.elim (h.multi (tm':=a.tmps.setIfInBounds d' (a.eval x)) (w':=w.freeze ⟨g,cur.size,none⟩ 1) [⟨s',true,.undef⟩,⟨d',true,.val (.slice (.int .u8)) xs⟩] (fun _=>[]) hnl (fun u hu=>hd u hu) (by simp) (fun x hxx=>qB _ _ fun e=>hxx (by rw [e]; simp)) (fun u hu=> ?_) (qkA w _ 1 ⟨⟨s',true,.undef⟩,by simp,hgs⟩) (fun u hu=>⟨fun b hb=>(by cases hb),List.nodup_nil⟩) (fun u hu u' hu' b hb hb'=>by cases hb) (fun X' hP hpn hw hF hF2 hver htm u hu=> ?_) (fun u hu m hm=> ?_)) fun own' hfin=>⟨own',hfin.1⟩
  ·rcases mem u hu with rfl|rfl
   ·exact .inl rfl
   ·exact .inl rfl
  ·rcases mem u hu with rfl|rfl
   ·trivial
   ·rw [qaj _ _ (by rw [h.size]; exact hdl)]
    refine ⟨rfl,?_⟩
    rw [hw]
    refine qO.frz hrep _ _ fun b hb=> ?_
    rcases hb with hb|hb
    ·exact hF b hb
    ·exact hF2 b ⟨⟨s',true,.undef⟩,by simp,hb⟩ (fun u hu hm=>by cases hm)
  ·rcases mem u hu with rfl|rfl <;> cases hm
 ·cases he
theorem TyB.run_part {P:Program} {t:Nat} {u:Ty} (h:TyB P t u) {cs:List Value} {off:Nat} (hl:off+u.size≤cs.length):(part t cs.toArray off).run P w= .ok (mkV u ((cs.drop off).take u.size)) w:=by
 simp only [part,Sem.run_bind,h.run_isAgg,Result.andThen_ok]
 cases hu:u.agg with
 |true=>
  simp only [if_true,Sem.run_bind,h.run_sizeOf,Result.andThen_ok,Sem.run_pure,mkV,hu]
  congr 2
  apply Array.ext'
  simp [List.extract_eq_take_drop]
 |false=>
  have hs:u.size=1:=by cases u <;> simp [Ty.agg] at hu <;> rfl
  have hlt:off<cs.length:=by omega
  simp only [Bool.false_eq_true,if_false,mkV,hu,hs]
  rw [show cs.toArray[off]? =some cs[off] from by simp [hlt],List.drop_eq_getElem_cons hlt]
  simp only [Sem.run_pure]
  rfl
theorem qlQ (hE:qai E C.P) (h:qv C σ a.tmps w own) (hp:qay (sit C σ a.tmps w own) p) {t:Nat} {x ix:Operand} (hop:o.op= .index t x ix) {f:Eff}
  (he:(qbN E p o).run (qb σ)=some f) (hd:∀u∈f.upd,u.s<σ.length) (hc:qbg f.chk):qbh C o a w (qa σ f.upd):=by
 unfold qbN at he
 rw [hop] at he
 obtain ⟨x1,hx,he⟩:=Q.bind_some he
 obtain ⟨i1,hi,he⟩:=Q.bind_some he
 obtain ⟨i,hn,he⟩:=Q.bind_some he
 obtain ⟨xr,hxr,he⟩:=Q.bind_some he
 have rx:=qbE h (qN h hp hx) hxr
 obtain ⟨e2,g2⟩:=qb4 h (qN h hp hi) hn
 split at he
 ·rename_i xs _
  split at he
  ·rename_i hty
   have:=Q.ret_some he
   subst this
   obtain ⟨e1,g1⟩:=qO.str rx
   have hb:0≤i.2∧i.2<xs.length:=by
    have:=hc _ (List.mem_singleton.2 rfl)
    simp [qgy,qf] at this
    exact this
   have hlt:i.2.toNat<xs.length:=by omega
   refine qZ h (v:= .int .u8 (qkr (qbt xs i.2 0))) ?_ hd (qO.ofInt _ _ ?_)
   ·unfold execOp
    rw [hop]
    simp only [e1,e2,Sem.run_bind]
    rw [run_index_string w t _ i.1 i.2 (hE.str t hty),dif_pos (by exact ⟨hb.1,by show i.2<(xs.toArray.size:Int); simpa using hb.2⟩)]
    have:qbt xs i.2 0=xs[i.2.toNat]:=qbZ (List.getElem?_eq_getElem hlt)
    simp only [Result.andThen_ok,Sem.run_pure,qeo,this]
    rfl
   ·have:=(qbt xs i.2 0).toNat_lt
    simp [IntKind.has,IntKind.min,IntKind.max,IntKind.signed,IntKind.bits,qeo]
    omega
  ·cases he
 ·rename_i n e xs
  split at he
  case isFalse=>cases he
  rename_i hty
  have:=Q.ret_some he
  subst this
  have hb:0≤i.2∧i.2<(n:Int):=by
   have:=hc _ (List.mem_singleton.2 rfl)
   simp [qgy] at this
   exact this
  obtain ⟨r1,r2,_⟩:=rx
  obtain ⟨cs,hcs⟩:=r2 rfl
  have r1:Rep w _ (.arr n e) xs (a.eval x).cells.toList:=r1
  rw [hcs] at r1
  have r1:Rep w (C.free w own) (.arr n e) xs cs.toList:=by
   refine r1.keep fun b hb hs=>⟨?_,hs,rfl⟩
   rcases hb with hb|⟨s,hs,_⟩
   ·exact hb
   ·cases hs
  obtain ⟨z,k1,k2,k3⟩:=r1.elem (i:=i.2.toNat) (by omega)
  refine qZ h (v:=mkV e ((cs.toList.drop (i.2.toNat * e.size)).take e.size)) ?_ hd (.ofCells (by rw [qbZ k1]; exact k2))
  unfold execOp
  rw [hop]
  have hsz:=congrFun (hE.size t e (.inr ⟨n,hty.1⟩)) w
  have hpt:=(hE.ty _ _ hty.2).run_part (w:=w) (cs:=cs.toList) (off:=i.2.toNat * e.size) k3
  simp only [Array.toArray_toList] at hpt
  simp only [Sem.run_bind,Instr.index,e2,asIntOf,Sem.run_pure,Result.andThen_ok,run_underlying (hE.arr t n e hty.1),hcs]
  rw [if_pos hb]
  simp only [Sem.run_bind,hsz,Result.andThen_ok,hpt,Sem.run_pure]
 ·cases he
end
end Go.Vi
namespace Go.Vi
open Go.RowKit
section
variable {C:Ctx} {E:Env} {σ:St} {tm:Array Value} {a:Act} {w w':World} {own:Nat→List Nat} {o:Oper} {p:qdR} [Tabbed E C]
def qji (v:Option Value) (l d:Int):Prop:=(v=none∧l=d)∨∃k,v=some (.int k l)
theorem qb9 (h:qv C σ a.tmps w own) {b:Option Op1} {v:Option Value} (hb:(b=none∧v=none)∨∃b' v',b=some b'∧v=some v'∧qas (sit C σ a.tmps w own) b' v') {d l:Int} (he:(qdN b d).run (qb σ)=some l):qji v l d:=by
 unfold qdN at he
 rcases hb with ⟨rfl,rfl⟩|⟨b',v',rfl,rfl,ho⟩
 ·have:=Q.ret_some he
  exact .inl ⟨rfl,this.symm⟩
 ·obtain ⟨i,hi,he⟩:=Q.bind_some he
  have:=Q.ret_some he
  obtain ⟨e1,_⟩:=qb4 h ho hi
  exact .inr ⟨i.1,by rw [e1,this]⟩
theorem qii {P:Program} {t:Nat} (ht:P.underlying t=some .string) {s:ByteArray} {vl vh:Option Value} {l h:Int} (hl:qji vl l 0) (hh:qji vh h (s.size:Int)) (h0:0≤l) (h1:l≤h) (h2:h≤s.size):
  (Instr.sliceAt t (.string s) vl vh none).run P w= .ok (.string (s.extract l.toNat h.toNat)) w:=by
 rw [run_sliceAt_string w t _ _ _ _ ht]
 rcases hl with ⟨rfl,rfl⟩|⟨k,rfl⟩ <;> rcases hh with ⟨rfl,rfl⟩|⟨k',rfl⟩
 ·exact run_slice_string_all w t s ht
 ·exact run_slice_string_h w t s ht k' h h1 h2
 ·exact run_slice_string_l w t s ht k l h0 h1
 ·exact run_slice_string w t s k k' l h ht h0 h1 h2
theorem qcp {P:Program} {t e:Nat} (ht:P.underlying t=some (.slice e)) {sz:Nat} (hs:(sizeOf e).run P=fun w=> .ok sz w) {ad:Option Addr} {len cap:Nat} (hlc:len≤cap) {vl vh:Option Value} {l h:Int} (hl:qji vl l 0) (hh:qji vh h (len:Int)) (h0:0≤l) (h1:l≤h) (h2:h≤len):
  (Instr.sliceAt t (.slice ad len cap) vl vh none).run P w= .ok (sliced ad l.toNat h.toNat cap sz) w:=by
 have he:P.elem t=e:=by simp [Program.elem,ht]
 have ht':P.underlying t=some (.slice (P.elem t)):=by rw [he]; exact ht
 rw [run_sliceAt_slice w t _ _ _ _ ht']
 have hs':∀w,(sizeOf (P.elem t)).run P w= .ok sz w:=fun w=>by rw [he,hs]
 rcases hl with ⟨rfl,rfl⟩|⟨k,rfl⟩ <;> rcases hh with ⟨rfl,rfl⟩|⟨k',rfl⟩
 ·rw [run_slice_all w t ad len cap ht',hs']; rfl
 ·rw [run_slice_h w t ad len cap ht' k' h h1 (by omega),hs']; rfl
 ·rw [run_slice_l w t ad len cap ht' k l h0 h1,hs']; rfl
 ·rw [run_slice_lh w t ad len cap ht' k k' l h h0 h1 (by omega),hs']; rfl
theorem qej {α:Type} {xs:List α} {l h:Int} {i:Nat} {x:α} (hx:(qQ xs l h)[i]? =some x):xs[l.toNat+i]? =some x:=by
 rw [qaW] at hx
 rw [List.getElem?_drop,List.getElem?_take] at hx
 split at hx
 ·exact hx
 ·cases hx
theorem qdC {α:Type} {xs:List α} {l h:Int} (h0:0≤l) (h1:l≤h) (h2:h≤xs.length):(qQ xs l h).length=h.toNat - l.toNat:=by
 simp [qaW]; omega
theorem qbO.slice {α:Type} {F:Nat→Prop} {R:α→List Value→Prop} {sz:Nat} {xs:List α} {v:Value} (hr:qbO w F R sz xs v) {l h:Int} (h0:0≤l) (h1:l≤h) (h2:h≤xs.length):
  ∃ad len cap,v= .slice ad len cap∧len=xs.length∧len≤cap∧qbO w F R sz (qQ xs l h) (sliced ad l.toNat h.toNat cap sz):=by
 have hlen:=qdC (xs:=xs) h0 h1 h2
 rcases hr with ⟨rfl,rfl⟩|⟨ad,cap,rfl,hc,hm,hx⟩
 ·refine ⟨none,0,0,rfl,rfl,Nat.le_refl _,.inl ⟨?_,?_⟩⟩
  ·simp at h2
   have e1:l.toNat=0:=by omega
   have e2:h.toNat=0:=by omega
   simp [sliced,e1,e2]
  ·simp [qaW]
 ·refine ⟨some ad,xs.length,cap,rfl,rfl,hc,?_⟩
  by_cases hcl:cap=l.toNat
  ·have e1:(qQ xs l h)=[]:=List.eq_nil_of_length_eq_zero (by omega)
   refine .inr ⟨ad,0,?_,by rw [e1]; simp,by simp [maxLen],fun i x hi=>by rw [e1] at hi; cases hi⟩
   rw [e1]
   simp [sliced,hcl]
   omega
  ·refine .inr ⟨ad.add (l.toNat * sz),cap - l.toNat,?_,by omega,by omega,fun i x hi=> ?_⟩
   ·simp [sliced,hcl,hlen]
   ·obtain ⟨k1,k2,cs,k3,k4⟩:=hx _ _ (qej hi)
    refine ⟨by rw [qE]; exact k1,by rw [qE]; exact k2,cs,fun j u hj=> ?_,k4⟩
    rw [qaf,qaf,←Nat.add_assoc,←Nat.add_mul,←qaf]
    exact k3 j u hj
theorem qJ.form {F:Nat→Prop} {et:Nat} {e:Ty} {xs:List e.den} {v:Value} {bs:List Nat} (hr:qJ w F et e xs v bs):∃ad cap,v= .slice ad xs.length cap∧xs.length≤cap:=by
 obtain ⟨cells,ho,_,_⟩:=hr
 rcases ho.2 with ⟨h1,h2⟩|⟨g,cap,cur,hv,_,_,hnc,_⟩
 ·exact ⟨none,0,by rw [h1,h2],by omega⟩
 ·exact ⟨some ⟨g,0,none⟩,cap,hv,hnc⟩
theorem qA.form {F:Nat→Prop} {et:Nat} {e:Ty} {xs:List e.den} {v:Value} {bs:List Nat} (hr:qA w F et e xs v bs):∃ad cap,v= .slice ad xs.length cap∧xs.length≤cap:=by
 obtain ⟨cells,ho⟩:=hr.hdr
 rcases ho.2 with ⟨h1,h2⟩|⟨g,cap,cur,hv,_,_,hnc,_⟩
 ·exact ⟨none,0,by rw [h1,h2],by omega⟩
 ·exact ⟨some ⟨g,0,none⟩,cap,hv,hnc⟩
theorem qmI (h:qv C σ a.tmps w own) {x1:Op1} {v:Value} (ho:qas (sit C σ a.tmps w own) x1 v) {q:Site} (he:(qmc x1).run (qb σ)=some q):
  q.v=(qb σ q.s).1∧qbd (sit C σ a.tmps w own) q.s q.fo v∧∃bs,qA w (C.free w own) q.et q.e q.xs v bs:=by
 obtain ⟨os,ov,oa⟩:=x1
 unfold qmc at he
 split at he
 ·rename_i s et e xs h1 h2
  simp only at h1 h2
  subst h1; subst h2
  have:=Q.ret_some he
  subst this
  exact ⟨ho.2.1,ho.1.symm,_,ho.2.2⟩
 ·rename_i _ s v0 h2
  simp only at h2
  subst h2
  rw [Q.run_get] at he
  split at he
  case isFalse=>cases he
  rename_i hv
  split at he
  case h_2=>cases he
  rename_i et e xs ha
  have:=Q.ret_some he
  subst this
  have hval:a.tmps.getD s undef=v:=(ho.unowned rfl).2 hv
  have hat:=h.at_ s
  rw [ha,hval] at hat
  exact ⟨hv.symm,hval,_,hat⟩
 ·rename_i _ s v0 off u h2
  simp only at h2
  subst h2
  split at he
  case isFalse=>cases he
  rename_i hu
  rw [Q.run_get] at he
  split at he
  case isFalse=>cases he
  rename_i hv
  split at he
  case h_2=>cases he
  rename_i r ha
  have:=Q.ret_some he
  subst this
  obtain ⟨b,k1,k2,k3⟩:=(ho.unowned rfl).2 hv
  have hh:qbd (sit C σ a.tmps w own) s (some off) v:=by
   refine ⟨b,k1,k2,?_⟩
   rcases k3 with ⟨k3,_⟩|⟨_,k3⟩
   ·rw [hu] at k3; cases k3
   ·exact k3
  obtain ⟨_,_,b2,_,q1,_⟩:=h.rowAt ha hh
  exact ⟨hv.symm,hh,b2,q1⟩
 ·cases he
theorem qd0 (hE:qai E C.P) (h:qv C σ a.tmps w own) {t:Nat} {x1:Op1} {v:Value} (hx:qas (sit C σ a.tmps w own) x1 v) {lo hi:Option Op1} {vl vh:Option Value}
  (hl:(lo=none∧vl=none)∨∃b' v',lo=some b'∧vl=some v'∧qas (sit C σ a.tmps w own) b' v') (hh:(hi=none∧vh=none)∨∃b' v',hi=some b'∧vh=some v'∧qas (sit C σ a.tmps w own) b' v')
  (hr:(execOp a.eval o).run C.P w=((Instr.sliceAt t v vl vh none).run C.P w).andThen fun v w=> .ok (.value v) w) {f:Eff}
  (he:(qha E o t x1 lo hi).run (qb σ)=some f) (hd:∀u∈f.upd,u.s<σ.length) (hc:qbg f.chk):qbh C o a w (qa σ f.upd):=by
 unfold qha at he
 obtain ⟨r,hxr,he⟩:=Q.bind_some he
 have rx:=qbE h hx hxr
 have chk:∀ {l h n:Int},qbg [inS l h n]→0≤l∧l≤h∧h≤n:=fun {l h n} hc=>by
  have:=hc _ (List.mem_singleton.2 rfl)
  simpa [qiX] using this
 split at he
 ·rename_i xs _
  obtain ⟨l,h1,he⟩:=Q.bind_some he
  obtain ⟨hh',h2,he⟩:=Q.bind_some he
  split at he
  ·rename_i hty
   have:=Q.ret_some he
   subst this
   have b1:=qb9 h hl h1
   have b2:=qb9 h hh h2
   obtain ⟨c1,c2,c3⟩:=chk hc
   obtain ⟨e1,g1⟩:=qO.str rx
   refine qZ h (v:= .string ⟨(qQ xs l hh').toArray⟩) ?_ hd (qO.ofStr _ _ ?_)
   ·have hsz:((⟨xs.toArray⟩:ByteArray).size:Int)=qR xs:=by simp [qf,ByteArray.size]
    rw [hr,e1,qii (w:=w) (hE.str t hty) b1 (h:=hh') (by rw [hsz]; exact b2) c1 c2 (by rw [hsz]; exact c3)]
    rw [ByteArray.extract_mk]
    simp [qaW,List.drop_take]
   ·rw [qdC c1 c2 (by rw [qf] at c3; exact c3)]
    have g1:xs.length≤maxLen:=g1
    simp [qf] at c3
    omega
  ·cases he
 ·rename_i e xs
  obtain ⟨l,h1,he⟩:=Q.bind_some he
  obtain ⟨hh',h2,he⟩:=Q.bind_some he
  split at he
  ·rename_i hty
   have:=Q.ret_some he
   subst this
   have b1:=qb9 h hl h1
   have b2:=qb9 h hh h2
   obtain ⟨c1,c2,c3⟩:=chk hc
   have rs:=qO.slice rx
   obtain ⟨ad,len,cap,e1,e2,e3,e4⟩:=rs.slice c1 c2 (by rw [qf] at c3; exact c3)
   subst e1
   subst e2
   have hem:=hE.elem t e hty
   refine qZ h (v:=sliced ad l.toNat hh'.toNat cap e.size) ?_ hd ((qO.ofSlice e4).mono fun b hb _=>qhK hb)
   rw [hr,qcp (w:=w) hem.under (hE.size t e (.inl hty)) e3 b1 (by simpa [qf] using b2) c1 c2 (by simpa [qf] using c3)]
   rfl
  ·cases he
 ·obtain ⟨q,h0,he⟩:=Q.bind_some he
  obtain ⟨l,h1,he⟩:=Q.bind_some he
  obtain ⟨hh',h2,he⟩:=Q.bind_some he
  split at he
  case isFalse=>cases he
  rename_i hty
  have:=Q.ret_some he
  subst this
  have b1:=qb9 h hl h1
  have b2:=qb9 h hh h2
  obtain ⟨c1,c2,c3⟩:=chk hc
  obtain ⟨s1,s2,bs,s3⟩:=qmI h hx h0
  obtain ⟨ad,cap,e1,e2⟩:=s3.form
  subst e1
  rw [qf] at c3 b2
  have hrun:=qcp (w:=w) (hE.elem t q.e hty).under (hE.size t q.e (.inl hty)) (ad:=ad) e2 b1 b2 c1 c2 c3
  have hr2:(execOp a.eval o).run C.P w= .ok (.value (sliced ad l.toNat hh'.toNat cap q.e.size)) w:=by rw [hr,hrun]; rfl
  refine qe hr2 (h.dst0 hd ⟨rfl,fun _=>⟨ad,q.xs.length,cap,s2,c1,c2,c3,rfl⟩⟩ (fun m hm=> ?_))
  simp only [AV.mentions,List.mem_singleton] at hm
  rw [hm,s1]
  exact Nat.le_refl _
 ·cases he
theorem qJ.front {F:Nat→Prop} {et:Nat} {e:Ty} {xs:List e.den} {v:Value} {bs:List Nat} (hr:qJ w F et e xs v bs) {h:Int} (h1:0≤h) (h2:h≤xs.length):
  ∃ad cap,v= .slice ad xs.length cap∧xs.length≤cap∧qJ w F et e (qQ xs 0 h) (sliced ad 0 h.toNat cap e.size) bs:=by
 have hlen:=qdC (xs:=xs) (l:=0) (Int.le_refl _) h1 h2
 obtain ⟨cells,hc,hbs,hx⟩:=hr
 have hx':∀(i:Nat) (x:e.den),(qQ xs 0 h)[i]? =some x→Rep w F e x (((cells.take (h.toNat * e.size)).drop (i * e.size)).take e.size):=by
  intro i x hi
  have hlt:i<h.toNat:=by
   have:=(List.getElem?_eq_some_iff.1 hi).1
   rw [hlen] at this; simpa using this
  have:=hx _ _ (qej hi)
  rw [Int.toNat_zero,Nat.zero_add] at this
  have e1:((cells.take (h.toNat * e.size)).drop (i * e.size)).take e.size=(cells.drop (i * e.size)).take e.size:=by
   have hle:i * e.size+e.size≤h.toNat * e.size:=by
    have:=Nat.mul_le_mul_right e.size (show i+1≤h.toNat by omega)
    rw [Nat.add_mul,Nat.one_mul] at this
    exact this
   rw [List.drop_take,List.take_take,Nat.min_eq_left (by omega)]
  rw [e1]
  exact this
 rcases hc.2 with ⟨k1,k2⟩|⟨g,cap,cur,k1,k2,k3,k4,k5,k6,k7⟩
 ·have hxn:xs=[]:=List.eq_nil_of_length_eq_zero k2
  subst hxn
  refine ⟨none,0,k1,Nat.le_refl _,?_⟩
  have h0:h.toNat=0:=by simp at h2; omega
  have e1:qQ ([]:List e.den) 0 h=[]:=by rw [qaW]; simp
  rw [e1,h0]
  have e2:sliced none 0 0 0 e.size= .slice none 0 0:=by simp [sliced]
  rw [e2,hbs,k1]
  exact ⟨[],World.ownsRow_nil _ _ _ _,rfl,fun i x hi=>by cases hi⟩
 ·refine ⟨some ⟨g,0,none⟩,cap,k1,k4,?_⟩
  have e2:sliced (some ⟨g,0,none⟩) 0 h.toNat cap e.size= .slice (some ⟨g,0,none⟩) h.toNat cap:=by
   simp [sliced,Addr.add]
  rw [e2]
  have hhl:h.toNat≤xs.length:=by omega
  refine ⟨cells.take (h.toNat * e.size),⟨?_,.inr ⟨g,cap,cur,?_,k2,k3,?_,k5,k6,?_⟩⟩,by rw [hbs,k1]; rfl,hx'⟩
  ·rw [List.length_take,hc.1,hlen]
   simp only [Int.toNat_zero,Nat.sub_zero]
   exact Nat.min_eq_left (Nat.mul_le_mul_right _ hhl)
  ·rw [hlen]; simp
  ·rw [hlen]; simp; omega
  ·rw [hlen]
   simp only [Int.toNat_zero,Nat.sub_zero]
   rw [←k7,List.take_take,Nat.min_eq_left (Nat.mul_le_mul_right _ hhl)]
theorem qib {E:Env} {tid:Nat} {x:Operand} {o1:Op1} (ho:(opd E p tid x).run (qb σ)=some o1):∀s,o1.s=some s→o1.a≠ .undef→s<σ.length:=by
 intro s hs ha
 unfold opd at ho
 split at ho
 ·rename_i t
  rw [Q.run_get] at ho
  have:=Q.ret_some ho
  subst this
  have hs:t=s:=by injection hs
  subst hs
  by_cases h:t<σ.length
  ·exact h
  ·have:qb σ t=(0,.undef):=by simp [qb,List.getD,List.getElem?_eq_none (Nat.le_of_not_lt h)]
   rw [this] at ha
   exact absurd rfl ha
 ·split at ho
  ·have:=Q.ret_some ho
   subst this
   cases hs
  ·cases ho
 ·have:=Q.ret_some ho
  subst this
  cases hs
 ·split at ho
  ·have:=Q.ret_some ho
   subst this
   cases hs
  ·cases ho
theorem qn2 (hE:qai E C.P) (h:qv C σ a.tmps w own) {t s d:Nat} {et:Nat} {e:Ty} {xs:List e.den} {v:Value} (hrow:qA w (C.free w own) et e xs v (own s)) {hi:Option Op1} {vh:Option Value}
  (hh:(hi=none∧vh=none)∨∃b' v',hi=some b'∧vh=some v'∧qas (sit C σ a.tmps w own) b' v')
  (hr:(execOp a.eval o).run C.P w=((Instr.sliceAt t v none vh none).run C.P w).andThen fun v w=> .ok (.value v) w) (hdst:o.dst=some d) (hne:d≠s) (hty:E.ty t=some (.slice e)) (hmk:etM et=[]) {l:Int} (h3:(qdN hi (qR xs)).run (qb σ)=some l)
  (hds:d<σ.length) (hss:s<σ.length) (hc:qbg [inS 0 l (qR xs)]):qbh C o a w (qa σ [⟨s,true,.undef⟩,⟨d,true,.own et e (qQ xs 0 l)⟩]):=by
 have b2:=qb9 h hh h3
 obtain ⟨c1,c2⟩:0≤l∧l≤qR xs:=by
  have:=hc _ (List.mem_singleton.2 rfl)
  have:0≤(0:Int)∧0≤l∧l≤qR xs:=by simpa [qiX] using this
  omega
 have c2':l≤xs.length:=by rw [qf] at c2; exact c2
 obtain ⟨ad,cap,k1,k2,k3⟩:=qJ.front (hrow.to0 hmk) c1 c2'
 have hsz:(sizeOf (E.etid t)).run C.P=fun w=> .ok e.size w:=hE.size t e (.inl hty)
 have hrun:=qcp (w:=w) (hE.elem t e hty).under hsz (ad:=ad) k2 (vl:=none) (.inl ⟨rfl,rfl⟩) (by rw [qf] at b2; exact b2) (Int.le_refl _) c1 c2'
 have hr2:(execOp a.eval o).run C.P w= .ok (.value (sliced ad 0 l.toNat cap e.size)) w:=by
  rw [hr,k1,hrun]; rfl
 refine qe hr2 ?_
 rw [qbU a hdst]
 exact h.mut hds [s] (fun s' hs'=>by simp at hs'; subst hs'; exact ⟨hss,fun e=>hne e.symm⟩) (qa5.refl _ _) (fun b hb=> .inr (.inr ⟨s,by simp,hb⟩)) (h.nodup s) (k3.to hmk) rfl
theorem qmu (hE:qai E C.P) (h:qv C σ a.tmps w own) {t:Nat} {x1:Op1} {v:Value} (hx:qas (sit C σ a.tmps w own) x1 v) (hs:∀s,x1.s=some s→x1.a≠ .undef→s<σ.length) {hi:Option Op1} {vh:Option Value}
  (hh:(hi=none∧vh=none)∨∃b' v',hi=some b'∧vh=some v'∧qas (sit C σ a.tmps w own) b' v')
  (hr:(execOp a.eval o).run C.P w=((Instr.sliceAt t v none vh none).run C.P w).andThen fun v w=> .ok (.value v) w) {q:Q Eff} (hq:cutE E o t x1 hi=some q) {f:Eff}
  (he:q.run (qb σ)=some f) (hd:∀u∈f.upd,u.s<σ.length) (hc:qbg f.chk):qbh C o a w (qa σ f.upd):=by
 obtain ⟨os,ov,oa⟩:=x1
 have chk:∀ {h n:Int},qbg [inS 0 h n]→0≤h∧h≤n:=fun {h n} hc=>by
  have:=hc _ (List.mem_singleton.2 rfl)
  have:0≤(0:Int)∧0≤h∧h≤n:=by simpa [qiX] using this
  omega
 unfold cutE at hq
 split at hq
 ·rename_i s et e xs d h1 h2 hdst
  simp only at h1 h2
  subst h1; subst h2
  split at hq
  case isFalse=>cases hq
  rename_i hcond
  obtain ⟨hne,hty,hmk⟩:=hcond
  injection hq with hq
  subst hq
  obtain ⟨l,h3,he⟩:=Q.bind_some he
  have:=Q.ret_some he
  subst this
  exact qn2 hE h hx.2.2 hh hr hdst hne hty hmk h3 (hd ⟨d,true,.own et e (qQ xs 0 l)⟩ (by simp)) (hd ⟨s,true,.undef⟩ (by simp)) hc
 ·rename_i _ et e h2
  simp only at h2
  subst h2
  split at hq
  case isFalse=>cases hq
  rename_i hty
  injection hq with hq
  subst hq
  obtain ⟨l,h3,he⟩:=Q.bind_some he
  have:=Q.ret_some he
  subst this
  have b2:=qb9 h hh h3
  obtain ⟨c1,c2⟩:=chk hc
  have hv:v= .slice none 0 0:=(hx.unowned rfl).2
  have hsz:(sizeOf (E.etid t)).run C.P=fun w=> .ok e.size w:=hE.size t e (.inl hty)
  have hrun:=qcp (w:=w) (hE.elem t e hty).under hsz (ad:=none) (Nat.le_refl 0) (vl:=none) (.inl ⟨rfl,rfl⟩) b2 (Int.le_refl _) c1 c2
  have h0:l.toNat=0:=by omega
  have hr2:(execOp a.eval o).run C.P w= .ok (.value (.slice none 0 0)) w:=by
   rw [hr,hv,hrun,h0]; simp [sliced]
  exact qe hr2 (h.dst0 hd ⟨rfl,rfl⟩ (fun m hm=>by cases hm))
 ·rename_i _ s v0 d h2 hdst
  simp only at h2
  subst h2
  injection hq with hq
  subst hq
  unfold qmt at he
  rw [Q.run_get] at he
  split at he
  case isFalse=>cases he
  rename_i hv
  split at he
  ·rename_i et e xs ha
   split at he
   case isFalse=>cases he
   rename_i hcond
   obtain ⟨hne,hty,hmk⟩:=hcond
   obtain ⟨l,h3,he⟩:=Q.bind_some he
   have:=Q.ret_some he
   subst this
   have hval:a.tmps.getD s undef=v:=(hx.unowned rfl).2 hv
   have hat:=h.at_ s
   rw [ha,hval] at hat
   exact qn2 hE h hat hh hr hdst hne hty hmk h3 (hd ⟨d,true,.own et e (qQ xs 0 l)⟩ (by simp)) (hd ⟨s,true,.undef⟩ (by simp)) hc
  ·exact qd0 hE h hx (.inl ⟨rfl,rfl⟩) hh hr he hd hc
 ·cases hq
theorem qlF (hE:qai E C.P) (h:qv C σ a.tmps w own) (hp:qay (sit C σ a.tmps w own) p) {t:Nat} {x:Operand} {lo hi:Option Operand} (hop:o.op= .slice t x lo hi none) {f:Eff}
  (he:(qbN E p o).run (qb σ)=some f) (hd:∀u∈f.upd,u.s<σ.length) (hc:qbg f.chk):qbh C o a w (qa σ f.upd):=by
 unfold qbN at he
 rw [hop] at he
 obtain ⟨x1,hx,he⟩:=Q.bind_some he
 have ho:=qN h hp hx
 have hr:(execOp a.eval o).run C.P w=((Instr.sliceAt t (a.eval x) (lo.map a.eval) (hi.map a.eval) none).run C.P w).andThen fun v w=> .ok (.value v) w:=by
  unfold execOp
  rw [hop]
  simp
 cases lo with
 |none=>cases hi with
  |none=>
   simp only at he
   split at he
   ·rename_i q hq
    exact qmu hE h ho (qib hx) (.inl ⟨rfl,rfl⟩) hr hq he hd hc
   ·exact qd0 hE h ho (.inl ⟨rfl,rfl⟩) (.inl ⟨rfl,rfl⟩) hr he hd hc
  |some hi=>
   obtain ⟨b,hb,he⟩:=Q.bind_some he
   split at he
   ·rename_i q hq
    exact qmu hE h ho (qib hx) (.inr ⟨_,_,rfl,rfl,qN h hp hb⟩) hr hq he hd hc
   ·exact qd0 hE h ho (.inl ⟨rfl,rfl⟩) (.inr ⟨_,_,rfl,rfl,qN h hp hb⟩) hr he hd hc
 |some lo=>cases hi with
  |none=>
   obtain ⟨b,hb,he⟩:=Q.bind_some he
   exact qd0 hE h ho (.inr ⟨_,_,rfl,rfl,qN h hp hb⟩) (.inl ⟨rfl,rfl⟩) hr he hd hc
  |some hi=>
   obtain ⟨b,hb,he⟩:=Q.bind_some he
   obtain ⟨b',hb',he⟩:=Q.bind_some he
   exact qd0 hE h ho (.inr ⟨_,_,rfl,rfl,qN h hp hb⟩) (.inr ⟨_,_,rfl,rfl,qN h hp hb'⟩) hr he hd hc
theorem qlM (hE:qai E C.P) (h:qv C σ a.tmps w own) (hp:qay (sit C σ a.tmps w own) p) {t:Nat} {x:Operand} {fl:Nat} (hop:o.op= .field t x fl) {f:Eff}
  (he:(qbN E p o).run (qb σ)=some f) (hd:∀u∈f.upd,u.s<σ.length) (hc:qbg f.chk):qbh C o a w (qa σ f.upd):=by
 unfold qbN at he
 rw [hop] at he
 obtain ⟨x1,hx,he⟩:=Q.bind_some he
 have ho:=qN h hp hx
 split at he
 ·rename_i t' off u h1 h2 h3
  obtain ⟨r,hr,he⟩:=Q.bind_some he
  have rx:=qbc h ho hr
  split at he
  ·rename_i y hy
   obtain ⟨fz,hf,he⟩:=Q.bind_some he
   have:=qg he
   subst this
   obtain ⟨fs,fd,k1,k2,k3,k4,_⟩:=hE.off t fl off h2
   obtain ⟨q1,q2⟩:=rx.1.sub hy
   have hag:t'.agg=true:=by
    obtain ⟨d,d1,d2⟩:=(hE.ty t t' h1).desc
    rw [k1] at d1
    injection d1 with d1
    subst d1
    exact d2.symm
   obtain ⟨cs,ecs⟩:=rx.2.1 hag
   refine qdY h (v:=mkV u (((a.eval x).cells.toList.drop off).take u.size)) ?_ hf hd (.ofCells q2)
   unfold execOp
   rw [hop]
   simp only [Sem.run_bind,Instr.field,run_underlying k1,Result.andThen_ok,k2,ecs,asAgg,Sem.run_pure]
   rw [ecs] at q1
   have hl:off+u.size≤cs.toList.length:=by simpa [Value.cells] using q1
   have:=(hE.ty _ _ h3).run_part (w:=w) (cs:=cs.toList) (off:=off) hl
   rw [k3,k4]
   simp only [Array.toArray_toList] at this
   rw [this]
   simp [Value.cells]
  ·cases he
 ·cases he
theorem qhv (hE:qai E C.P) (h:qv C σ a.tmps w own) (hp:qay (sit C σ a.tmps w own) p) {t:Nat} {x:Operand} {fl:Nat} (hop:o.op= .fieldAddr t x fl) {f:Eff}
  (he:(qbN E p o).run (qb σ)=some f) (hd:∀u∈f.upd,u.s<σ.length) (hc:qbg f.chk):qbh C o a w (qa σ f.upd):=by
 unfold qbN at he
 rw [hop] at he
 obtain ⟨x1,hx,he⟩:=Q.bind_some he
 have ho:=qN h hp hx
 split at he
 ·rename_i off h2
  obtain ⟨fs,fd,k1,k2,k3,k4,i,k5,k6⟩:=hE.off t fl off h2
  refine qnz h hp.1 ho (qjl h hx) he hd fun ad hv=> ?_
  unfold execOp
  rw [hop]
  simp [Instr.fieldAt,run_underlying k1,k2,hv,Instr.sureAddr,fieldPlace,sizeOf,typeInfo,k5,k6,k3]
 ·cases he
theorem qdo {P:Program} {t e:Nat} (ht:P.underlying t=some (.slice e)) {sz:Nat} (hs:(sizeOf e).run P=fun w=> .ok sz w) {ad:Addr} {len cap:Nat} {k:IntKind} {i:Int} (h0:0≤i) (h1:i<len):
  (Instr.indexAt t (.slice (some ad) len cap) (.int k i)).run P w= .ok (.pointer (some (ad.add (i.toNat * sz)))) w:=by
 simp [Instr.indexAt,asIntOf,run_underlying ht,h0,h1,hs]
theorem qhq (hE:qai E C.P) (h:qv C σ a.tmps w own) (hp:qay (sit C σ a.tmps w own) p) {t:Nat} {x ix:Operand} (hop:o.op= .indexAddr t x ix) {f:Eff}
  (he:(qbN E p o).run (qb σ)=some f) (hd:∀u∈f.upd,u.s<σ.length) (hc:qbg f.chk):qbh C o a w (qa σ f.upd):=by
 unfold qbN at he
 rw [hop] at he
 obtain ⟨x1,hx,he⟩:=Q.bind_some he
 obtain ⟨i1,hi,he⟩:=Q.bind_some he
 have ho:=qN h hp hx
 have hoi:=qN h hp hi
 unfold qh3 at he
 obtain ⟨i,hn,he⟩:=Q.bind_some he
 obtain ⟨e2,g2⟩:=qb4 h hoi hn
 have hr:(execOp a.eval o).run C.P w=((Instr.indexAt t (a.eval x) (.int i.1 i.2)).run C.P w).andThen fun v w=> .ok (.value v) w:=by
  unfold execOp
  rw [hop]
  simp [Sem.run_bind,e2]
 split at he
 case h_2=>
  rename_i n e0 hty
  split at he
  ·cases he
  rename_i hn2
  have chk:qbg [inB i.2 n]→0≤i.2∧i.2<(n:Int):=fun hc=>by
   have:=hc _ (List.mem_singleton.2 rfl)
   simp [qgy] at this
   exact this
  have hsz:=hE.size t e0 (.inr ⟨n,hty⟩)
  have run:∀ {ad:Addr},0≤i.2→i.2<(n:Int)→(Instr.indexAt t (.pointer (some ad)) (.int i.1 i.2)).run C.P w= .ok (.pointer (some (ad.add (i.2.toNat * e0.size)))) w:=fun {ad} h0 h1=>by
   simp [Instr.indexAt,Instr.sureAddr,asIntOf,run_underlying (hE.arr t n e0 hty),h0,h1,hsz]
  split at he
  ·rename_i s v b hb
   rw [Q.run_get] at he
   split at he
   case isFalse=>cases he
   rename_i hv
   have:=Q.ret_some he
   subst this
   obtain ⟨i0,i1⟩:=chk hc
   obtain ⟨bb,k1,k2,k3⟩:=qct h hp.1 ho hb hv
   rw [k2,show ptr bb b= .pointer (some ⟨bb,b,none⟩) from rfl,run i0 i1] at hr
   obtain ⟨q1,q2⟩:=qm3 (C:=C) (w:=w) (own:=own) (off:=b) (e:=e0) (o2:=0) (v:= .pointer (some ((⟨bb,b,none⟩:Addr).add (i.2.toNat * e0.size)))) hv i0 i1 k1 (by rw [qH,Nat.add_zero]; rfl) k3
   exact qe hr (h.dst0 hd q1 q2)
  ·split at he
   ·rename_i t' y off hxa
    split at he
    ·rename_i ys hs
     have:=Q.ret_some he
     subst this
     obtain ⟨i0,i1⟩:=chk hc
     obtain ⟨_,ad,cs,k1,g1,g2,g3,g4⟩:=hxa ▸ ho.unowned (by rw [hxa]; rfl)
     rw [k1,run i0 i1] at hr
     obtain ⟨m1,m2⟩:=g4.sub hs
     obtain ⟨z,z1,z2,z3⟩:=m2.elem (i:=i.2.toNat) (by omega)
     refine qe hr (h.dst0 hd ⟨rfl,(ad.add off).add (i.2.toNat * e0.size),(((cs.drop off).take (Ty.arr n e0).size).drop (i.2.toNat * e0.size)).take e0.size,?_,?_,?_,?_,?_⟩ (fun m hm=>by cases hm))
     ·rw [qaf _ _ 0]; rfl
     ·rw [qE,qE]; exact g1
     ·rw [qE,qE]; exact g2
     ·intro j u hj
      rw [qaf,qaf]
      refine g3 _ _ ?_
      rw [List.getElem?_take] at hj
      split at hj
      case isFalse=>cases hj
      rw [List.getElem?_drop,List.getElem?_take] at hj
      split at hj
      case isFalse=>cases hj
      rw [List.getElem?_drop] at hj
      rw [←hj]
     ·rw [qbZ z1]; exact z2
    ·cases he
   ·cases he
 case h_3=>cases he
 rename_i e0 hty
 have hem:=hE.elem t e0 hty
 have chk:∀ {n:Int},qbg [inB i.2 n]→0≤i.2∧i.2<n:=fun {n} hc=>by
  have:=hc _ (List.mem_singleton.2 rfl)
  simp [qgy] at this
  exact this
 have kOwn:∀(s v0:Nat) (fo:Option Nat) (et:Nat) (e:Ty) (xs:List e.den) (bs:List Nat),(qb σ s).1=v0→qbd (sit C σ a.tmps w own) s fo (a.eval x)→(∃te cells,w.ownsRow 0 te e.size (a.eval x) xs.length cells)→e.size=e0.size→f=⟨qaq o (.prow s v0 fo e.size i.2 0),[inB i.2 (qR xs)]⟩→qbh C o a w (qa σ f.upd):=by
  intro s v0 fo et e xs bs hv htm hrow hsz hf
  subst hf
  obtain ⟨c1,c2⟩:=chk hc
  obtain ⟨te,cells,k1⟩:=hrow
  rcases k1.2 with ⟨k4,k5⟩|⟨g,cap,cur,k4,k5,k6,k7,k8,k9,k10⟩
  ·simp [qf] at c2; omega
  ·rw [k4] at hr
   rw [qdo (w:=w) hem.under (hE.size t e0 (.inl hty)) c1 (by simpa [qf] using c2)] at hr
   refine qe hr (h.dst0 hd ⟨rfl,fun _=>⟨g,xs.length,cap,k4 ▸ htm,c1,by rw [qf] at c2; exact c2,?_⟩⟩ (fun m hm=> ?_))
   ·rw [qH,hsz]; simp [ptr]
   ·simp [AV.mentions] at hm
    subst hm
    exact Nat.le_of_eq hv.symm
 have val:∀(e:Ty) (xs:List e.den),qO w (C.free w own) (.slice e) xs (a.eval x)→e.size=e0.size→f=⟨qaq o (.view e (qbt xs i.2 e.dflt) 0),[inB i.2 (qR xs)]⟩→qbh C o a w (qa σ f.upd):=by
  intro e xs hrow hsz hf
  subst hf
  obtain ⟨c1,c2⟩:=chk hc
  rcases qO.slice hrow with ⟨_,k5⟩|⟨ad,cap,k4,k5,k6,k7⟩
  ·subst k5; simp [qf] at c2; omega
  ·have hlt:i.2.toNat<xs.length:=by simp [qf] at c2; omega
   rw [k4] at hr
   rw [qdo (w:=w) hem.under (hE.size t e0 (.inl hty)) c1 (by simpa [qf] using c2)] at hr
   obtain ⟨q1,q2,cs,q3,q4⟩:=k7 _ _ (List.getElem?_eq_getElem hlt)
   refine qe hr (h.dst0 hd ⟨rfl,ad.add (i.2.toNat * e.size),cs,?_,?_,?_,q3,?_⟩ (fun m hm=>by cases hm))
   ·rw [qaf,hsz]; rfl
   ·rw [qE]; exact q1
   ·rw [qE]; exact q2
   ·rw [qbZ (List.getElem?_eq_getElem hlt)]; exact q4
 obtain ⟨os,ov,oa⟩:=x1
 cases oa with
 |own et e xs=>
  cases os with
  |none=>simp only [hty] at he; cases he
  |some s=>
   simp only [hty] at he
   split at he
   ·rename_i hsz
    obtain ⟨k1,k2,k3⟩:=ho
    exact kOwn s ov none et e xs [] k2.symm k1.symm ⟨_,qA.hdr k3⟩ hsz (Q.ret_some he).symm
   ·cases he
 |ref s v=>
  cases os
  all_goals
   simp only [hty,Q.run_get] at he
   split at he
   ·rename_i hv
    have hu:=(ho.unowned rfl).2 hv
    have hu:a.tmps.getD s undef=a.eval x:=hu
    have hat:=h.at_ s
    rw [hu] at hat
    split at he
    ·rename_i et e xs h3
     rw [h3] at hat
     split at he
     ·rename_i hsz
      exact kOwn s v none et e xs [] hv hu ⟨_,qA.hdr hat⟩ hsz (Q.ret_some he).symm
     ·cases he
    ·rename_i e xs h3
     rw [h3] at hat
     split at he
     ·rename_i hsz
      exact val e xs hat.2 hsz (Q.ret_some he).symm
     ·cases he
    ·rename_i bv i0 o0 t0 w0 h3
     split at he
     ·rename_i et e xs hrow
      split at he
      ·rename_i hsz
       obtain ⟨g,n,cap,b1,b2,b3,_,_,j3,j4,_⟩:=h.holRow h3 hrow
       have e1:a.eval x= .slice (some ⟨g,0,none⟩) n cap:=hu.symm.trans j4
       refine kOwn s v none et e xs [] hv hu ?_ hsz (Q.ret_some he).symm
       rw [e1]
       exact ⟨_,qdM.hdr j3⟩
      ·cases he
     ·cases he
    ·cases he
   ·cases he
 |val t' xs=>
  cases t' with
  |slice e=>
   cases os
   all_goals
    simp only [hty] at he
    split at he
    ·rename_i hsz
     exact val e xs (ho.unowned rfl).2 hsz (Q.ret_some he).symm
    ·cases he
  |_=>cases os <;> simp only [hty] at he <;> cases he
 |bref s v off u=>
  cases os
  all_goals
   simp only [hty] at he
   split at he
   ·rename_i hag
    rw [Q.run_get] at he
    split at he
    ·rename_i hv
     split at he
     ·rename_i et e xs h3
      split at he
      ·rename_i hsz
       have hh:=qdq (ho.unowned rfl) hag hv
       obtain ⟨_,b1,b2,b3,q1,_⟩:=h.rowAt h3 hh
       exact kOwn s v (some off) et e xs b2 hv hh ⟨_,qA.hdr q1⟩ hsz (Q.ret_some he).symm
      ·cases he
     ·split at he
      ·rename_i bv o1 i0 oo t0 w0 h3
       split at he
       case isFalse=>cases he
       rename_i hoo
       subst hoo
       split at he
       case h_2=>cases he
       rename_i et e xs hrow
       split at he
       case isFalse=>cases he
       rename_i hsz
       have hh:=qdq (ho.unowned rfl) hag hv
       obtain ⟨g,n,cap,b1,b2,b3,_,_,j3,j4,_⟩:=h.holRow h3 hrow
       have e1:a.eval x= .slice (some ⟨g,0,none⟩) n cap:=qbd.inj hh j4
       refine kOwn s v (some o1) et e xs [] hv hh ?_ hsz (Q.ret_some he).symm
       rw [e1]
       exact ⟨_,qdM.hdr j3⟩
      ·cases he
    ·cases he
   ·cases he
 |_=>cases os <;> simp only [hty] at he <;> cases he
end
end Go.Vi
namespace Go.Vi
open Go.RowKit
section
variable {C:Ctx} {E:Env} {σ:St} {tm:Array Value} {a:Act} {w w':World} {own:Nat→List Nat} {o:Oper} {p:qdR} [Tabbed E C]
theorem qjH (hpn:∀k∈E.pins,∃b,C.pn k=some b) (h:qv C σ a.tmps w own) (hp:qay (sit C σ a.tmps w own) p) {x:Operand} {as:Bool} (hop:o.op=if as then .assign x else .move x) {f:Eff}
  (he:(qbN E p o).run (qb σ)=some f) (hd:∀u∈f.upd,u.s<σ.length) (hc:qbg f.chk):qbh C o a w (qa σ f.upd):=by
 have hx:(execOp a.eval o).run C.P w= .ok (.value (a.eval x)) w:=by
  unfold execOp
  cases as <;> simp only [if_true,if_false,Bool.false_eq_true] at hop <;> rw [hop] <;> rfl
 unfold qbN at he
 cases as <;> simp only [if_true,if_false,Bool.false_eq_true] at hop <;> rw [hop] at he
 ·obtain ⟨x1,h1,he⟩:=Q.bind_some he
  exact qiO h (qN h hp h1) (qjl h h1) (qib h1) hp.1 hpn he hd hx
 ·obtain ⟨x1,h1,he⟩:=Q.bind_some he
  exact qiO h (qN h hp h1) (qjl h h1) (qib h1) hp.1 hpn he hd hx
theorem qmH (hE:qai E C.P) (h:qv C σ a.tmps w own) (hp:qay (sit C σ a.tmps w own) p) {t:Nat} {x:Operand} (hop:o.op= .load t x) {f:Eff}
  (he:(qbN E p o).run (qb σ)=some f) (hd:∀u∈f.upd,u.s<σ.length) (hc:qbg f.chk):qbh C o a w (qa σ f.upd):=by
 unfold qbN at he
 rw [hop] at he
 obtain ⟨x1,h1,he⟩:=Q.bind_some he
 refine qnL hE h hp.1 (qN h hp h1) he hd hc ?_
 unfold execOp
 rw [hop]
 simp only [Sem.run_bind]
 rfl
theorem qlC (hE:qai E C.P) (h:qv C σ a.tmps w own) (hp:qay (sit C σ a.tmps w own) p) {t:Nat} {x y:Operand} (hop:o.op= .store t x y) {f:Eff}
  (he:(qbN E p o).run (qb σ)=some f) (hd:∀u∈f.upd,u.s<σ.length) (hc:qbg f.chk):qbh C o a w (qa σ f.upd):=by
 unfold qbN at he
 rw [hop] at he
 simp only at he
 split at he
 ·cases he
 rename_i hdst
 obtain ⟨x1,h1,he⟩:=Q.bind_some he
 obtain ⟨y1,h2,he⟩:=Q.bind_some he
 refine qlZ hE h hp.1 (qN h hp h1) (qN h hp h2) (by cases ho:o.dst <;> simp [ho] at hdst⊢) he hd hc ?_
 unfold execOp
 rw [hop]
 simp only [Sem.run_bind]
 rfl
theorem qly (hE:qai E C.P) (h:qv C σ a.tmps w own) (hp:qay (sit C σ a.tmps w own) p) {t:Nat} (hop:o.op= .alloc t) {f:Eff}
  (he:(qbN E p o).run (qb σ)=some f) (hd:∀u∈f.upd,u.s<σ.length) (hc:qbg f.chk):qbh C o a w (qa σ f.upd):=by
 unfold qbN at he
 rw [hop] at he
 simp only at he
 split at he
 ·rename_i c hz
  have:=qg he
  subst this
  obtain ⟨i,z,k1,k2,k3⟩:=hE.zero t c hz
  refine ql7 hE h hz hd k1 k2 ?_
  unfold execOp
  rw [hop]
  simp [Instr.alloc,zeroValue,typeInfo,k1,k2,newVar,newRow,ptr]
 ·cases he
theorem qnx (hE:qai E C.P) (h:qv C σ a.tmps w own) (hp:qay (sit C σ a.tmps w own) p) {t:Nat} {x:Operand} (hop:o.op= .box t x) {f:Eff}
  (he:(qbN E p o).run (qb σ)=some f) (hd:∀u∈f.upd,u.s<σ.length) (hc:qbg f.chk):qbh C o a w (qa σ f.upd):=by
 unfold qbN at he
 rw [hop] at he
 obtain ⟨x1,h1,he⟩:=Q.bind_some he
 refine qoL h (qN h hp h1) he hd ?_
 unfold execOp
 rw [hop]
 simp [Instr.box,newVar,newRow,ptr]
theorem qiz (h:qv C σ a.tmps w own) (hp:qay (sit C σ a.tmps w own) p) {x:Operand} (hop:o.op= .nilCheck x) {f:Eff}
  (he:(qbN E p o).run (qb σ)=some f) (hd:∀u∈f.upd,u.s<σ.length) (hc:qbg f.chk):qbh C o a w (qa σ f.upd):=by
 unfold qbN at he
 rw [hop] at he
 obtain ⟨x1,h1,he⟩:=Q.bind_some he
 have ho:=qN h hp h1
 have hr:∀ad,a.eval x= .pointer (some ad)→(execOp a.eval o).run C.P w= .ok (.value (a.eval x)) w:=fun ad e=>by
  unfold execOp
  rw [hop]
  simp [e]
 have hw:=qjl h h1
 split at he
 ·rename_i s v off hb
  rw [Q.run_get] at he
  split at he
  ·rename_i hv
   have:=qg he
   subst this
   obtain ⟨b,g1,g2,g3⟩:=qct h hp.1 ho hb hv
   obtain ⟨q1,q2⟩:=qk6 h hv g1 g2 g3
   exact qe (hr _ g2) (h.dst0 hd q1 q2)
  ·cases he
 ·split at he
  ·rename_i s v fo sz i b hxa
   rw [Q.run_get] at he
   split at he
   ·rename_i hv
    have:=qg he
    subst this
    have hp:=ho.unowned (by rw [hxa]; rfl)
    rw [hxa] at hp hw
    obtain ⟨g,k,cap,k1,k2,k3,k4⟩:=hp.2 hv
    exact qe (hr _ k4) (h.dst0 hd ⟨rfl,fun _=>⟨g,k,cap,k1,k2,k3,k4⟩⟩ hw)
   ·cases he
  ·rename_i t y b hxa
   have:=qg he
   subst this
   have hp:=ho.unowned (by rw [hxa]; rfl)
   rw [hxa] at hp
   obtain ⟨k0,ad,cs,k1,k2⟩:=hp
   exact qe (hr _ k1) (h.dst0 hd ⟨rfl,ad,cs,k1,k2⟩ (fun m hm=>by cases hm))
  ·rename_i e y hxa
   have:=Q.ret_some he
   subst this
   have hsome:=hc _ (List.mem_singleton.2 rfl)
   rw [qeh] at hsome
   obtain ⟨y',rfl⟩:=Option.isSome_iff_exists.1 hsome
   have hv:=ho.unowned (by rw [hxa]; rfl)
   rw [hxa] at hv
   rcases qO.opt hv.2 with ⟨k1,_⟩|⟨y2,ad,cs,k1,k2,k3,k4,k5,k6⟩
   ·cases k1
   ·injection k1 with k1
    subst k1
    refine qe (hr _ k2) (h.dst0 hd ⟨rfl,ad,cs,?_,k3,k4,k5,?_⟩ (fun m hm=>by cases hm))
    ·rw [k2]; simp [Addr.add]
    ·rw [qgl]; exact k6
  ·cases he
theorem qmA (h:qv C σ a.tmps w own) (hp:qay (sit C σ a.tmps w own) p) {c x y:Operand} (hop:o.op= .pick c x y) {f:Eff}
  (he:(qbN E p o).run (qb σ)=some f) (hd:∀u∈f.upd,u.s<σ.length) (hc:qbg f.chk):qbh C o a w (qa σ f.upd):=by
 unfold qbN at he
 rw [hop] at he
 obtain ⟨c1,h1,he⟩:=Q.bind_some he
 obtain ⟨cr,h2,he⟩:=Q.bind_some he
 have rc:=qbE h (qN h hp h1) h2
 split at he
 case h_2=>cases he
 rename_i bc _
 have ec:=qO.bool rc
 obtain ⟨x1,h3,he⟩:=Q.bind_some he
 obtain ⟨xr,h4,he⟩:=Q.bind_some he
 obtain ⟨y1,h5,he⟩:=Q.bind_some he
 obtain ⟨yr,h6,he⟩:=Q.bind_some he
 split at he
 case h_2=>cases he
 rename_i z hz
 split at he
 case isFalse=>cases he
 rename_i hemp
 simp only [Bool.and_eq_true,List.isEmpty_iff] at hemp
 have:=qg he
 subst this
 have path:∀(wb:Bool),bc=wb→qay (sit C σ a.tmps w own) (qkE c c1.v wb bc p):=by
  intro wb hwb
  cases c with
  |tmp t=>
   refine ⟨hp.1,fun q hq=> ?_⟩
   rcases List.mem_cons.1 hq with rfl|hq
   ·have h1:(⟨some t,(qb σ t).1,qan p (qb σ t).2⟩:Op1)=c1:=Option.some.inj h1
    refine ⟨by rw [←h1]; rfl,?_,hwb⟩
    rw [←hwb]
    exact ec
   ·exact hp.2 q hq
  |_=>exact hp
 have hr:(execOp a.eval o).run C.P w= .ok (.value (if bc then a.eval x else a.eval y)) w:=by
  unfold execOp
  rw [hop]
  cases bc <;> simp [ec,asBool]
 refine qZ h hr hd ?_
 cases hb:bc with
 |true=>
  have:=qbE h (qN h (path true hb) h3) h4
  rw [hemp.1] at this
  exact this.mono fun b hb _=>qhK hb
 |false=>
  have:=qbE h (qN h (path false hb) h5) h6
  rw [hemp.2] at this
  exact (qO.as hz this).mono fun b hb _=>qhK hb
theorem qbw {l:List Value} {n i s:Nat} (h:i<n):((l.take (n * s)).drop (i * s)).take s=(l.drop (i * s)).take s:=by
 rw [List.drop_take,List.take_take]
 congr 1
 have:(i+1) * s≤n * s:=Nat.mul_le_mul_right _ h
 rw [Nat.add_mul] at this
 omega
theorem qv.newOwn (h:qv C σ a.tmps w own) {et:Nat} {e:Ty} {xs:List e.den} {cur:Array Value} {n cap:Nat} (hmk:etM et=[]) (hlen:xs.length=n) (hnc:n≤cap) (hcm:cap≤maxLen) (hsz:cur.size=cap * e.size)
  (hx:∀i x,xs[i]? =some x→Rep w (C.free w own) e x ((cur.toList.drop (i * e.size)).take e.size))
  (hr:(execOp a.eval o).run C.P w= .ok (.value (.slice (some ⟨w.heap.size,0,none⟩) n cap)) (w.alloc (.cells cur et))) (hd:∀u∈qaq o (.own et e xs),u.s<σ.length):qbh C o a w (qa σ (qaq o (.own et e xs))):=by
 refine qe hr (h.dst (bs:=[w.heap.size]) (qa5.alloc _ _ _) hd (fun b hb=> ?_) (by simp) ?_ (fun m hm=>by cases hm))
 ·simp at hb
  subst hb
  exact ⟨Nat.le_refl _,by simp⟩
 ·refine qJ.to hmk ⟨cur.toList.take (n * e.size),⟨?_,.inr ⟨w.heap.size,cap,cur,by rw [hlen],Nat.zero_le _,heap_alloc_new w _,by rw [hlen]; exact hnc,hcm,hsz,by rw [hlen]⟩⟩,rfl,fun i x hi=> ?_⟩
  ·rw [List.length_take,Array.length_toList,hsz,hlen]
   exact Nat.min_eq_left (Nat.mul_le_mul_right _ hnc)
  ·have hlt:i<n:=by
    rw [←hlen]
    exact (List.getElem?_eq_some_iff.1 hi).1
   rw [qbw hlt]
   refine (hx i x hi).keep fun b hb hlt=>⟨⟨.inl hb,by simp; omega,by simp; omega⟩,by simp; omega,qdh w _ _ hlt⟩
theorem qcP (z:Array Value) (n i:Nat) (hi:i<n) (hz:0<z.size):(madeCells z n).toList[i]? =z.toList[i % z.size]? :=by
 have h1:i % z.size<z.size:=Nat.mod_lt _ hz
 simp [madeCells,hi,h1]
theorem qcT (z:Array Value) (n i:Nat) (hi:i<n):((madeCells z (n * z.size)).toList.drop (i * z.size)).take z.size=z.toList:=by
 have hle:(i+1) * z.size≤n * z.size:=Nat.mul_le_mul_right _ hi
 rw [Nat.add_mul,Nat.one_mul] at hle
 apply List.ext_getElem?
 intro j
 rw [List.getElem?_take]
 split
 ·rename_i hj
  rw [List.getElem?_drop,qcP _ _ _ (by omega) (by omega)]
  rw [show (i * z.size+j) % z.size=j from by rw [Nat.mul_comm,Nat.mul_add_mod,Nat.mod_eq_of_lt hj]]
 ·rename_i hj
  rw [List.getElem?_eq_none (by rw [Array.length_toList]; omega)]
theorem qhm (z:Array Value) (n m i:Nat) (hi:i<n):((Builtin.zeroCells z n++Builtin.zeroCells z m).toList.drop (i * z.size)).take z.size=z.toList:=by
 have hle:(i+1) * z.size≤n * z.size:=Nat.mul_le_mul_right _ hi
 rw [Nat.add_mul,Nat.one_mul] at hle
 have hs:(Builtin.zeroCells z n).toList.length=n * z.size:=by simp [Builtin.zeroCells]
 rw [Array.toList_append,List.drop_append,List.take_append,List.length_drop,hs]
 rw [show z.size - (n * z.size - i * z.size)=0 by omega,List.take_zero,List.append_nil]
 exact qcT z n i hi
theorem qhD (hE:qai E C.P) (h:qv C σ a.tmps w own) (hp:qay (sit C σ a.tmps w own) p) {t:Nat} {x y:Operand} (hop:o.op= .makeSlice t x y) {f:Eff}
  (he:(qbN E p o).run (qb σ)=some f) (hd:∀u∈f.upd,u.s<σ.length) (hc:qbg f.chk):qbh C o a w (qa σ f.upd):=by
 unfold qbN at he
 rw [hop] at he
 obtain ⟨x1,h1,he⟩:=Q.bind_some he
 obtain ⟨y1,h2,he⟩:=Q.bind_some he
 obtain ⟨n,h3,he⟩:=Q.bind_some he
 obtain ⟨m,h4,he⟩:=Q.bind_some he
 obtain ⟨e1,g1⟩:=qb4 h (qN h hp h1) h3
 obtain ⟨e2,g2⟩:=qb4 h (qN h hp h2) h4
 split at he
 case h_2=>cases he
 rename_i e hty
 split at he
 case isFalse=>cases he
 rename_i hby
 obtain ⟨hby,hmk⟩:=hby
 have:=Q.ret_some he
 subst this
 obtain ⟨i,z,k1,k2,k3,k4,k5,k6,k7⟩:=hE.elem' hty
 have c1:0≤n.2:=by have:=hc (leI 0 n.2) (by simp); simpa [qds] using this
 have c2:n.2≤m.2:=by have:=hc (leI n.2 m.2) (by simp); simpa [qds] using this
 have c3:m.2 * (E.bytes (E.etid t):Int)≤140737488355328:=by
  have:=hc (qod m.2 (E.bytes (E.etid t))) (by simp)
  simp [qiy] at this
  exact this.2
 have c5:m.2≤140737488355328:=by
  have h1:(1:Int)≤(E.bytes (E.etid t):Int):=by omega
  have h2:m.2 * 1≤m.2 * (E.bytes (E.etid t):Int):=Int.mul_le_mul_of_nonneg_left h1 (by omega)
  omega
 have c4:m.2≤9223372036854775807:=by omega
 have hrun:=run_make (P:=C.P) w t (E.etid t) i z k1 k2 k4 n.1 m.1 n.2 m.2 c1 c2 (by rw [k6,Int.mul_comm]; omega) c4
 refine h.newOwn hmk (n:=n.2.toNat) (cap:=m.2.toNat) (cur:=madeCells z.cells (m.2.toNat * i.size)) (by simp [qeE]) (by omega) (by simp only [maxLen]; omega) (by rw [size_madeCells,k3]) ?_ ?_ hd
 ·intro j u hj
  have hlt:j<n.2.toNat:=by
   have:=(List.getElem?_eq_some_iff.1 hj).1
   simpa [qeE] using this
  have hu:u=e.dflt:=by
   have:=List.mem_of_getElem? hj
   rw [qeE] at this
   exact List.eq_of_mem_replicate this
  rw [hu,k3,←k5,qcT _ _ _ (by omega)]
  exact k7 _ _
 ·unfold execOp
  rw [hop]
  simp only [Sem.run_bind,e1,e2,hrun]
  rfl
end
end Go.Vi
namespace Go.Vi
open Go.RowKit
section
variable {C:Ctx} {E:Env} {σ:St} {tm:Array Value} {a:Act} {w w':World} {own:Nat→List Nat} {o:Oper} {p:qdR} [Tabbed E C]
theorem qad.at {F:Nat→Prop} : {cs:List qi4} → {vs:List Value} → {bs:List Nat} → {i:Nat} → {c:qi4} →qad w F cs vs bs→cs[i]? =some c→
  ∃v b1 b2 b3,vs[i]? =some v∧bs=b1++b2++b3∧qkz w F c v b2∧qad w F (cs.set i .gone) vs (b1++b3)
 |[],_,_,_,_,_,hc=>by cases hc
 |c::cs,_,_,0,_,⟨v,r,b1,b2,h1,h2,h3,h4⟩,hc=>by
  injection hc with hc
  subst hc
  exact ⟨v,[],b1,b2,by rw [h1]; rfl,by rw [h2]; rfl,h3,v,r,[],b2,h1,rfl,rfl,h4⟩
 |c::cs,_,_,i+1,_,⟨v,r,b1,b2,h1,h2,h3,h4⟩,hc=>by
  obtain ⟨v',c1,c2,c3,k1,k2,k3,k4⟩:=h4.at (i:=i) hc
  exact ⟨v',b1++c1,c2,c3,by rw [h1]; exact k1,by rw [h2,k2]; simp,k3,v,r,b1,c1++c3,h1,by simp,h3,k4⟩
theorem qv.part (h:qv C σ tm w own) {s d:Nat} (hs:s<σ.length) (hd:d<σ.length) (hne:d≠s) {av av':AV} {v:Value} {b1 b2 b3:List Nat} (hown:own s=b1++b2++b3)
  (hav:qL (sit C σ tm w own) av (tm.getD s undef) (b1++b3)) (hav':qL (sit C σ tm w own) av' v b2) (hm:av.mentions=[]) (hm':av'.mentions=[]):
  ∃own',qv C (qa σ [⟨s,true,av⟩,⟨d,true,av'⟩]) (tm.setIfInBounds d v) w own':=by
 have eS:qb (qa σ [⟨s,true,av⟩,⟨d,true,av'⟩]) s=((qb σ s).1+1,av):=by
  show qb (qr (qr σ ⟨s,true,av⟩) ⟨d,true,av'⟩) s=_
  rw [qc _ _ (Ne.symm hne),qk σ ⟨s,true,av⟩ hs]
  rfl
 have eD:qb (qa σ [⟨s,true,av⟩,⟨d,true,av'⟩]) d=((qb σ d).1+1,av'):=by
  show qb (qr (qr σ ⟨s,true,av⟩) ⟨d,true,av'⟩) d=_
  rw [qk (qr σ ⟨s,true,av⟩) ⟨d,true,av'⟩ (by rw [qD]; exact hd),qc _ _ hne]
  rfl
 have eO:∀x,x≠s→x≠d→qb (qa σ [⟨s,true,av⟩,⟨d,true,av'⟩]) x=qb σ x:=fun x h1 h2=>by
  show qb (qr (qr σ ⟨s,true,av⟩) ⟨d,true,av'⟩) x=_
  rw [qc _ _ h2,qc _ _ h1]
 have tD:(tm.setIfInBounds d v).getD d undef=v:=qaj tm _ (by rw [h.size]; exact hd)
 have tS:(tm.setIfInBounds d v).getD s undef=tm.getD s undef:=qB tm _ (Ne.symm hne)
 let own':Nat→List Nat:=fun x=>if x=d then b2 else if x=s then b1++b3 else own x
 have oD:own' d=b2:=by simp [own']
 have oS:own' s=b1++b3:=by simp [own',Ne.symm hne]
 have hnd:=h.nodup s
 rw [hown] at hnd
 have n1:=List.nodup_append.1 hnd
 have n2:=List.nodup_append.1 n1.1
 have sub:∀x b,x=s∨x=d→b∈own' x→b∈own s:=by
  rintro x b (rfl|rfl) hb
  ·rw [oS] at hb
   rw [hown]
   rcases List.mem_append.1 hb with hb|hb <;> simp [hb]
  ·rw [oD] at hb
   rw [hown]
   simp [hb]
 have dis:∀b,b∈own' s→b∈own' d→False:=by
  intro b hb hb'
  rw [oS] at hb
  rw [oD] at hb'
  rcases List.mem_append.1 hb with hb|hb
  ·exact n2.2.2 b hb b hb' rfl
  ·exact n1.2.2 b (List.mem_append_right _ hb') b hb rfl
 refine ⟨own',h.update (fun x=>x=s∨x=d) (qj _ _) (by simp) ?_ ?_ (qa5.refl _ _) ?_ ?_ ?_ ?_ ?_⟩
 ·intro x hx
  have h1:x≠s:=fun e=>hx (.inl e)
  have h2:x≠d:=fun e=>hx (.inr e)
  exact ⟨eO x h1 h2,qB tm _ h2,by simp [own',h1,h2]⟩
 ·rintro x (rfl|rfl)
  ·rw [eS]; exact .inl (Nat.lt_succ_self _)
  ·rw [eD]; exact .inl (Nat.lt_succ_self _)
 ·rintro x (rfl|rfl) <;> assumption
 ·intro x hx
  refine ⟨fun b hb=> .inr ⟨s,.inl rfl,sub x b hx hb⟩,?_⟩
  rcases hx with rfl|rfl
  ·rw [oS]
   exact List.nodup_append.2 ⟨n2.1,n1.2.1,fun b hb b' hb'=>n1.2.2 b (List.mem_append_left _ hb) b' hb'⟩
  ·rw [oD]; exact n2.2.1
 ·rintro x y b (rfl|rfl) (rfl|rfl) hb hb'
  ·rfl
  ·exact (dis b hb hb').elim
  ·exact (dis b hb' hb).elim
  ·rfl
 ·have hfree:∀b,C.free w own b→C.free w own' b:=fun b hb=>⟨hb.1,hb.2.1,fun x hx=>by
   by_cases h1:x=s∨x=d
   ·exact hb.2.2 s (sub x b h1 hx)
   ·have h2:x≠s:=fun e=>h1 (.inl e)
    have h3:x≠d:=fun e=>h1 (.inr e)
    simp only [own',if_neg h2,if_neg h3] at hx
    exact hb.2.2 x hx⟩
  rintro x (rfl|rfl)
  ·rw [eS,tS,oS]
   exact qL.keep (X:=sit C σ tm w own) (X':=sit C _ _ w own') ⟨rfl,rfl⟩ (fun b hb hlt=>⟨hfree b hb,hlt,rfl⟩) (fun _ _ _=>rfl) (fun m hmm=>by rw [hm] at hmm; cases hmm) hav
  ·rw [eD,tD,oD]
   exact qL.keep (X:=sit C σ tm w own) (X':=sit C _ _ w own') ⟨rfl,rfl⟩ (fun b hb hlt=>⟨hfree b hb,hlt,rfl⟩) (fun _ _ _=>rfl) (fun m hmm=>by rw [hm'] at hmm; cases hmm) hav'
 ·rintro x (rfl|rfl) m hmm
  ·rw [eS,hm] at hmm; cases hmm
  ·rw [eD,hm'] at hmm; cases hmm
theorem qjF (h:qv C σ a.tmps w own) (hp:qay (sit C σ a.tmps w own) p) {x:Operand} {i:Nat} (hop:o.op= .extract x i) {f:Eff}
  (he:(qbN E p o).run (qb σ)=some f) (hd:∀u∈f.upd,u.s<σ.length) (hc:qbg f.chk):qbh C o a w (qa σ f.upd):=by
 unfold qbN at he
 rw [hop] at he
 simp only at he
 split at he
 case h_2=>cases he
 rename_i t
 rw [Q.run_get] at he
 split at he
 case h_2=>cases he
 rename_i cs hcs
 have hat:=qgF hp (h.at_ t)
 rw [hcs] at hat
 obtain ⟨vs,h1,h2⟩:=hat
 have hr:∀v,vs[i]? =some v→(execOp a.eval o).run C.P w= .ok (.value v) w:=fun v hv=>by
  unfold execOp
  rw [hop]
  have e:a.eval (.tmp t)= .tuple vs.toArray:=h1
  simp [Sem.run_bind,e,Instr.extract,hv]
 split at he
 ·rename_i u y hi
  have:=qg he
  subst this
  obtain ⟨v,b1,b2,b3,k1,k2,k3,k4⟩:=h2.at hi
  exact qZ h (hr v k1) hd k3.2
 ·rename_i et e xs hi
  split at he
  case h_2=>cases he
  rename_i d hdst
  split at he
  ·cases he
  ·rename_i hne
   have:=qg he
   subst this
   obtain ⟨v,b1,b2,b3,k1,k2,k3,k4⟩:=h2.at hi
   refine qe (hr v k1) ?_
   rw [qbU a hdst]
   exact h.part (s:=t) (d:=d) (hd ⟨t,true,.tup (cs.set i .gone)⟩ (by simp)) (hd ⟨d,true,.own et e xs⟩ (by simp)) hne k2 ⟨vs,h1,k4⟩ k3 rfl rfl
 ·rename_i c hi
  split at he
  case h_2=>cases he
  rename_i d hdst
  split at he
  ·cases he
  ·rename_i hne
   have:=qg he
   subst this
   obtain ⟨v,b1,b2,b3,k1,k2,k3,k4⟩:=h2.at hi
   refine qe (hr v k1) ?_
   rw [qbU a hdst]
   exact h.part (s:=t) (d:=d) (hd ⟨t,true,.tup (cs.set i .gone)⟩ (by simp)) (hd ⟨d,true,.agg c⟩ (by simp)) hne k2 ⟨vs,h1,k4⟩ k3 rfl rfl
 ·cases he
def qg8 (X:Sit):List Op1→List Value→Prop
 |[],[]=>True
 |o::os,v::vs=>qas X o v∧qg8 X os vs
 |_,_=>False
theorem qfN (h:qv C σ a.tmps w own) {P:Program} {g:Int→Int→Int} {m2:Value→Value→Sem Value} (hg:∀k x y,(m2 (.int k x) (.int k y)).run P w= .ok (.int k (g x y)) w) (hh:∀(k:IntKind) x y,k.has x→k.has y→k.has (g x y)) {k:IntKind} :
  ∀(os:List Op1) (vs:List Value) (n r:Int),k.has n→qg8 (sit C σ a.tmps w own) os vs→(qiM g k n os).run (qb σ)=some r→(vs.foldlM m2 (.int k n)).run P w= .ok (.int k r) w∧k.has r
 |[],[],n,r,hn,_,he=>by
  have:=Q.ret_some he
  subst this
  exact ⟨rfl,hn⟩
 |o::os,v::vs,n,r,hn,⟨ho,hos⟩,he=>by
  obtain ⟨m,h1,he⟩:=Q.bind_some he
  split at he
  ·rename_i hk
   obtain ⟨e1,g1⟩:=qb4 h ho h1
   subst hk
   subst e1
   obtain ⟨k1,k2⟩:=qfN h hg hh os vs (g n m.2) r (hh _ _ _ hn g1) hos he
   refine ⟨?_,k2⟩
   rw [List.foldlM_cons,Sem.run_bind,hg]
   exact k1
  ·cases he
theorem qiQ (h:qv C σ a.tmps w own) (hp:qay (sit C σ a.tmps w own) p):∀(xs:List Operand) (ts:List Nat) {os:List Op1},(opds E p xs ts).run (qb σ)=some os→qg8 (sit C σ a.tmps w own) os (xs.map a.eval)
 |[],_,os,he=>by
  have:=Q.ret_some he
  subst this
  trivial
 |x::xs,ts,os,he=>by
  obtain ⟨o1,h1,he⟩:=Q.bind_some he
  obtain ⟨r,h2,he⟩:=Q.bind_some he
  have:=Q.ret_some he
  subst this
  exact ⟨qN h hp h1,qiQ h hp xs ts.tail h2⟩
theorem qgA {α β:Type} {R:Nat→α→β→Prop} :∀(xs:List α),(∀i x,xs[i]? =some x→∃c,R i x c)→∃cs:List β,cs.length=xs.length∧∀i x c,xs[i]? =some x→cs[i]? =some c→R i x c
 |[],_=>⟨[],rfl,fun i x c hx=>by cases hx⟩
 |y::ys,h=>by
  obtain ⟨c,hc⟩:=h 0 y rfl
  obtain ⟨cs,h1,h2⟩:=qgA (R:=fun i x c=>R (i+1) x c) ys fun i x hx=>h (i+1) x hx
  refine ⟨c::cs,by simp [h1],fun i x d hx hd=> ?_⟩
  cases i with
  |zero=>
   injection hx with hx
   injection hd with hd
   subst hx; subst hd
   exact hc
  |succ i=>exact h2 i x d hx hd
def qoi (w:World) (F:Nat→Prop) (e:Ty) (xs:List e.den) (v:Value):Prop:=
 (v= .slice none 0 0∧xs=[])∨∃(ad:Addr) (cap:Nat) (cells:List Value),v= .slice (some ad) xs.length cap∧cells.length=xs.length * e.size∧(∀j u,cells[j]? =some u→w.cell? (ad.add j)=some u)∧∀i x,xs[i]? =some x→Rep w F e x ((cells.drop (i * e.size)).take e.size)
theorem qJ.rowAt {F:Nat→Prop} {et:Nat} {e:Ty} {xs:List e.den} {v:Value} {bs:List Nat} (h:qJ w F et e xs v bs):qoi w F e xs v:=by
 obtain ⟨cells,k1,k2,k3⟩:=h
 rcases k1.2 with ⟨k4,k5⟩|⟨g,cap,cur,k4,_⟩
 ·exact .inl ⟨k4,List.eq_nil_of_length_eq_zero k5⟩
 ·exact .inr ⟨⟨g,0,none⟩,cap,cells,k4,k1.1,k1.cells (by rw [k4]; rfl),k3⟩
theorem qlH {css:List (List Value)} {sz j:Nat} {u:Value} (h:∀c∈css,c.length=sz) (hu:css.flatten[j]? =some u):∃i c,css[i]? =some c∧c[j % sz]? =some u∧i=j / sz∧j=i * sz+j % sz:=by
 have hpos:0<sz:=by
  rcases Nat.eq_zero_or_pos sz with h0|h0
  ·have:css.flatten=[]:=List.flatten_eq_nil_iff.2 fun l hl=>List.eq_nil_of_length_eq_zero ((h l hl).trans h0)
   rw [this] at hu; cases hu
  ·exact h0
 have hj:j<css.flatten.length:=(List.getElem?_eq_some_iff.1 hu).1
 rw [qb5 h] at hj
 have hi:j / sz<css.length:=(Nat.div_lt_iff_lt_mul hpos).2 hj
 have e:=qat h (List.getElem?_eq_getElem hi)
 have hdm:j / sz * sz+j % sz=j:=by rw [Nat.mul_comm]; exact Nat.div_add_mod j sz
 refine ⟨j / sz,css[j / sz],List.getElem?_eq_getElem hi,?_,rfl,hdm.symm⟩
 rw [←e.1,List.getElem?_take,if_pos (Nat.mod_lt _ hpos),List.getElem?_drop,hdm]
 exact hu
theorem qbO.rowAt {F:Nat→Prop} {e:Ty} {xs:List e.den} {v:Value} (h:qbO w F (Rep w F e) e.size xs v):qoi w F e xs v:=by
 rcases h with h|⟨ad,cap,h1,h2,h3,h4⟩
 ·exact .inl h
 ·obtain ⟨css,k1,k2⟩:=qgA (R:=fun i x cs=>qcU w (ad.add (i * e.size)) cs∧Rep w F e x cs) xs fun i x hx=>(h4 i x hx).2.2
  have hl:∀c∈css,c.length=e.size:=by
   intro c hc
   obtain ⟨i,hi,rfl⟩:=List.getElem_of_mem hc
   exact (k2 i _ _ (List.getElem?_eq_getElem (by omega)) (List.getElem?_eq_getElem hi)).2.length
  refine .inr ⟨ad,cap,css.flatten,h1,by rw [qb5 hl,k1],fun j u hu=> ?_,fun i x hx=> ?_⟩
  ·obtain ⟨i,c,g1,g2,g3,g4⟩:=qlH hl hu
   have hi:i<xs.length:=by rw [←k1]; exact (List.getElem?_eq_some_iff.1 g1).1
   have:=(k2 i _ c (List.getElem?_eq_getElem hi) g1).1 _ _ g2
   rw [qaf] at this
   rw [g4]
   rw [g4] at this
   simpa using this
  ·have hi:i<css.length:=by rw [k1]; exact (List.getElem?_eq_some_iff.1 hx).1
   rw [(qat hl (List.getElem?_eq_getElem hi)).1]
   exact (k2 i x _ hx (List.getElem?_eq_getElem hi)).2
theorem qkO (h:qv C σ a.tmps w own) {o1:Op1} {v:Value} (ho:qas (sit C σ a.tmps w own) o1 v) {q:((e:Ty)×List e.den)×List Nat} (he:(qnt o1).run (qb σ)=some q):qoi w (C.free w own) q.1.1 q.1.2 v:=by
 obtain ⟨os,ov,oa⟩:=o1
 unfold qnt at he
 cases oa with
 |own et e xs=>
  simp only at he
  split at he
  case isFalse=>cases he
  rename_i hm
  have hm:=List.isEmpty_iff.1 hm
  have:=Q.ret_some he
  subst this
  cases os with
  |none=>exact qJ.rowAt (bs:=[]) (qA.to0 hm ho)
  |some s=>exact qJ.rowAt (qA.to0 hm ho.2.2)
 |nilr et e=>
  have:=Q.ret_some he
  subst this
  rw [(ho.unowned rfl).2]
  exact .inl ⟨rfl,rfl⟩
 |nz e xs=>
  have:=Q.ret_some he
  subst this
  exact qbO.rowAt (qO.slice (ho.unowned rfl).2.1)
 |val t xs=>
  cases t with
  |slice e=>
   have:=Q.ret_some he
   subst this
   exact qbO.rowAt (qO.slice (ho.unowned rfl).2)
  |_=>cases he
 |ref s v0=>
  simp only [Q.run_get] at he
  split at he
  ·rename_i hv
   have hu:a.tmps.getD s undef=v:=(ho.unowned rfl).2 hv
   have hat:=h.at_ s
   rw [hu] at hat
   split at he
   ·rename_i et e xs h3
    rw [h3] at hat
    split at he
    case isFalse=>cases he
    rename_i hm
    have:=Q.ret_some he
    subst this
    exact qJ.rowAt (qA.to0 (List.isEmpty_iff.1 hm) hat)
   ·rename_i e xs h3
    rw [h3] at hat
    have:=Q.ret_some he
    subst this
    exact qbO.rowAt (qO.slice hat.2)
   ·cases he
  ·cases he
 |bref s v0 off u=>
  simp only at he
  split at he
  ·rename_i hag
   rw [Q.run_get] at he
   split at he
   ·rename_i hv
    split at he
    ·rename_i r h3
     obtain ⟨et,e,xs⟩:=r
     split at he
     case isFalse=>cases he
     rename_i hm
     have:=Q.ret_some he
     subst this
     obtain ⟨_,b1,b2,b3,q1,_⟩:=h.rowAt h3 (qdq (ho.unowned rfl) hag hv)
     exact qJ.rowAt (qA.to0 (List.isEmpty_iff.1 hm) q1)
    ·cases he
   ·cases he
  ·cases he
 |_=>cases he
end
end Go.Vi
