import GoSem.Claims
import Derived.Control
import Derived.Below
import Derived.Laws.AppendOwn
import Derived.Laws.OwnMore
import Derived.Laws.Slices
import Derived.WalkKit
set_option linter.unusedVariables false
set_option linter.unusedSimpArgs false
set_option linter.unnecessarySimpa false
set_option linter.unusedSectionVars false
open Array renaming getD_eq_getD_getElem? → zaA, getElem?_eq_getElem → zaF, getElem?_eq_some_iff → zav
open Bool renaming and_eq_true → zad, false_eq_true → za0
open List renaming append_assoc → zaC, append_nil → zar, drop_eq_getElem_cons → zaO, drop_of_length_le → za1, drop_zero → zbe, eq_nil_of_length_eq_zero → zaV, flatten_cons → zaX, getElem?_drop → zan, getElem?_eq_getElem → zaa, getElem?_eq_none → zaD, getElem?_eq_some_iff → zao, getElem?_take → zal, getElem_mem → zau, getElem_of_mem → zaw, length_append → zag, length_cons → zba, length_drop → zap, length_take → zaf, map_append → za3, map_cons → zaZ, mem_append → zaj, mem_append_left → zac, mem_append_right → zab, mem_cons → zam, mem_cons_of_mem → zae, mem_cons_self → zai, mem_map → zaS, mem_map_of_mem → zaR, mem_of_getElem? → zaU, nodup_append → zah, nodup_cons → zax, nodup_nil → zaH, take_append_drop → zaK, take_append_of_le_length → zaG, take_length → za5, take_of_length_le → zas
open Nat renaming add_mul → zbc, le_refl → zay, lt_of_lt_of_le → zaE, lt_succ_self → zbb
open Option renaming map_eq_some_iff → zaB
namespace Go.Vi
noncomputable def qab {α:Type}(x:α): { y:α // y=x } :=Classical.choice ⟨⟨x,rfl⟩⟩
noncomputable def qQ (k:IntKind) (x y:Int):Int:=(qab (α:=IntKind→Int→Int→Int) fun k x y=>k.wrap (x+y)).1 k x y
theorem qjJ (k:IntKind) (x y:Int):qQ k x y=(k.wrap (x+y)):=by unfold qQ;rw[(qab _).2]
noncomputable def qR (k:IntKind) (x y:Int):Int:=(qab (α:=IntKind→Int→Int→Int) fun k x y=>k.wrap (x-y)).1 k x y
theorem qiq (k:IntKind) (x y:Int):qR k x y=(k.wrap (x-y)):=by unfold qR;rw[(qab _).2]
noncomputable def qj4 (k:IntKind) (x y:Int):Int:=(qab (α:=IntKind→Int→Int→Int) fun k x y=>k.wrap (x*y)).1 k x y
theorem qer (k:IntKind) (x y:Int):qj4 k x y=(k.wrap (x*y)):=by unfold qj4;rw[(qab _).2]
noncomputable def qpI (k:IntKind) (x y:Int):Int:=(qab (α:=IntKind→Int→Int→Int) fun k x y=>k.wrap (x.tdiv y)).1 k x y
theorem qj3 (k:IntKind) (x y:Int):qpI k x y=(k.wrap (x.tdiv y)):=by unfold qpI;rw[(qab _).2]
noncomputable def irem (x y:Int):Int:=(qab (α:=Int→Int→Int) fun x y=>x.tmod y).1 x y
theorem qqN (x y:Int):irem x y=(x.tmod y):=by unfold irem;rw[(qab _).2]
noncomputable def ineg (k:IntKind) (x:Int):Int:=(qab (α:=IntKind→Int→Int) fun k x=>k.wrap (0-x)).1 k x
theorem qrg (k:IntKind) (x:Int):ineg k x=(k.wrap (0-x)):=by unfold ineg;rw[(qab _).2]
noncomputable def qbI (k:IntKind) (x:Int):Int:=(qab (α:=IntKind→Int→Int) fun k x=>k.wrap x).1 k x
theorem qfP (k:IntKind) (x:Int):qbI k x=(k.wrap x):=by unfold qbI;rw[(qab _).2]
noncomputable def qvo (k:IntKind) (x y:Int):Int:=(qab (α:=IntKind→Int→Int→Int) fun k x y=>k.wrap ((BitVec.ofInt k.bits x&&& BitVec.ofInt k.bits y).toNat:Int)).1 k x y
theorem qom (k:IntKind) (x y:Int):qvo k x y=(k.wrap ((BitVec.ofInt k.bits x&&& BitVec.ofInt k.bits y).toNat:Int)):=by unfold qvo;rw[(qab _).2]
noncomputable def bor (k:IntKind) (x y:Int):Int:=(qab (α:=IntKind→Int→Int→Int) fun k x y=>k.wrap ((BitVec.ofInt k.bits x|||BitVec.ofInt k.bits y).toNat:Int)).1 k x y
theorem qtH (k:IntKind) (x y:Int):bor k x y=(k.wrap ((BitVec.ofInt k.bits x|||BitVec.ofInt k.bits y).toNat:Int)):=by unfold bor;rw[(qab _).2]
noncomputable def qiw (k:IntKind) (x y:Int):Int:=(qab (α:=IntKind→Int→Int→Int) fun k x y=>k.wrap ((BitVec.ofInt k.bits x ^^^ BitVec.ofInt k.bits y).toNat:Int)).1 k x y
theorem qll (k:IntKind) (x y:Int):qiw k x y=(k.wrap ((BitVec.ofInt k.bits x ^^^ BitVec.ofInt k.bits y).toNat:Int)):=by unfold qiw;rw[(qab _).2]
noncomputable def qoA (k:IntKind) (x y:Int):Int:=(qab (α:=IntKind→Int→Int→Int) fun k x y=>k.wrap ((BitVec.ofInt k.bits x&&& ~~~ BitVec.ofInt k.bits y).toNat:Int)).1 k x y
theorem qlT (k:IntKind) (x y:Int):qoA k x y=(k.wrap ((BitVec.ofInt k.bits x&&& ~~~ BitVec.ofInt k.bits y).toNat:Int)):=by unfold qoA;rw[(qab _).2]
noncomputable def qkK (k:IntKind) (x y:Int):Int:=(qab (α:=IntKind→Int→Int→Int) fun k x y=>k.wrap (x*2^ (min y.toNat k.bits))).1 k x y
theorem qoC (k:IntKind) (x y:Int):qkK k x y=(k.wrap (x*2^ (min y.toNat k.bits))):=by unfold qkK;rw[(qab _).2]
noncomputable def qgY (k:IntKind) (x y:Int):Int:=(qab (α:=IntKind→Int→Int→Int) fun k x y=>x.fdiv (2^ (min y.toNat k.bits))).1 k x y
theorem qlw (k:IntKind) (x y:Int):qgY k x y=(x.fdiv (2^ (min y.toNat k.bits))):=by unfold qgY;rw[(qab _).2]
noncomputable def eqI (x y:Int):Bool:=(qab (α:=Int→Int→Bool) fun x y=>x==y).1 x y
theorem qi8 (x y:Int):eqI x y=(x==y):=by unfold eqI;rw[(qab _).2]
noncomputable def neI (x y:Int):Bool:=(qab (α:=Int→Int→Bool) fun x y=>x !=y).1 x y
theorem qmv (x y:Int):neI x y=(x !=y):=by unfold neI;rw[(qab _).2]
noncomputable def ltI (x y:Int):Bool:=(qab (α:=Int→Int→Bool) fun x y=>decide (x<y)).1 x y
theorem qbz (x y:Int):ltI x y=(decide (x<y)):=by unfold ltI;rw[(qab _).2]
noncomputable def leI (x y:Int):Bool:=(qab (α:=Int→Int→Bool) fun x y=>decide (x≤y)).1 x y
theorem qbQ (x y:Int):leI x y=(decide (x≤y)):=by unfold leI;rw[(qab _).2]
noncomputable def maxI (x y:Int):Int:=(qab (α:=Int→Int→Int) fun x y=>if y > x then y else x).1 x y
theorem qq3 (x y:Int):maxI x y=((if y > x then y else x)):=by unfold maxI;rw[(qab _).2]
noncomputable def minI (x y:Int):Int:=(qab (α:=Int→Int→Int) fun x y=>if y<x then y else x).1 x y
theorem qln (x y:Int):minI x y=((if y<x then y else x)):=by unfold minI;rw[(qab _).2]
noncomputable def eqB (x y:Bool):Bool:=(qab (α:=Bool→Bool→Bool) fun x y=>x==y).1 x y
theorem qn0 (x y:Bool):eqB x y=(x==y):=by unfold eqB;rw[(qab _).2]
noncomputable def eqS (x y:List UInt8):Bool:=(qab (α:=(List UInt8)→(List UInt8)→Bool) fun x y=>x==y).1 x y
theorem qp4 (x y:List UInt8):eqS x y=(x==y):=by unfold eqS;rw[(qab _).2]
noncomputable def qpj (x y:List UInt8):Bool:=(qab (α:=(List UInt8)→(List UInt8)→Bool) fun x y=>Op.bytesLess x y).1 x y
theorem qpi (x y:List UInt8):qpj x y=(Op.bytesLess x y):=by unfold qpj;rw[(qab _).2]
noncomputable def qs {α:Type}(xs:List α):Int:=(qab (α:=(List α)→Int) fun xs=>(xs.length:Int)).1 xs
theorem qp {α:Type}(xs:List α):qs xs=((xs.length:Int)):=by unfold qs;rw[(qab _).2]
noncomputable def qh {α:Type}(xs:List α) (i:Int) (d:α):α:=(qab (α:=(List α)→Int→α→α) fun xs i d=>xs.getD i.toNat d).1 xs i d
theorem qil {α:Type}(xs:List α) (i:Int) (d:α):qh xs i d=(xs.getD i.toNat d):=by unfold qh;rw[(qab _).2]
noncomputable def qbh {α:Type}(xs:List α) (i:Int) (x:α):List α:=(qab (α:=(List α)→Int→α→(List α)) fun xs i x=>xs.set i.toNat x).1 xs i x
theorem qbL {α:Type}(xs:List α) (i:Int) (x:α):qbh xs i x=(xs.set i.toNat x):=by unfold qbh;rw[(qab _).2]
noncomputable def qeT {α:Type}(xs ys:List α):List α:=(qab (α:=(List α)→(List α)→(List α)) fun xs ys=>xs++ys).1 xs ys
theorem qbi {α:Type}(xs ys:List α):qeT xs ys=(xs++ys):=by unfold qeT;rw[(qab _).2]
noncomputable def qbq {α:Type}(xs:List α) (lo hi:Int):List α:=(qab (α:=(List α)→Int→Int→(List α)) fun xs lo hi=>(xs.take hi.toNat).drop lo.toNat).1 xs lo hi
theorem qd3 {α:Type}(xs:List α) (lo hi:Int):qbq xs lo hi=((xs.take hi.toNat).drop lo.toNat):=by unfold qbq;rw[(qab _).2]
noncomputable def qmO {α:Type}(xs:List α) (i j:Int):List α:=(qab (α:=(List α)→Int→Int→(List α)) fun xs i j=>match xs[i.toNat]?,xs[j.toNat]? with|some x,some y=>(xs.set i.toNat y).set j.toNat x|_,_=>xs).1 xs i j
theorem qqA {α:Type}(xs:List α) (i j:Int):qmO xs i j=(match xs[i.toNat]?,xs[j.toNat]? with|some x,some y=>(xs.set i.toNat y).set j.toNat x|_,_=>xs):=by unfold qmO;rw[(qab _).2]
noncomputable def quH {α:Type}(n:Int) (x:α):List α:=(qab (α:=Int→α→(List α)) fun n x=>List.replicate n.toNat x).1 n x
theorem qjR {α:Type}(n:Int) (x:α):quH n x=(List.replicate n.toNat x):=by unfold quH;rw[(qab _).2]
noncomputable def qm7 (b:UInt8):Int:=(qab (α:=UInt8→Int) fun b=>(b.toNat:Int)).1 b
theorem qgP (b:UInt8):qm7 b=((b.toNat:Int)):=by unfold qm7;rw[(qab _).2]
noncomputable def ql3 (xs:List UInt8):List Int:=(qab (α:=(List UInt8)→(List Int)) fun xs=>xs.map qm7).1 xs
theorem qgR (xs:List UInt8):ql3 xs=(xs.map qm7):=by unfold ql3;rw[(qab _).2]
noncomputable def quu (xs:List Int):List UInt8:=(qab (α:=(List Int)→(List UInt8)) fun xs=>xs.map fun n=>UInt8.ofNat n.toNat).1 xs
theorem qmx (xs:List Int):quu xs=(xs.map fun n=>UInt8.ofNat n.toNat):=by unfold quu;rw[(qab _).2]
noncomputable def inB (i n:Int):Bool:=(qab (α:=Int→Int→Bool) fun i n=>decide (0≤i)&&decide (i<n)).1 i n
theorem qfR (i n:Int):inB i n=(decide (0≤i)&&decide (i<n)):=by unfold inB;rw[(qab _).2]
noncomputable def inS (lo hi n:Int):Bool:=(qab (α:=Int→Int→Int→Bool) fun lo hi n=>decide (0≤lo)&&(decide (lo≤hi)&&decide (hi≤n))).1 lo hi n
theorem qoo (lo hi n:Int):inS lo hi n=(decide (0≤lo)&&(decide (lo≤hi)&&decide (hi≤n))):=by unfold inS;rw[(qab _).2]
noncomputable def room (n:Int) (b:Nat):Bool:=(qab (α:=Int→Nat→Bool) fun n b=>decide (0≤n)&&decide (n*(b:Int)≤140737488355328)).1 n b
theorem qqZ (n:Int) (b:Nat):room n b=(decide (0≤n)&&decide (n*(b:Int)≤140737488355328)):=by unfold room;rw[(qab _).2]
noncomputable def qcm (n m:Int) (b:Nat):Bool:=(qab (α:=Int→Int→Nat→Bool) fun n m b=>decide ((n+m)*(b:Int)≤140737488355328)).1 n m b
theorem qhZ (n m:Int) (b:Nat):qcm n m b=(decide ((n+m)*(b:Int)≤140737488355328)):=by unfold qcm;rw[(qab _).2]
noncomputable def qx {α:Type}(x:Option α):Bool:=(qab (α:=(Option α)→Bool) fun x=>x.isSome).1 x
theorem qgL {α:Type}(x:Option α):qx x=(x.isSome):=by unfold qx;rw[(qab _).2]
noncomputable def qi {α:Type}(x:Option α) (d:α):α:=(qab (α:=(Option α)→α→α) fun x d=>x.getD d).1 x d
theorem qjz {α:Type}(x:Option α) (d:α):qi x d=(x.getD d):=by unfold qi;rw[(qab _).2]
noncomputable def qW {α β:Type}(x:α) (f:α→β):β:=(qab (α:=α→(α→β)→β) fun x f=>f x).1 x f
theorem qJ {α β:Type}(x:α) (f:α→β):qW x f=f x:=by unfold qW;rw[(qab _).2]
noncomputable def qhI {α β:Type}(f:α→β) (x:Option α):Option β:=(qab (α:=(α→β)→(Option α)→Option β) fun f x=>x.map f).1 f x
theorem qdR {α β:Type}(f:α→β) (x:Option α):qhI f x=(x.map f):=by unfold qhI;rw[(qab _).2]
noncomputable def qqy {α:Type}(x y:Option α):Option α:=(qab (α:=(Option α)→(Option α)→(Option α)) fun x y=>open Classical in if x=y then x else none).1 x y
open Classical in
theorem qh0 {α:Type}(x y:Option α):qqy x y=(if x=y then x else none):=by unfold qqy;rw[(qab _).2]
open Classical in
noncomputable def qfa {α β:Type}(xs:List (α×β)) (k:α):Nat:=xs.findIdx fun p=>decide (p.1=k)
def qro {α β:Type}(xs:List (α×β)) (i:Nat) (v:β):List (α×β):=match xs[i]? with
 |some p=>xs.set i (p.1,v)
 |none=>xs
noncomputable def qpH {α β:Type}(xs:List (α×β)) (k:α):Bool:=(qab (α:=List (α×β)→α→Bool) fun xs k=>decide (qfa xs k<xs.length)).1 xs k
theorem qf4 {α β:Type}(xs:List (α×β)) (k:α):qpH xs k=decide (qfa xs k<xs.length):=by unfold qpH;rw[(qab _).2]
noncomputable def qvA {α β:Type}(xs:List (α×β)) (k:α):List (α×β):=(qab (α:=List (α×β)→α→List (α×β)) fun xs k=>xs.eraseIdx (qfa xs k)).1 xs k
theorem qjy {α β:Type}(xs:List (α×β)) (k:α):qvA xs k=xs.eraseIdx (qfa xs k):=by unfold qvA;rw[(qab _).2]
noncomputable def qkQ {α β:Type}(xs:List (α×β)) (k:α) (d:β):β:=(qab (α:=List (α×β)→α→β→β) fun xs k d=>((xs[qfa xs k]?).map (·.2)).getD d).1 xs k d
theorem qf0 {α β:Type}(xs:List (α×β)) (k:α) (d:β):qkQ xs k d=((xs[qfa xs k]?).map (·.2)).getD d:=by unfold qkQ;rw[(qab _).2]
noncomputable def qnd {α β:Type}(xs:List (α×β)) (k:α) (v:β):List (α×β):=(qab (α:=List (α×β)→α→β→List (α×β)) fun xs k v=>if qfa xs k<xs.length then qro xs (qfa xs k) v else xs++[(k,v)]).1 xs k v
theorem qis {α β:Type}(xs:List (α×β)) (k:α) (v:β):qnd xs k v=if qfa xs k<xs.length then qro xs (qfa xs k) v else xs++[(k,v)]:=by unfold qnd;rw[(qab _).2]
noncomputable def qrI {α β:Type}(xs:List (α×β)):List (α×β):=(qab (α:=List (α×β)→List (α×β)) fun xs=> @Classical.epsilon _ ⟨[]⟩ fun ys=>ys.Perm xs).1 xs
theorem qvi {α β:Type}(xs:List (α×β)):qrI xs= @Classical.epsilon _ ⟨[]⟩ fun ys=>ys.Perm xs:=by unfold qrI;rw[(qab _).2]
theorem qoI {α β:Type}(xs:List (α×β)):(qrI xs).Perm xs:=by rw[qvi];exact @Classical.epsilon_spec _ (fun ys=>ys.Perm xs) ⟨xs,List.Perm.refl _⟩
def qaf {S R:Type}(n:Nat) (step:(S→Option R)→S→Option R):S→Option R:=
 match n with
 |0=>fun _=>none
 |n+1=>step (qaf n step)
noncomputable def mapG {E S R:Type}(step:(S→Option R)→E→List E→S→Option R) (fin:S→Option R):Nat→List E→S→Option R
 |0,_,s=>fin s
 |n+1,xs,s=>open Classical in if h:∃y,∀(j:Nat) (hj:j<xs.length),step (mapG step fin n (xs.eraseIdx j)) (xs[j]) (xs.eraseIdx j) s=some y then some h.choose else none
noncomputable def mapF {E S R:Type}(step:(S→Option R)→E→List E→S→Option R) (fin:S→Option R) (xs:List E) (s:S):Option R:=mapG step fin xs.length xs s
theorem quv {E S R:Type}(step:(S→Option R)→E→List E→S→Option R) (fin:S→Option R) (s:S):mapF step fin [] s=fin s:=rfl
theorem qtb {E S R:Type}{step:(S→Option R)→E→List E→S→Option R}{fin:S→Option R}{xs:List E}{s:S}{r:R}(h:mapF step fin xs s=some r) (hx:xs≠[]) (j:Nat) (hj:j<xs.length):step (mapF step fin (xs.eraseIdx j)) (xs[j]) (xs.eraseIdx j) s=some r:=by
 unfold mapF at h⊢
 obtain⟨n,hn⟩:∃n,xs.length=n+1:=⟨xs.length-1,by omega⟩;have he:(xs.eraseIdx j).length=n:=by rw[List.length_eraseIdx_of_lt hj,hn];rfl
 rw[he];rw[hn]at h;unfold mapG at h;split at h
 ·rename_i hy;injection h with h;rw[←h];exact hy.choose_spec j hj
 ·cases h
end Go.Vi
namespace Go.Vi
theorem qrl {α β:Type}: {xs:List (α×β)}→(xs.map (·.1)).Nodup→{p q:α×β}→p∈xs→q∈xs→p.1=q.1→p=q
 |[],_,_,_,h,_,_=>by cases h
 |a::r,hn,p,q,hp,hq,e=>by
  rw[zaZ,zax]at hn;rcases zam.1 hp with rfl|hp1<;>rcases zam.1 hq with rfl|hq1
  ·rfl
  ·exact absurd (by rw[e];exact zaR (f:=(·.1)) hq1) hn.1
  ·exact absurd (by rw[←e];exact zaR (f:=(·.1)) hp1) hn.1
  ·exact qrl hn.2 hp1 hq1 e
theorem qnN {α β:Type}{xs:List (α×β)}{k:α}:qfa xs k<xs.length↔∃p∈xs,p.1=k:=by
 unfold qfa;rw[List.findIdx_lt_length];simp
theorem qsq {α β:Type}{xs:List (α×β)}{k:α}(h:qfa xs k<xs.length):(xs[qfa xs k]'h).1=k:=by
 unfold qfa at h⊢
 have:=List.findIdx_getElem (w:=h);simpa using this
theorem qrh {α β:Type}{xs:List (α×β)}{k:α}:qpH xs k=true↔∃p∈xs,p.1=k:=by rw[qf4,decide_eq_true_eq,qnN]
theorem qtB {α β:Type}{xs ys:List (α×β)}(h:ys.Perm xs) (k:α):qpH ys k=qpH xs k:=by
 rw[Bool.eq_iff_iff,qrh,qrh];exact⟨fun ⟨p,h1,h2⟩=>⟨p,h.mem_iff.1 h1,h2⟩,fun ⟨p,h1,h2⟩=>⟨p,h.mem_iff.2 h1,h2⟩⟩
theorem qra {α β:Type}{xs:List (α×β)}(hn:(xs.map (·.1)).Nodup) {q:α×β}(hq:q∈xs) (d:β):qkQ xs q.1 d=q.2:=by
 have h:=qnN.2 ⟨q,hq,rfl⟩;rw[qf0,zaa h];have:=qrl hn (zau h) hq (qsq h);simp[this]
theorem qrb {α β:Type}{xs:List (α×β)}{k:α}(h:¬∃p∈xs,p.1=k) (d:β):qkQ xs k d=d:=by
 have h:¬qfa xs k<xs.length:=fun hh=>h (qnN.1 hh);rw[qf0,zaD (by omega)];rfl
theorem qst {α β:Type}{xs ys:List (α×β)}(h:ys.Perm xs) (hn:(xs.map (·.1)).Nodup) (k:α) (d:β):qkQ ys k d=qkQ xs k d:=by
 have hn':(ys.map (·.1)).Nodup:=(h.map _).nodup_iff.2 hn;by_cases hk:∃p∈xs,p.1=k
 ·obtain⟨p,h1,rfl⟩:=hk;rw[qra hn h1,qra hn' (h.mem_iff.2 h1)]
 ·rw[qrb hk,qrb fun ⟨p,h1,h2⟩=>hk ⟨p,h.mem_iff.1 h1,h2⟩]
theorem qpB {α β:Type}{xs:List (α×β)}(hn:(xs.map (·.1)).Nodup) (k:α) (v:β):((qnd xs k v).map (·.1)).Nodup:=by
 rw[qis];by_cases h:qfa xs k<xs.length
 ·rw[if_pos h];unfold qro;rw[zaa h];have e:(xs.set (qfa xs k) (xs[qfa xs k].1,v)).map (·.1)=xs.map (·.1):=by
   refine List.ext_getElem (by simp) fun i h1 h2=>?_;simp only[List.getElem_map,List.getElem_set];split
   ·rename_i e;simp[e]
   ·rfl
  simp only;rw[e];exact hn
 ·rw[if_neg h,za3,zah];refine⟨hn,by simp,fun a ha b hb e=>?_⟩;have hb:b=k:=by simpa using hb
  obtain⟨p,hp,e2⟩:=zaS.1 ha;exact h (qnN.2 ⟨p,hp,by rw[e2,e,hb]⟩)
theorem qtv {α β:Type}{xs:List (α×β)}(hn:(xs.map (·.1)).Nodup) (k:α):((qvA xs k).map (·.1)).Nodup:=by
 rw[qjy];exact hn.sublist ((List.eraseIdx_sublist _ _).map _)
theorem qkF {α:Type}:(xs:List α)→(j:Nat)→(hj:j<xs.length)→(xs[j]::xs.eraseIdx j).Perm xs
 |a::r,0,_=>by simp
 |a::r,j+1,hj=>by
  have:=qkF r j (by simpa using hj);simp only[List.getElem_cons_succ,List.eraseIdx_cons_succ];exact(List.Perm.swap _ _ _).trans (this.cons a)
theorem qvG {α:Type}{xs ys:List α}(h:ys.Perm xs) (j:Nat) (hj:j<ys.length):∃(i:Nat) (hi:i<xs.length),xs[i]=ys[j]∧(ys.eraseIdx j).Perm (xs.eraseIdx i):=by
 obtain⟨i,hi,e⟩:=zaw (h.mem_iff.1 (zau hj));refine⟨i,hi,e,?_⟩;have h1:=(qkF ys j hj).trans (h.trans (qkF xs i hi).symm);rw[e]at h1;exact List.Perm.cons_inv h1
end Go.Vi
namespace Go.Vi
noncomputable section
inductive Ty where
 |int (k:IntKind)
 |bool
 |str
 |unit
 |pair (a b:Ty)
 |slice (e:Ty)
 |arr (n:Nat) (e:Ty)
 |err
 |opt (e:Ty)
 |map (k v:Ty)
 deriving DecidableEq,Inhabited
@[reducible] def Ty.den:Ty→Type
 |.int _=>Int
 |.bool=>Bool
 |.str=>List UInt8
 |.unit=>Unit
 |.pair a b=>a.den×b.den
 |.slice e=>List e.den
 |.arr _ e=>List e.den
 |.err=>Bool
 |.opt e=>Option e.den
 |.map k v=>List (k.den×v.den)
def Ty.dflt:(t:Ty)→t.den
 |.int _=>(0:Int)
 |.bool=>false
 |.str=>([]:List UInt8)
 |.unit=>()
 |.pair a b=>(a.dflt,b.dflt)
 |.slice _=>[]
 |.arr n e=>List.replicate n e.dflt
 |.err=>true
 |.opt _=>none
 |.map _ _=>[]
def Ty.size:Ty→Nat
 |.unit=>0
 |.pair a b=>a.size+b.size
 |.arr n e=>n*e.size
 |_=>1
def Ty.agg:Ty→Bool
 |.unit=>true
 |.pair _ _=>true
 |.arr _ _=>true
 |_=>false
def Ty.flat:Ty→Bool
 |.pair a b=>a.flat&&b.flat
 |.slice _=>false
 |.opt _=>false
 |.map _ _=>false
 |.arr _ e=>e.flat
 |_=>true
def Ty.noArr:Ty→Bool
 |.pair a b=>a.noArr&&b.noArr
 |.arr _ _=>false
 |_=>true
def Ty.as {t:Ty}(u:Ty) (x:t.den):Option u.den:=if h:t=u then some (h▸x)else none
def Ty.whole {t:Ty}(u:Ty) (x:t.den) (off:Nat):Option u.den:=if off=0 then Ty.as u x else none
def Ty.sub:(t:Ty)→t.den→Nat→(u:Ty)→Option u.den
 |.pair a b,x,off,u=>match Ty.whole (t:= .pair a b) u x off with
  |some y=>some y
  |none=>if off<a.size then a.sub x.1 off u else b.sub x.2 (off-a.size) u
 |.arr n e,x,off,u=>match Ty.whole (t:= .arr n e) u x off with
  |some y=>some y
  |none=>if off<n*e.size then e.sub (qh x (Int.ofNat (off/e.size)) e.dflt) (off%e.size) u else none
 |.int k,x,off,u=>Ty.whole (t:= .int k) u x off
 |.bool,x,off,u=>Ty.whole (t:= .bool) u x off
 |.str,x,off,u=>Ty.whole (t:= .str) u x off
 |.unit,x,off,u=>Ty.whole (t:= .unit) u x off
 |.slice e,x,off,u=>Ty.whole (t:= .slice e) u x off
 |.err,x,off,u=>Ty.whole (t:= .err) u x off
 |.opt e,x,off,u=>Ty.whole (t:= .opt e) u x off
 |.map k v,x,off,u=>Ty.whole (t:= .map k v) u x off
def Ty.upd:(t:Ty)→t.den→Nat→(u:Ty)→u.den→Option t.den
 |.pair a b,x,off,u,y=>match Ty.whole (t:=u) (.pair a b) y off with
  |some z=>some z
  |none=>if off<a.size then(match a.upd x.1 off u y with
    |some z=>some (z,x.2)
    |none=>none)else(match b.upd x.2 (off-a.size) u y with
    |some z=>some (x.1,z)
    |none=>none)
 |.arr n e,x,off,u,y=>match Ty.whole (t:=u) (.arr n e) y off with
  |some z=>some z
  |none=>if off<n*e.size then(match e.upd (qh x (Int.ofNat (off/e.size)) e.dflt) (off%e.size) u y with
    |some z=>some (qbh x (Int.ofNat (off/e.size)) z)
    |none=>none)else none
 |.int k,_,off,u,y=>Ty.whole (t:=u) (.int k) y off
 |.bool,_,off,u,y=>Ty.whole (t:=u) .bool y off
 |.str,_,off,u,y=>Ty.whole (t:=u) .str y off
 |.unit,_,off,u,y=>Ty.whole (t:=u) .unit y off
 |.slice e,_,off,u,y=>Ty.whole (t:=u) (.slice e) y off
 |.err,_,off,u,y=>Ty.whole (t:=u) .err y off
 |.opt e,_,off,u,y=>Ty.whole (t:=u) (.opt e) y off
 |.map k v,_,off,u,y=>Ty.whole (t:=u) (.map k v) y off
def Ty.eqb:(t:Ty)→t.den→t.den→Bool
 |.int _,(x:Int),(y:Int)=>eqI x y
 |.bool,(x:Bool),(y:Bool)=>eqB x y
 |.str,(x:List UInt8),(y:List UInt8)=>eqS x y
 |.pair a .unit,x,y=>a.eqb x.1 y.1
 |.pair a b,x,y=>a.eqb x.1 y.1&&b.eqb x.2 y.2
 |_,_,_=>true
def Ty.comparable:Ty→Bool
 |.int _=>true
 |.bool=>true
 |.str=>true
 |.unit=>true
 |.pair a b=>a.comparable&&b.comparable
 |_=>false
inductive BC where
 |val (t:Ty) (x:t.den)
 |own (et:Nat) (e:Ty) (xs:List e.den)
 |pair (a b:BC)
 |hole (n:Nat)
def BC.size:BC→Nat
 |.val t _=>t.size
 |.own _ _ _=>1
 |.pair a b=>a.size+b.size
 |.hole n=>n
def BC.freeze:BC→BC
 |.own _ e xs=>.val (.slice e) xs
 |.pair a b=>.pair a.freeze b.freeze
 |c=>c
def BC.get:BC→Nat→(u:Ty)→Option (u.den×Bool)
 |.val t x,off,u=>(t.sub x off u).map fun y=>(y,false)
 |.own _ e xs,off,u=>if off=0 then(Ty.as (t:= .slice e) u xs).map fun y=>(y,true)else none
 |.pair a b,off,u=>
  match off,u with
  |0,.pair ua ub=>if a.size=ua.size then(match a.get 0 ua,b.get 0 ub with
    |some (x,f),some (y,g)=>some ((x,y),f||g)
    |_,_=>none)else a.get 0 (.pair ua ub)
  |off,u=>if off<a.size then a.get off u else b.get (off-a.size) u
 |.hole _,_,_=>none
def Ty.isPair:Ty→Bool
 |.pair _ _=>true
 |_=>false
def BC.isPair:BC→Bool
 |.pair _ _=>true
 |.val t _=>t.isPair
 |_=>false
def BC.putVal:(t:Ty)→t.den→Nat→BC→Option BC
 |.pair a b,x,off,new=>
  if off<a.size then(if off=0∧a.size=new.size∧a.isPair=new.isPair then some (.pair new (.val b x.2))else(BC.putVal a x.1 off new).map (fun z=>.pair z (.val b x.2)))
  else(if off=a.size∧b.size=new.size∧b.isPair=new.isPair then some (.pair (.val a x.1) new)else(BC.putVal b x.2 (off-a.size) new).map (fun z=>.pair (.val a x.1) z))
 |_,_,_,_=>none
def BC.put:BC→Nat→BC→Option BC
 |.val t x,off,new=>
  match new with
  |.val u y=>(t.upd x off u y).map (.val t)
  |new=>if off=0∧t.size=new.size∧t.isPair=new.isPair then some new else BC.putVal t x off new
 |.own _ _ _,off,new=>if off=0∧new.size=1 then some new else none
 |.pair a b,off,new=>
  if off=0∧a.size+b.size=new.size∧(b.size≠0∨new.isPair=true)then some new
  else if off<a.size then(a.put off new).map (fun z=>.pair z b)else(b.put (off-a.size) new).map (fun z=>.pair a z)
 |.hole n,off,new=>if off=0∧n=new.size then some new else none
def BC.row:BC→Nat→Option (Nat×((e:Ty)×List e.den))
 |.own et e xs,off=>if off=0 then some (et,⟨e,xs⟩)else none
 |.pair a b,off=>if off<a.size then a.row off else b.row (off-a.size)
 |_,_=>none
def BC.swap:BC→Nat→BC→Option BC
 |.own _ _ _,off,n=>if off=0 then some n else none
 |.pair a b,off,n=>if off<a.size then(a.swap off n).map (fun z=>.pair z b)else(b.swap (off-a.size) n).map (fun z=>.pair a z)
 |_,_,_=>none
abbrev Msk:=List (Nat×Nat)
def Msk.at (m:Msk) (off:Nat):Option Nat:=(m.find? (fun p=>p.1==off)).map (fun p=>p.2)
def Msk.hits (m:Msk) (lo hi:Nat):Bool:=m.any fun p=>decide (lo≤p.1)&&decide (p.1<hi)
def mskGo:Nat→Nat→Msk
 |0,_=>[]
 |k+1,n=>match Nat.beq n 0 with
  |true=>[]
  |false=>(n%256-1,n/256%65536)::mskGo k (n/16777216)
def etM (et:Nat):Msk:=mskGo 4 (et/65536)
def etB (et:Nat):Nat:=match etM et with
 |[]=>et
 |_=>et%65536
def qlX:List Nat→Nat→Nat
 |e::m::r,et=>if e=et then m else qlX r et
 |_,et=>et
def BC.remask (l:List Nat):BC→BC
 |.own et e xs=>match xs with
  |[]=>.own (qlX l et) e []
  |x::r=>.own et e (x::r)
 |.pair a b=>.pair (a.remask l) (b.remask l)
 |.val t x=>.val t x
 |.hole n=>.hole n
def BC.yl (t:Ty) (c:BC):Option t.den:=match c.get 0 t with
 |some (x,false)=>some x
 |_=>none
def BC.toM (m:Msk):(t:Ty)→Nat→BC→Option t.den
 |.pair a b,off,c=>match m.hits off (off+(a.size+b.size))with
  |true=>(match c with
   |.pair ca cb=>(match BC.toM m a off ca,BC.toM m b (off+a.size) cb with
    |some x,some y=>if ca.size=a.size then some (x,y)else none
    |_,_=>none)
   |_=>none)
  |false=>BC.yl (.pair a b) c
 |.slice e,off,c=>match m.at off with
  |some et=>(match c with
   |.own et' e' xs=>if et=et'∧etM et=[]then Ty.as (t:= .slice e') (.slice e) xs else none
   |_=>none)
  |none=>BC.yl (.slice e) c
 |.int k,_,c=>BC.yl (.int k) c
 |.bool,_,c=>BC.yl .bool c
 |.str,_,c=>BC.yl .str c
 |.unit,_,c=>BC.yl .unit c
 |.arr n e,_,c=>BC.yl (.arr n e) c
 |.err,_,c=>BC.yl .err c
 |.opt e,_,c=>BC.yl (.opt e) c
 |.map k v,_,c=>BC.yl (.map k v) c
def qp9 (k:Nat×Nat) (off:Nat):Bool:=decide (k.1≤off)&&decide (off<k.2)
def bcM (m:Msk) (k0:Nat×Nat):(t:Ty)→t.den→Nat→BC
 |.pair a b,x,off=>if m.hits off (off+(a.size+b.size))then .pair (bcM m k0 a x.1 off) (bcM m k0 b x.2 (off+a.size))else .val (.pair a b) x
 |.slice e,xs,off=>match m.at off with
  |some et=>if qp9 k0 off then .hole 1 else .own et e xs
  |none=>.val (.slice e) xs
 |.int k,x,_=>.val (.int k) x
 |.bool,x,_=>.val .bool x
 |.str,x,_=>.val .str x
 |.unit,x,_=>.val .unit x
 |.arr n e,x,_=>.val (.arr n e) x
 |.err,x,_=>.val .err x
 |.opt e,x,_=>.val (.opt e) x
 |.map k v,x,_=>.val (.map k v) x
inductive qcv where
 |val (t:Ty)
 |own (et:Nat) (e:Ty)
 |pair (a b:qcv)
 |hole (n:Nat)
 deriving DecidableEq
@[reducible] def qcv.den:qcv→Type
 |.val t=>t.den
 |.own _ e=>List e.den
 |.pair a b=>a.den×b.den
 |.hole _=>Unit
def qcv.un:(b:qcv)→b.den→BC
 |.val t,x=>.val t x
 |.own et e,xs=>.own et e xs
 |.pair a b,x=>.pair (a.un x.1) (b.un x.2)
 |.hole n,_=>.hole n
def qcv.dflt:(b:qcv)→b.den
 |.val t=>t.dflt
 |.own _ _=>[]
 |.pair a b=>(a.dflt,b.dflt)
 |.hole _=>()
def qcv.flat:qcv→Bool
 |.val t=>t.flat
 |.own _ e=>e.flat
 |.pair a b=>a.flat&&b.flat
 |.hole _=>true
def BC.fit:(b:qcv)→BC→Option b.den
 |.val t,c=>if c.size=t.size then(match c.get 0 t with
  |some r=>some r.1
  |none=>none)else none
 |.own et e,c=>match c with
  |.own et' e' xs=>if et=et' then Ty.as (t:= .slice e') (.slice e) xs else none
  |_=>none
 |.pair a b,c=>match c with
  |.pair c d=>(match BC.fit a c,BC.fit b d with
   |some x,some y=>some (x,y)
   |_,_=>none)
  |.val (.pair ta tb) x=>(match BC.fit a (.val ta x.1),BC.fit b (.val tb x.2)with
   |some x,some y=>some (x,y)
   |_,_=>none)
  |_=>none
 |.hole _,_=>none
@[reducible] def denL:List Ty→Type
 |[]=>Unit
 |t::r=>t.den×denL r
inductive qoH where
 |val (t:Ty) (x:t.den)
 |own (et:Nat) (e:Ty) (xs:List e.den)
 |gone
 |nz (e:Ty) (xs:List e.den)
 |agg (c:BC)
inductive AV where
 |undef
 |val (t:Ty) (x:t.den)
 |own (et:Nat) (e:Ty) (xs:List e.den)
 |agg (c:BC)
 |box (c:BC)
 |ref (s v:Nat)
 |bref (s v off:Nat) (u:Ty)
 |pbox (s v off:Nat)
 |pip (k off:Nat)
 |prow (s v:Nat) (fo:Option Nat) (sz:Nat) (i:Int) (off:Nat)
 |osl (s v:Nat) (fo:Option Nat) (sz:Nat) (lo hi:Int)
 |view (t:Ty) (x:t.den) (off:Nat)
 |tup (cs:List qoH)
 |grd (s v:Nat) (want:Bool) (a:AV)
 |fn (f:Nat) (caps:List qoH)
 |fnv (ps rs:List Ty) (φ:denL ps→Option (denL rs))
 |amb (w m:Bool)
 |parr (s:Nat) (v:Option Nat) (off n:Nat) (e:Ty) (i:Int) (o2:Nat)
 |nilr (et:Nat) (e:Ty)
 |nz (e:Ty) (xs:List e.den)
 |mp (k v:Ty) (xs:List (k.den×v.den))
 |itr (k v:Ty) (rem:List (k.den×v.den)) (cur:Option (k.den×v.den))
 |hol (a:AV) (fo:Option Nat) (i:Int) (o1:Nat) (t v:Nat)
 |bhl (c:BC) (o:Nat) (t v:Nat)
 |lsw (et:Nat) (e:Ty) (xs:List e.den) (φ:Option (List e.den→Int→Int→Option Bool))
 |lsv (et:Nat) (e:Ty) (k:Nat) (φ:List e.den→Int→Int→Option Bool)
 |lsz (et:Nat) (e:Ty) (k:Nat) (φ:List e.den→Int→Int→Option Bool)
def AV.rowAt (fo:Option Nat):AV→Option (Nat×((e:Ty)×List e.den))
 |.own et e xs=>match fo with
  |none=>some (et,⟨e,xs⟩)
  |some _=>none
 |.box c=>match fo with
  |some o=>c.row o
  |none=>none
 |_=>none
def AV.swapRow (n:BC) (fo:Option Nat):AV→Option AV
 |.own _ _ _=>match fo,n with
  |none,.own et e xs=>some (.own et e xs)
  |none,.hole _=>some .undef
  |_,_=>none
 |.box c=>match fo with
  |some o=>(c.swap o n).map .box
  |none=>none
 |_=>none
abbrev Ent:=Nat×AV
abbrev St:=List Ent
inductive Q (α:Type) where
 |ret (a:α)
 |fail
 |get (s:Nat) (k:Ent→Q α)
def Q.bind {α β:Type}:Q α→(α→Q β)→Q β
 |.ret a,f=>f a
 |.fail,_=>.fail
 |.get s k,f=>.get s fun e=>(k e).bind f
instance:Monad Q where
 pure:=Q.ret
 bind:=Q.bind
def Q.opt {α:Type}:Option α→Q α
 |some a=>.ret a
 |none=>.fail
def Q.run {α:Type}(lk:Nat→Ent):Q α→Option α
 |.ret a=>some a
 |.fail=>none
 |.get s k=>(k (lk s)).run lk
def Q.log {α:Type}(lk:Nat→Ent):Q α→List Nat
 |.ret _=>[]
 |.fail=>[]
 |.get s k=>s::(k (lk s)).log lk
inductive PM where
 |val (t:Ty)
 |own (et:Nat) (e:Ty)
 |io (t:Ty)
 |fn (ps rs:List Ty)
 |nil (et:Nat) (e:Ty)
 |rd (t:Ty)
 |ior (et:Nat) (e:Ty)
 |iob (b:qcv)
 |lsw (et:Nat) (e:Ty)
 deriving DecidableEq
@[reducible] def PM.den:PM→Type
 |.val t=>t.den
 |.own _ e=>List e.den
 |.io t=>t.den
 |.fn ps rs=>denL ps→Option (denL rs)
 |.nil _ _=>Unit
 |.rd t=>t.den
 |.ior _ e=>List e.den
 |.iob b=>b.den
 |.lsw _ e=>List e.den×(List e.den→Int→Int→Option Bool)
@[reducible] def PMs.den:List PM→Type
 |[]=>Unit
 |p::r=>p.den×PMs.den r
@[reducible] def PMs.ioDen:List PM→Type
 |[]=>Unit
 |.io t::r=>t.den×PMs.ioDen r
 |.ior _ e::r=>List e.den×PMs.ioDen r
 |.iob b::r=>b.den×PMs.ioDen r
 |.lsw _ e::r=>List e.den×PMs.ioDen r
 |_::r=>PMs.ioDen r
inductive RM where
 |val (t:Ty)
 |own (et:Nat) (e:Ty)
 |nz (e:Ty)
 |agg (b:qcv)
 deriving DecidableEq
@[reducible] def RM.den:RM→Type
 |.val t=>t.den
 |.own _ e=>List e.den
 |.nz e=>List e.den
 |.agg b=>b.den
@[reducible] def RMs.den:List RM→Type
 |[]=>Unit
 |r::rs=>r.den×RMs.den rs
def RM.dflt:(r:RM)→r.den
 |.val t=>t.dflt
 |.own _ _=>[]
 |.nz _=>[]
 |.agg b=>b.dflt
def RMs.dflt:(rs:List RM)→RMs.den rs
 |[]=>()
 |r::rs=>(r.dflt,RMs.dflt rs)
def PMs.yk:(ps:List PM)→PMs.ioDen ps
 |[]=>()
 |.io t::r=>(t.dflt,PMs.yk r)
 |.val _::r=>PMs.yk r
 |.own _ _::r=>PMs.yk r
 |.fn _ _::r=>PMs.yk r
 |.nil _ _::r=>PMs.yk r
 |.rd _::r=>PMs.yk r
 |.ior _ _::r=>([],PMs.yk r)
 |.iob b::r=>(b.dflt,PMs.yk r)
 |.lsw _ _::r=>([],PMs.yk r)
structure qr where
 ps:List PM
 rs:List RM
 sem:PMs.den ps→Option (RMs.den rs×PMs.ioDen ps)
abbrev qpF:=Nat→Option ((t:Ty)×t.den)
structure Env where
 ty:Nat→Option Ty
 etid:Nat→Nat
 off:Nat→Nat→Option Nat
 fty:Nat→Nat→Nat
 zero:Nat→Option BC
 bytes:Nat→Nat
 eqok:Nat→Bool
 fn:Nat→Option qr
 pins:List Nat
 ownz:Bool
 tabs:qpF
 rf:List Nat
 nzr:Bool:=false
 msk:List Nat:=[]
 tk:List Nat:=[]
 lst:Option (Nat×Nat×Nat):=none
end
end Go.Vi
namespace Go.Vi
noncomputable section
def qt (σ:St) (s:Nat):Ent:=σ.getD s (0,.undef)
abbrev qg3:=List (Nat×Nat×Bool×Bool)
def lit (w b:Bool):Bool:=match w with
 |true=>b
 |false=> !b
def qmR:qg3→Bool
 |[]=>true
 |[(_,_,w,b)]=>lit w b
 |(_,_,w,b)::r=>lit w b&&qmR r
def qeg:Nat→Nat→Bool→Q qg3
 |0,_,_=>.fail
 |n+1,s,want=>.get s fun e=>match e.2 with
  |.val .bool b=>.ret [(s,e.1,want,b)]
  |.grd s2 v2 w2 (.val .bool b)=>(qeg n s2 w2).bind fun r=>match r with
   |(s3,v3,w3,b3)::r'=>if v3=v2 then .ret ((s,e.1,want,b)::(s3,v3,w3,b3)::r')else .fail
   |[]=>.fail
  |_=>.fail
def qoJ (s v:Nat) (w:Bool):qg3→Bool
 |[]=>false
 |(s',v',w',_)::r=>(s==s'&&v==v'&&w==w')||qoJ s v w r
def qbk (p:qg3):AV→AV
 |.grd s v w a=>if qoJ s v w p then qbk p a else .undef
 |a=>a
def qqc (c:Operand) (v:Nat) (w b:Bool) (p:qg3):qg3:=match c with
 |.tmp t=>(t,v,w,b)::p
 |_=>p
structure Op1 where
 s:Option Nat
 v:Nat
 a:AV
def Ty.dec:(t:Ty)→List Value→Option (t.den×List Value)
 |.int k,cs=>match cs with
  |.int k' n::r=>if k=k'∧k.min≤n∧n≤k.max then some (n,r)else none
  |_=>none
 |.bool,cs=>match cs with
  |.bool b::r=>some (b,r)
  |_=>none
 |.str,cs=>match cs with
  |.string s::r=>if s.data.toList.length≤1048576 then some (s.data.toList,r)else none
  |_=>none
 |.unit,r=>some ((),r)
 |.pair a b,cs=>match a.dec cs with
  |some (x,r)=>match b.dec r with
   |some (y,r')=>some ((x,y),r')
   |none=>none
  |none=>none
 |.slice _,cs=>match cs with
  |.slice none 0 0::r=>some ([],r)
  |_=>none
 |.arr _ _,_=>none
 |.err,cs=>match cs with
  |.nilIface::r=>some (true,r)
  |_=>none
 |.opt _,cs=>match cs with
  |.pointer none::r=>some (none,r)
  |_=>none
 |.map _ _,_=>none
def qmz (E:Env) (tid:Nat) (c:Value):Option AV:=
 match c with
 |.int k n=>if k.min≤n∧n≤k.max then some (.val (.int k) n)else none
 |.bool b=>some (.val .bool b)
 |.string s=>if s.data.toList.length≤1048576 then some (.val .str s.data.toList)else none
 |.slice none 0 0=>match E.ty tid with
  |some (.slice e)=>(match E.nzr with
   |true=>some (.nilr (E.etid tid) e)
   |false=>some (.own (qlX E.msk (E.etid tid)) e []))
  |_=>none
 |.nilIface=>match E.ty tid with
  |some .err=>some (.val .err true)
  |_=>none
 |.pointer none=>match E.ty tid with
  |some (.opt e)=>some (.val (.opt e) none)
  |_=>none
 |.map none=>match E.ty tid with
  |some (.map k t)=>some (.val (.map k t) [])
  |_=>none
 |.agg cs=>match E.ty tid with
  |some t=>if t.agg then(match t.dec cs.toList with
   |some (x,[])=>some (.val t x)
   |_=>none)else none
  |none=>none
 |_=>none
def opd (E:Env) (p:qg3) (tid:Nat):Operand→Q Op1
 |.tmp t=>.get t fun e=>.ret ⟨some t,e.1,qbk p e.2⟩
 |.const c=>match qmz E tid c with
  |some a=>.ret ⟨none,0,a⟩
  |none=>.fail
 |.func f=>.ret ⟨none,0,.fn f []⟩
 |.global g=>match E.tabs g with
  |some r=>.ret ⟨none,0,.view r.1 r.2 0⟩
  |none=>.fail
structure VR where
 t:Ty
 x:t.den
 ow:List Nat
def qmM (o:Op1):Q VR:=
 match o.a with
 |.val t x=>.ret ⟨t,x,[]⟩
 |.own _ e xs=>.ret ⟨.slice e,xs,o.s.toList⟩
 |.nilr _ e=>.ret ⟨.slice e,[],[]⟩
 |.nz e xs=>.ret ⟨.slice e,xs,[]⟩
 |.mp k v xs=>.ret ⟨.map k v,qrI xs,o.s.toList⟩
 |.ref s v=>.get s fun e=>if e.1=v then(match e.2 with
  |.own _ e xs=>.ret ⟨.slice e,xs,[s]⟩
  |.mp k t xs=>.ret ⟨.map k t,qrI xs,[s]⟩
  |.val t x=>.ret ⟨t,x,[]⟩
  |_=>.fail)else .fail
 |.bref s v off u=>.get s fun e=>if e.1=v then(match e.2 with
  |.box c=>match c.get off u with
   |some (x,f)=>.ret ⟨u,x,if f then[s]else[]⟩
   |none=>.fail
  |_=>.fail)else .fail
 |.osl _ _ _ _ _ _=>.fail
 |_=>.fail
def toVal (u:Ty) (o:Op1):Q (u.den×List Nat):=
 match o.a with
 |.agg c=>if c.size=u.size∧u.agg=true then(match c.get 0 u with
  |some (x,f)=>.ret (x,if f then o.s.toList else[])
  |none=>.fail)else .fail
 |.view t x off=>(match u with
  |.opt e=>if off=0 then(match Ty.as (t:=t) e x with
   |some y=>.ret (some y,[])
   |none=>.fail)else .fail
  |_=>.fail)
 |_=>(qmM o).bind fun r=>match Ty.as u r.x with
  |some x=>.ret (x,r.ow)
  |none=>.fail
def qiL (o:Op1):Q (IntKind×Int):=
 (qmM o).bind fun r=>match r with
  |⟨.int k,n,_⟩=>.ret (k,n)
  |_=>.fail
def qoH.freeze:qoH→qoH
 |.own _ e xs=>.val (.slice e) xs
 |.agg c=>.agg c.freeze
 |c=>c
def AV.freeze:AV→AV
 |.own _ e xs=>.val (.slice e) xs
 |.box c=>.box c.freeze
 |.agg c=>.agg c.freeze
 |.mp k v xs=>.val (.map k v) (qrI xs)
 |.itr _ _ _ _=>.undef
 |.hol _ _ _ _ _ _=>.undef
 |.bhl _ _ _ _=>.undef
 |.lsw _ _ _ _=>.undef
 |.tup cs=>.tup (cs.map qoH.freeze)
 |a=>a
def AV.unowned:AV→Bool
 |.own _ _ _=>false
 |.agg _=>false
 |.box _=>false
 |.tup _=>false
 |.mp _ _ _=>false
 |.itr _ _ _ _=>false
 |.hol _ _ _ _ _ _=>false
 |.bhl _ _ _ _=>false
 |.lsw _ _ _ _=>false
 |_=>true
def AV.mentions:AV→List (Nat×Nat)
 |.ref s v=>[(s,v)]
 |.bref s v _ _=>[(s,v)]
 |.pbox s v _=>[(s,v)]
 |.prow s v _ _ _ _=>[(s,v)]
 |.osl s v _ _ _ _=>[(s,v)]
 |.parr s (some v) _ _ _ _ _=>[(s,v)]
 |.grd s v _ a=>(s,v)::a.mentions
 |.hol _ _ _ _ t v=>[(t,v)]
 |.bhl _ _ t v=>[(t,v)]
 |_=>[]
def AV.isUndef:AV→Bool
 |.undef=>true
 |_=>false
structure U where
 s:Nat
 bump:Bool
 a:AV
structure Eff where
 upd:List U
 chk:List Bool
def qcb:List Nat→Q (List U)
 |[]=>.ret []
 |s::r=>.get s fun e=>(qcb r).bind fun us=>.ret (⟨s,false,e.2.freeze⟩::us)
def qbp (o:Oper) (a:AV):List U:=match o.dst with
 |some d=>[⟨d,true,a⟩]
 |none=>[]
def okE (us:List U):Q Eff:= .ret ⟨us,[]⟩
def qp7 (op:BinOp) (k:IntKind) (x y:Int):AV×List Bool:=
 match op with
 |.add=>(.val (.int k) (qQ k x y),[])
 |.sub=>(.val (.int k) (qR k x y),[])
 |.mul=>(.val (.int k) (qj4 k x y),[])
 |.quo=>(.val (.int k) (qpI k x y),[neI y 0])
 |.rem=>(.val (.int k) (irem x y),[neI y 0])
 |.and=>(.val (.int k) (qvo k x y),[])
 |.or=>(.val (.int k) (bor k x y),[])
 |.xor=>(.val (.int k) (qiw k x y),[])
 |.andNot=>(.val (.int k) (qoA k x y),[])
 |.eql=>(.val .bool (eqI x y),[])
 |.neq=>(.val .bool (neI x y),[])
 |.lss=>(.val .bool (ltI x y),[])
 |.leq=>(.val .bool (leI x y),[])
 |.gtr=>(.val .bool (ltI y x),[])
 |.geq=>(.val .bool (leI y x),[])
 |.shl=>(.val (.int k) (qkK k x y),[leI 0 y])
 |.shr=>(.val (.int k) (qgY k x y),[leI 0 y])
def qvD (op:BinOp) (x y:List UInt8):Option (AV×List Bool):=
 match op with
 |.add=>some (.val .str (qeT x y),[qcm (qs x) (qs y) 1])
 |.eql=>some (.val .bool (eqS x y),[])
 |.neq=>some (.val .bool (!(eqS x y)),[])
 |.lss=>some (.val .bool (qpj x y),[])
 |.leq=>some (.val .bool (qpj x y||eqS x y),[])
 |.gtr=>some (.val .bool (!(qpj x y||eqS x y)),[])
 |.geq=>some (.val .bool (!(qpj x y)),[])
 |_=>none
def qlW:BinOp→Bool
 |.shl=>true
 |.shr=>true
 |_=>false
def binE (E:Env) (op:BinOp) (tid:Nat) (x y:VR):Option (AV×List Bool):=
 match x,y with
 |⟨.int k,a,_⟩,⟨.int k',b,_⟩=>if qlW op||k=k' then some (qp7 op k a b)else none
 |⟨.str,a,_⟩,⟨.str,b,_⟩=>qvD op a b
 |⟨.bool,a,_⟩,⟨.bool,b,_⟩=>if E.ty tid=some .bool then(match op with
  |.eql=>some (.val .bool (eqB a b),[])
  |.neq=>some (.val .bool (!(eqB a b)),[])
  |_=>none)else none
 |⟨t,a,_⟩,⟨u,b,_⟩=>if t.agg=true∧E.eqok tid=true∧E.ty tid=some t then(match Ty.as (t:=u) t b with
  |some b=>(match op with
   |.eql=>some (.val .bool (t.eqb a b),[])
   |.neq=>some (.val .bool (!(t.eqb a b)),[])
   |_=>none)
  |none=>none)else none
def unE (op:UnOp) (x:VR):Option AV:=
 match op,x with
 |.neg,⟨.int k,n,_⟩=>some (.val (.int k) (ineg k n))
 |.not,⟨.bool,b,_⟩=>some (.val .bool (!b))
 |.xor,⟨.int k,n,_⟩=>some (.val (.int k) (qiw k (if k.signed then -1 else k.max) n))
 |_,_=>none
def qiS:List Nat→Bool
 |[]=>true
 |a::r=> !r.contains a&&qiS r
structure qsk (ps:List PM) where
 x:PMs.den ps
 ow:List Nat
 gone:List Nat
 ios:List Nat
@[reducible] def valPs:List Ty→List PM
 |[]=>[]
 |t::r=>.val t::valPs r
@[reducible] def valRs:List Ty→List RM
 |[]=>[]
 |t::r=>.val t::valRs r
def toPs:(ts:List Ty)→denL ts→PMs.den (valPs ts)
 |[],_=>()
 |_::r,x=>(x.1,toPs r x.2)
def qwc:(ts:List Ty)→RMs.den (valRs ts)→denL ts
 |[],_=>()
 |_::r,x=>(x.1,qwc r x.2)
def quV:(ts:List Ty)→denL ts→RMs.den (valRs ts)
 |[],_=>()
 |_::r,x=>(x.1,quV r x.2)
def qvI:(ts:List Ty)→PMs.den (valPs ts)→denL ts
 |[],_=>()
 |_::r,x=>(x.1,qvI r x.2)
def denL.dflt:(ts:List Ty)→denL ts
 |[]=>()
 |t::r=>(t.dflt,denL.dflt r)
def fnOf (E:Env) (ts us:List Ty):AV→Option (denL ts→Option (denL us))
 |.fnv ts' us' φ=>if h:ts'=ts∧us'=us then some (h.1▸h.2▸φ)else none
 |.fn f []=>(match E.fn f with
  |some C=>if h:C.ps=valPs ts∧C.rs=valRs us then some (fun x=>qhI (fun y=>qwc us (h.2▸y.1)) (C.sem (h.1▸toPs ts x)))else none
  |none=>none)
 |_=>none
def apart (a b:List Nat):Bool:=a.all fun x=> !b.contains x
@[reducible] def rdPs:List Ty→List PM
 |[]=>[]
 |t::r=>.rd t::rdPs r
def toRd:(us:List Ty)→denL us→PMs.den (rdPs us)
 |[],_=>()
 |_::r,y=>(y.1,toRd r y.2)
def qpP:(ts us:List Ty)→denL ts→denL us→PMs.den (valPs ts++rdPs us)
 |[],us,_,y=>toRd us y
 |_::r,us,x,y=>(x.1,qpP r us x.2 y)
def qqj:List PM→Option (List Ty×List Ty)
 |[]=>some ([],[])
 |.val t::r=>(match qqj r with
  |some q=>some (t::q.1,q.2)
  |none=>none)
 |.rd t::r=>(match qqj r with
  |some q=>some (q.1,t::q.2)
  |none=>none)
 |_=>none
def qte:List RM→Option (List Ty)
 |[]=>some []
 |.val t::r=>(match qte r with
  |some q=>some (t::q)
  |none=>none)
 |_=>none
def qg2:List Operand→List Nat
 |[]=>[]
 |.tmp s::r=>s::qg2 r
 |_::r=>qg2 r
def qq6:(us:List Ty)→List Operand→Q (denL us×List U)
 |[],[]=>.ret ((),[])
 |u::us,.tmp s::r=>.get s fun e=>(qq6 us r).bind fun q=>match e.2 with
  |.box c=>if c.size=u.size then(match c.get 0 u with
   |some (x,_)=>.ret ((x,q.1),⟨s,true,.view u x 0⟩::q.2)
   |none=>.fail)else .fail
  |.view t y off=>(match t.sub y off u with
   |some x=>.ret ((x,q.1),q.2)
   |none=>.fail)
  |_=>.fail
 |_,_=>.fail
def cloE (E:Env) (o:Oper) (f:Nat) (caps:List Operand):Q Eff:=
 match E.fn f with
 |some C=>(match qqj C.ps,qte C.rs with
  |some (ts,us),some vs=>if h:C.ps=valPs ts++rdPs us∧C.rs=valRs vs then(qq6 us caps).bind fun q=>
    if qiS (qg2 caps)&&apart o.dst.toList (qg2 caps)then .ret ⟨q.2++qbp o (.fnv ts vs (fun x=>qhI (fun y=>qwc vs (h.2▸y.1)) (C.sem (h.1▸qpP ts us x q.1)))),[]⟩else .fail
   else .fail
  |_,_=>.fail)
 |none=>.fail
def qaF (E:Env):(ps:List PM)→List Op1→Q (qsk ps)
 |[],[]=>.ret ⟨(),[],[],[]⟩
 |.val t::ps,o::os=>(toVal t o).bind fun x=>(qaF E ps os).bind fun r=>.ret ⟨(x.1,r.x),x.2++r.ow,r.gone,r.ios⟩
 |.own et e::ps,o::os=>
  match o.s,o.a with
  |some s,.own et' e' xs=>if et=et' then(match Ty.as (t:= .slice e') (.slice e) xs with
   |some xs=>(qaF E ps os).bind fun r=>.ret ⟨(xs,r.x),r.ow,s::r.gone,r.ios⟩
   |none=>.fail)else .fail
  |none,.own et' e' xs=>if et=et' then(match Ty.as (t:= .slice e') (.slice e) xs with
   |some xs=>(qaF E ps os).bind fun r=>.ret ⟨(xs,r.x),r.ow,r.gone,r.ios⟩
   |none=>.fail)else .fail
  |_,.ref s v=>.get s fun en=>if en.1=v then(match en.2 with
   |.own et' e' xs=>if et=et' then(match Ty.as (t:= .slice e') (.slice e) xs with
    |some xs=>(qaF E ps os).bind fun r=>.ret ⟨(xs,r.x),r.ow,s::r.gone,r.ios⟩
    |none=>.fail)else .fail
   |_=>.fail)else .fail
  |_,_=>.fail
 |.ior et e::ps,o::os=>
  match o.s,o.a with
  |some s,.own et' e' xs=>if et=et'∧etM et=[]then(match Ty.as (t:= .slice e') (.slice e) xs with
   |some xs=>(qaF E ps os).bind fun r=>.ret ⟨(xs,r.x),r.ow,r.gone,s::r.ios⟩
   |none=>.fail)else .fail
  |_,.ref s v=>.get s fun en=>if en.1=v then(match en.2 with
   |.own et' e' xs=>if et=et'∧etM et=[]then(match Ty.as (t:= .slice e') (.slice e) xs with
    |some xs=>(qaF E ps os).bind fun r=>.ret ⟨(xs,r.x),r.ow,r.gone,s::r.ios⟩
    |none=>.fail)else .fail
   |_=>.fail)else .fail
  |_,_=>.fail
 |.io t::ps,o::os=>
  match o.s,o.a with
  |some s,.box c=>(match(if c.size=t.size then c.get 0 t else none)with
   |some (x,_)=>(qaF E ps os).bind fun r=>.ret ⟨(x,r.x),r.ow,r.gone,s::r.ios⟩
   |none=>.fail)
  |_,.pip s 0=>.get s fun en=>(match en.2 with
   |.box c=>(match(if c.size=t.size then c.get 0 t else none)with
    |some (x,_)=>(qaF E ps os).bind fun r=>.ret ⟨(x,r.x),r.ow,r.gone,s::r.ios⟩
    |none=>.fail)
   |_=>.fail)
  |_,.pbox s v 0=>.get s fun en=>if en.1=v then(match en.2 with
   |.box c=>(match(if c.size=t.size then c.get 0 t else none)with
    |some (x,_)=>(qaF E ps os).bind fun r=>.ret ⟨(x,r.x),r.ow,r.gone,s::r.ios⟩
    |none=>.fail)
   |_=>.fail)else .fail
  |_,_=>.fail
 |.iob b::ps,o::os=>
  match o.s,o.a with
  |some s,.box c=>(match c.fit b with
   |some x=>(qaF E ps os).bind fun r=>.ret ⟨(x,r.x),r.ow,r.gone,s::r.ios⟩
   |none=>.fail)
  |_,.pip s 0=>.get s fun en=>(match en.2 with
   |.box c=>(match c.fit b with
    |some x=>(qaF E ps os).bind fun r=>.ret ⟨(x,r.x),r.ow,r.gone,s::r.ios⟩
    |none=>.fail)
   |_=>.fail)
  |_,.pbox s v 0=>.get s fun en=>if en.1=v then(match en.2 with
   |.box c=>(match c.fit b with
    |some x=>(qaF E ps os).bind fun r=>.ret ⟨(x,r.x),r.ow,r.gone,s::r.ios⟩
    |none=>.fail)
   |_=>.fail)else .fail
  |_,_=>.fail
 |.nil et e::ps,o::os=>(match o.s,o.a with
  |_,.nilr et' e'=>if et'=et∧e'=e then(qaF E ps os).bind fun r=>.ret ⟨((),r.x),r.ow,r.gone,r.ios⟩else .fail
  |none,.own et' e' []=>if et'=et∧e'=e then(qaF E ps os).bind fun r=>.ret ⟨((),r.x),r.ow,r.gone,r.ios⟩else .fail
  |_,_=>.fail)
 |.rd t::ps,o::os=>(match o.a with
  |.view t' y off=>(match t'.sub y off t with
   |some x=>(qaF E ps os).bind fun r=>.ret ⟨(x,r.x),r.ow,r.gone,r.ios⟩
   |none=>.fail)
  |_=>.fail)
 |.lsw et e::ps,o::os=>(match o.a with
  |.lsv et1 e1 0 φ=>.get 0 fun en=>(match en.2 with
   |.lsw et2 e2 xs _=>if h:et1=et∧et2=et∧e1=e∧e2=e then(qaF E ps os).bind fun r=>.ret ⟨((h.2.2.2▸xs,h.2.2.1▸φ),r.x),r.ow,r.gone,0::r.ios⟩else .fail
   |_=>.fail)
  |_=>.fail)
 |.fn ts us::ps,o::os=>(match fnOf E ts us o.a with
  |some φ=>(qaF E ps os).bind fun r=>.ret ⟨(φ,r.x),r.ow,r.gone,r.ios⟩
  |none=>.fail)
 |_,_=>.fail
def qdd:(rs:List RM)→RMs.den rs→List qoH
 |[],_=>[]
 |.val t::rs,y=>.val t y.1::qdd rs y.2
 |.own et e::rs,y=>.own et e y.1::qdd rs y.2
 |.nz e::rs,y=>.nz e y.1::qdd rs y.2
 |.agg b::rs,y=>.agg (b.un y.1)::qdd rs y.2
def qiQ (rs:List RM) (y:RMs.den rs):AV:=match rs,y with
 |[.val t],y=>.val t y.1
 |[.own et e],y=>.own et e y.1
 |[.nz e],y=>.nz e y.1
 |[.agg b],y=>.agg (b.un y.1)
 |rs,y=>.tup (qdd rs y)
def RMs.flat:List RM→Bool
 |[]=>true
 |.val t::r=>t.flat&&RMs.flat r
 |.own _ e::r=>e.flat&&RMs.flat r
 |.nz _::_=>false
 |.agg b::r=>b.flat&&RMs.flat r
def PMs.yg:List PM→Bool
 |[]=>true
 |.io t::r=>t.flat&&PMs.yg r
 |.ior _ e::r=>e.flat&&PMs.yg r
 |.iob b::r=>b.flat&&PMs.yg r
 |.lsw _ e::r=>e.flat&&PMs.yg r
 |_::r=>PMs.yg r
def qeB:(ps:List PM)→PMs.ioDen ps→List Nat→List U
 |.io t::ps,y,s::ss=>⟨s,true,.box (.val t y.1)⟩::qeB ps y.2 ss
 |.ior et e::ps,y,s::ss=>⟨s,false,.own et e y.1⟩::qeB ps y.2 ss
 |.iob b::ps,y,s::ss=>⟨s,true,.box (b.un y.1)⟩::qeB ps y.2 ss
 |.lsw et e::ps,y,s::ss=>⟨s,false,.lsw et e y.1 none⟩::qeB ps y.2 ss
 |.val _::ps,y,ss=>qeB ps y ss
 |.own _ _::ps,y,ss=>qeB ps y ss
 |.fn _ _::ps,y,ss=>qeB ps y ss
 |.nil _ _::ps,y,ss=>qeB ps y ss
 |.rd _::ps,y,ss=>qeB ps y ss
 |_,_,_=>[]
def qvU (E:Env) (o:Oper) (C:qr) (os:List Op1):Q Eff:=
 (qaF E C.ps os).bind fun A=>
  if qiS (A.gone++A.ios)&&apart A.ow (A.gone++A.ios)&&apart o.dst.toList (A.gone++A.ios)then
   (if RMs.flat C.rs&&PMs.yg C.ps then Q.ret []else qcb A.ow).bind fun fz=>
    let y:=qi (C.sem A.x) (RMs.dflt C.rs,PMs.yk C.ps)
    .ret ⟨fz++(A.gone.map (fun s=>⟨s,true,.undef⟩)++qeB C.ps y.2 A.ios++qbp o (qiQ C.rs y.1)),[qx (C.sem A.x)]⟩
  else .fail
def qwn (E:Env) (o:Oper) (ts us:List Ty) (φ:denL ts→Option (denL us)) (os:List Op1):Q Eff:=
 (qaF E (valPs ts) os).bind fun A=>
  (if RMs.flat (valRs us)then Q.ret []else qcb A.ow).bind fun fz=>
   .ret ⟨fz++qbp o (qiQ (valRs us) (quV us (qi (φ (qvI ts A.x)) (denL.dflt us)))),[qx (φ (qvI ts A.x))]⟩
def qtq (o:Oper) (et:Nat) (e:Ty) (k:Nat) (φ:List e.den→Int→Int→Option Bool) (os:List Op1):Q Eff:=
 match os with
 |[x,y]=>(qiL x).bind fun i=>(qiL y).bind fun j=>if i.1=.i64∧j.1=.i64 then .get 0 fun en=>(match en.2 with
  |.lsw et' e' xs _=>if h:et'=et∧e'=e then(match k with
   |1=>.ret ⟨qbp o (.val .bool (qi (φ (h.2▸xs) i.2 j.2) false)),[qx (φ (h.2▸xs) i.2 j.2)]⟩
   |2=>if apart o.dst.toList [0]=true then .ret ⟨⟨0,false,.lsw et e (qmO (h.2▸xs:List e.den) i.2 j.2) none⟩::qbp o .undef,[inB i.2 (qs (h.2▸xs:List e.den)),inB j.2 (qs (h.2▸xs:List e.den))]⟩else .fail
   |_=>.fail)else .fail
  |_=>.fail)else .fail
 |_=>.fail
def qwm (E:Env) (o:Oper) (t:Nat) (x:Op1):Option (Q Eff):=
 match x.a,E.lst with
 |.lsw et e _ (some φ),some (t0,_,_)=>if t=t0 then some (okE (qbp o (.lsz et e 0 φ)))else none
 |_,_=>none
def qsR (E:Env) (o:Oper) (t f:Nat) (x:Op1):Option (Q Eff):=
 match x.a,E.lst with
 |.lsz et e 0 φ,some (t0,_,_)=>if t=t0∧f≤1 then some (okE (qbp o (.lsz et e f φ)))else none
 |_,_=>none
def qsM (E:Env) (o:Oper) (t:Nat) (x:Op1):Option (Q Eff):=
 match x.a,E.lst with
 |.lsz et e k φ,some (t0,t1,t2)=>if t=t0∧k=0 then some (okE (qbp o (.lsv et e 0 φ)))else if(t=t1∧k=0)∨(t=t2∧k=1)then some (okE (qbp o (.lsv et e (k+1) φ)))else none
 |_,_=>none
def qvL (E:Env) (p:qg3):List Operand→List Nat→Q (List Op1)
 |[],_=>.ret []
 |x::xs,ts=>(opd E p (ts.headD 0) x).bind fun a=>(qvL E p xs ts.tail).bind fun r=>.ret (a::r)
def quZ (o:Op1):Q (((e:Ty)×List e.den)×List Nat):=
 match o.a with
 |.own et e xs=>if(etM et).isEmpty=true then .ret (⟨e,xs⟩,o.s.toList)else .fail
 |.nilr _ e=>.ret (⟨e,[]⟩,[])
 |.nz e xs=>.ret (⟨e,xs⟩,[])
 |.val (.slice e) xs=>.ret (⟨e,xs⟩,[])
 |.ref s v=>.get s fun en=>if en.1=v then(match en.2 with
  |.own et e xs=>if(etM et).isEmpty=true then .ret (⟨e,xs⟩,[s])else .fail
  |.val (.slice e) xs=>.ret (⟨e,xs⟩,[])
  |_=>.fail)else .fail
 |.bref s v off u=>if u.agg=false then .get s fun en=>if en.1=v then(match en.2.rowAt (some off)with
  |some r=>if(etM r.1).isEmpty=true then .ret (r.2,[s])else .fail
  |none=>.fail)else .fail else .fail
 |_=>.fail
def qju (x:Op1):Q (Option (Nat×AV)×Nat×((e:Ty)×List e.den)):=
 match x.a with
 |.own et e xs=>.ret (x.s.map (fun s=>(s,.undef)),et,⟨e,xs⟩)
 |.nilr et e=>.ret (none,et,⟨e,[]⟩)
 |.ref s v=>.get s fun en=>if en.1=v then(match en.2 with
  |.own et e xs=>.ret (some (s,.undef),et,⟨e,xs⟩)
  |_=>.fail)else .fail
 |.bref s v off u=>if u.agg=false then .get s fun en=>if en.1=v then(match en.2.rowAt (some off),en.2.swapRow (.hole 1) (some off)with
  |some r,some a=>.ret (some (s,a),r.1,r.2)
  |_,_=>.fail)else .fail else .fail
 |_=>.fail
def qli (r:Option (Nat×AV)):List U:=r.toList.map fun p=>⟨p.1,true,p.2⟩
def qpW (E:Env) (o:Oper) (tid:Nat) (x y:Op1):Q Eff:=
 (qju x).bind fun r=>(quZ y).bind fun q=>match o.dst with
  |some d=>if E.ty tid=some (.slice r.2.2.1)∧r.2.1=E.etid tid∧etM r.2.1=[]∧E.bytes r.2.1≠0∧r.2.2.1.size≠0∧apart q.2 (r.1.map (·.1)).toList=true∧r.1.map (·.1)≠some d then(match Ty.as (t:= .slice q.1.1) (.slice r.2.2.1) q.1.2 with
   |some ys=>.ret ⟨qli r.1++[⟨d,true,.own r.2.1 r.2.2.1 (qeT r.2.2.2 ys)⟩],[qcm (qs r.2.2.2) (qs ys) (E.bytes r.2.1)]⟩
   |none=>.fail)else .fail
  |none=>.fail
def qpM (E:Env) (o:Oper) (tid:Nat) (x y:Op1):Q Eff:=
 (qju x).bind fun r=>match o.dst,y.s,y.a with
  |some d,some sy,.own et' e' ys=>if E.ty tid=some (.slice r.2.2.1)∧etB r.2.1=E.etid tid∧r.2.1=et'∧E.bytes (etB r.2.1)≠0∧r.2.2.1.size≠0∧r.1.map (·.1)≠some d∧r.1.map (·.1)≠some sy∧sy≠d then(match Ty.as (t:= .slice e') (.slice r.2.2.1) ys with
   |some ys=>.ret ⟨qli r.1++[⟨sy,true,.undef⟩,⟨d,true,.own r.2.1 r.2.2.1 (qeT r.2.2.2 ys)⟩],[qcm (qs r.2.2.2) (qs ys) (E.bytes (etB r.2.1))]⟩
   |none=>.fail)else .fail
  |_,_,_=>.fail
def isMskd (x:Op1):Bool:=match x.a with
 |.own et _ _=> !(etM et).isEmpty
 |_=>false
def qql (E:Env) (o:Oper) (tid tid':Nat) (x y:Op1):Q Eff:=
 (qju x).bind fun r=>(toVal .str y).bind fun q=>match o.dst with
  |some d=>if E.ty tid=some (.slice r.2.2.1)∧r.2.1=E.etid tid∧etM r.2.1=[]∧E.bytes r.2.1=1∧E.ty tid'=some .str∧r.1.map (·.1)≠some d then(match Ty.as (t:= .slice r.2.2.1) (.slice (.int .u8)) r.2.2.2 with
   |some xs=>.ret ⟨qli r.1++[⟨d,true,.own r.2.1 (.int .u8) (qeT xs (ql3 q.1))⟩],[qcm (qs xs) (qs q.1) 1]⟩
   |none=>.fail)else .fail
  |none=>.fail
def qp3:Option Ty→Bool
 |some (.int _)=>true
 |_=>false
def qqa (E:Env) (o:Oper) (tid tid':Nat) (x y:Op1):Q Eff:=
 match x.a with
 |.nilr et e=>(qiL y).bind fun n=>if E.ty tid=some (.slice e)∧et=E.etid tid∧etM et=[]∧e.size≠0∧E.bytes et≠0∧qp3 (E.ty tid')=true then .ret ⟨qbp o (.own et e (quH n.2 e.dflt)),[ltI 0 n.2,room n.2 (E.bytes et)]⟩else .fail
 |_=>.fail
def qnZ (f:Int→Int→Int) (k:IntKind):Int→List Op1→Q Int
 |n,[]=>.ret n
 |n,o::os=>(qiL o).bind fun m=>if m.1=k then qnZ f k (f n m.2) os else .fail
structure MV where
 s:Nat
 k:Ty
 v:Ty
 xs:List (k.den×v.den)
def qqh (o:Op1):Q MV:=
 match o.s,o.a with
 |some s,.mp k v xs=>.ret ⟨s,k,v,xs⟩
 |_,.ref s v=>.get s fun en=>if en.1=v then(match en.2 with
  |.mp k v xs=>.ret ⟨s,k,v,xs⟩
  |_=>.fail)else .fail
 |_,_=>.fail
def qqw (E:Env) (o:Oper) (ts:List Nat) (m k:Op1):Q Eff:=
 (qqh m).bind fun M=>(toVal M.k k).bind fun q=>if E.ty (ts.headD 0)=some (.map M.k M.v)∧o.dst.isSome=false then okE [⟨M.s,false,.mp M.k M.v (qvA M.xs q.1)⟩]else .fail
def qwd (E:Env) (o:Oper) (t:Nat) (x y:Op1):Q Eff:=
 match x.a with
 |.osl s v fo sz lo hi=>(quZ y).bind fun q=>.get s fun en=>if en.1=v then(match en.2.rowAt fo with
  |some (et,⟨e,xs⟩)=>if e.size=sz∧e.size≠0∧E.ty t=some (.slice e)∧etM et=[]then(match Ty.as (t:= .slice q.1.1) (.slice e) q.1.2 with
   |some ys=>(match en.2.swapRow (.own et e (qeT (qbq xs 0 lo) (qeT ys (qbq xs (qQ .i64 lo (qs ys)) (qs xs))))) fo with
    |some a=>.ret ⟨⟨s,false,a⟩::qbp o (.val (.int .i64) (qs ys)),[leI (qs ys) (qR .i64 hi lo)]⟩
    |none=>.fail)
   |none=>.fail)else .fail
  |none=>.fail)else .fail
 |_=>.fail
def qnX (E:Env) (o:Oper) (b:Builtin) (ts:List Nat) (os:List Op1):Q Eff:=
 match b,os with
 |.len,[x]=>(qmM x).bind fun r=>match r,ts with
  |⟨.slice e,xs,_⟩,t::_=>if E.ty t=some (.slice e)then okE (qbp o (.val (.int .i64) (qs xs)))else .fail
  |⟨.str,xs,_⟩,t::_=>if E.ty t=some .str then okE (qbp o (.val (.int .i64) (qs xs)))else .fail
  |⟨.map k v,xs,_⟩,t::_=>if E.ty t=some (.map k v)then .ret ⟨qbp o (.val (.int .i64) (qs xs)),[leI (qs xs) 1099511627776]⟩else .fail
  |_,_=>.fail
 |.append,[x,y]=>match ts with
  |[t,t']=>if t=t' then(match isMskd y with
   |true=>qpM E o t x y
   |false=>qpW E o t x y)else if qp3 (E.ty t')=true then qqa E o t t' x y else qql E o t t' x y
  |_=>.fail
 |.cap,[x]=>(match x.a,ts with
  |.nilr _ e,t::_=>if E.ty t=some (.slice e)then okE (qbp o (.val (.int .i64) 0))else .fail
  |_,_=>.fail)
 |.clear,[x]=>(match x.a,ts with
  |.osl s v fo sz lo hi,t::_=>if o.dst.isSome then .fail else .get s fun en=>if en.1=v then(match en.2.rowAt fo with
   |some (et,⟨e,xs⟩)=>if e.size=sz∧e.size≠0∧E.ty t=some (.slice e)∧etM et=[]then(match en.2.swapRow (.own et e (qeT (qbq xs 0 lo) (qeT (quH (qR .i64 hi lo) e.dflt) (qbq xs hi (qs xs))))) fo with
    |some a=>okE [⟨s,false,a⟩]
    |none=>.fail)else .fail
   |none=>.fail)else .fail
  |_,_=>.fail)
 |.copy,[x,y]=>(match ts with
  |t::_::_=>qwd E o t x y
  |_=>.fail)
 |.delete,[m,k]=>(match ts with
  |_::_::_=>qqw E o ts m k
  |_=>.fail)
 |.max,x::r=>(qiL x).bind fun m=>(qnZ maxI m.1 m.2 r).bind fun n=>okE (qbp o (.val (.int m.1) n))
 |.min,x::r=>(qiL x).bind fun m=>(qnZ minI m.1 m.2 r).bind fun n=>okE (qbp o (.val (.int m.1) n))
 |_,_=>.fail
def qhn (o:Op1):Option (Nat×Option Nat×Nat):=match o.s,o.a with
 |some s,.box _=>some (s,some o.v,0)
 |some s,.hol (.box _) (some _) _ _ _ _=>some (s,some o.v,0)
 |_,.pbox s v off=>some (s,some v,off)
 |_,.pip k off=>some (k,none,off)
 |_,_=>none
def vOk (e:Nat):Option Nat→Bool
 |some v=>decide (e=v)
 |none=>true
def qtO (s off:Nat):Option Nat→AV
 |some v=>.pbox s v off
 |none=>.pip s off
def qoM (pins:List Nat) (o:Oper) (assign:Bool) (x:Op1):Q Eff:=
 match x.s,x.a with
 |some s,.own et e xs=>
  if assign then(match o.dst with
   |some d=>if s=d then .fail else .get d fun en=>okE [⟨d,true,.own et e xs⟩,⟨s,true,.ref d (en.1+1)⟩]
   |none=>.fail)
  else okE (qbp o (.ref s x.v))
 |some s,.mp k v xs=>
  if assign then(match o.dst with
   |some d=>if s=d then .fail else .get d fun en=>okE [⟨d,true,.mp k v xs⟩,⟨s,true,.ref d (en.1+1)⟩]
   |none=>.fail)
  else okE (qbp o (.ref s x.v))
 |some s,.box c=>
  if pins.contains s then okE (qbp o (.pip s 0))
  else if assign then(match o.dst with
   |some d=>if s=d then .fail else .get d fun en=>okE [⟨d,true,.box c⟩,⟨s,true,.pbox d (en.1+1) 0⟩]
   |none=>.fail)
  else okE (qbp o (.pbox s x.v 0))
 |some s,.agg c=>match o.dst with
  |some d=>if s=d then .fail else okE [⟨d,true,.agg c⟩,⟨s,true,.undef⟩]
  |none=>.fail
 |some s,.tup cs=>match o.dst with
  |some d=>if s=d then .fail else okE [⟨d,true,.tup cs⟩,⟨s,true,.undef⟩]
  |none=>.fail
 |some s,.hol _ none _ _ _ _=>if assign then .fail else okE (qbp o (.ref s x.v))
 |none,.own et e xs=>okE (qbp o (.own et e xs))
 |_,.ref s v=>if assign&&o.dst==some s then(.get s fun en=>if en.1=v then okE []else .fail)else okE (qbp o (.ref s v))
 |_,a=>if a.unowned then okE (qbp o a)else .fail
def BC.sound:BC→Bool
 |.hole _=>false
 |.pair a b=>a.sound&&b.sound
 |_=>true
def qhY (t:Ty) (x:Op1):Q (BC×List Nat×List U):=
 match x.s,x.a with
 |some s,.own et e xs=>if t=.slice e then .ret (.own et e xs,[],[⟨s,true,.undef⟩])else .fail
 |none,.own et e xs=>if t=.slice e then .ret (.own et e xs,[],[])else .fail
 |some s,.agg c=>if c.size=t.size∧c.sound=true then .ret (c,[],[⟨s,true,.undef⟩])else .fail
 |_,_=>(toVal t x).bind fun r=>.ret (.val t r.1,r.2,[])
def boxE (E:Env) (o:Oper) (tid:Nat) (x:Op1):Q Eff:=
 match E.ty tid,o.dst with
 |some t,some d=>(qhY t x).bind fun c=>if c.2.1.isEmpty&& !(c.2.2.map (·.s)).contains d then okE (c.2.2++[⟨d,true,.box c.1⟩])else .fail
 |_,_=>.fail
def qwf (o:Oper) (t:Ty) (s:Nat) (en:Ent) (fo:Option Nat) (sz:Nat) (i:Int) (off:Nat):Q Eff:=
 match t,en.2.rowAt fo,o.dst with
 |.slice e',some (et,⟨e,xs⟩),some d=>if e.size=sz∧d≠s∧e.noArr=true then(match(etM et).at off,e.sub (qh xs i e.dflt) off (.slice e')with
  |some et',some ys=>if etM et'=[]then .get d fun ed=>okE [⟨s,false,.hol en.2 fo i off d (ed.1+1)⟩,⟨d,true,.own et' e' ys⟩]else .fail
  |_,_=>.fail)else .fail
 |_,_,_=>.fail
def qoD (o:Oper) (t:Ty) (fo:Option Nat) (sz:Nat) (i:Int) (off:Nat):AV→Q Eff
 |.hol a fo' i' o1 t0 v0=>if fo=fo' then(if off=o1∧t.agg=false then .get t0 fun e0=>if e0.1=v0 then(match a.rowAt fo with
   |some (_,⟨e,_⟩)=>if e.size=sz then .ret ⟨qbp o (.ref t0 v0),[eqI i i']⟩else .fail
   |none=>.fail)else .fail
  else match a.rowAt fo with
   |some (et,⟨e,xs⟩)=>if e.size=sz∧(etM et).hits off (off+t.size)=false then(match e.sub (qh xs i e.dflt) off t with
    |some x=>okE (qbp o (.val t x))
    |none=>.fail)else .fail
   |none=>.fail)else .fail
 |_=>.fail
def qv7 (E:Env) (o:Oper) (t:Ty) (s:Nat) (c:BC) (off:Nat):Option (Q Eff):=
 match o.dst with
 |some d=>if E.tk.contains d=true∧d≠s∧t.agg=true∧off=0∧c.size=t.size then some (okE [⟨s,true,.undef⟩,⟨d,true,.agg c⟩])else none
 |none=>none
def qvR (E:Env) (o:Oper) (t:Ty) (s:Nat) (c:BC) (off:Nat):Option (Q Eff):=
 match o.dst,c.row off with
 |some d,some (et,⟨e,xs⟩)=>if E.tk.contains d=true∧d≠s∧t.agg=false then some (.get d fun ed=>okE [⟨s,false,.bhl c off d (ed.1+1)⟩,⟨d,true,.own et e xs⟩])else none
 |_,_=>none
def qwe (E:Env) (o:Oper) (t:Ty) (s:Nat) (c:BC) (off:Nat):Option (Q Eff):=
 match o.dst,c.row off,c.swap off (.hole 1)with
 |some d,some (et,⟨e,xs⟩),some c'=>if E.tk.contains (d+1000000)=true∧d≠s∧t.agg=false then some (okE [⟨s,false,.box c'⟩,⟨d,true,.own et e xs⟩])else none
 |_,_,_=>none
def qwh (E:Env) (o:Oper) (tid:Nat) (p:Op1):Q Eff:=
 match E.ty tid with
 |none=>.fail
 |some t=>match qhn p with
  |some (s,v,off)=>.get s fun en=>if vOk en.1 v=true then(match en.2 with
   |.box c=>(match c.get off t with
    |some (x,false)=>okE (qbp o (.val t x))
    |some (_,true)=>(match qv7 E o t s c off with
     |some q=>q
     |none=>match qvR E o t s c off with
     |some q=>q
     |none=>match qwe E o t s c off with
     |some q=>q
     |none=>okE (qbp o (.bref s en.1 off t)))
    |none=>.fail)
   |.hol (.box _) (some o1) _ _ _ _=>if off=o1∧t.agg=false then okE (qbp o (.bref s en.1 off t))else .fail
   |_=>.fail)else .fail
  |none=>match p.a with
   |.prow s v fo sz i off=>.get s fun en=>if en.1=v then(match en.2.rowAt fo with
    |some (et,⟨e,xs⟩)=>if e.size=sz∧(etM et).hits off (off+t.size)=false then(match e.sub (qh xs i e.dflt) off t with
     |some x=>okE (qbp o (.val t x))
     |none=>.fail)else qwf o t s en fo sz i off
    |none=>qoD o t fo sz i off en.2)else .fail
   |.view t' x off=>(match t'.sub x off t with
    |some y=>okE (qbp o (.val t y))
    |none=>.fail)
   |.parr s v off n e i o2=>.get s fun en=>if vOk en.1 v=true then(match en.2 with
    |.box c=>(match c.get off (.arr n e)with
     |some (xs,false)=>(match e.sub (qh xs i e.dflt) o2 t with
      |some y=>okE (qbp o (.val t y))
      |none=>.fail)
     |_=>.fail)
    |_=>.fail)else .fail
   |_=>.fail
def putE (t:Ty) (x:Op1) (s v:Nat) (fo:Option Nat) (sz:Nat) (i:Int) (off:Nat) (en:Ent) (a:AV) (fo':Option Nat) (i':Int) (o1:Nat):Q Eff:=
 match t,x.s,x.a,a.rowAt fo with
 |.slice e',some sx,.own et' e'' ys,some (et,⟨e,xs⟩)=>if en.1=v∧fo=fo'∧off=o1∧sx≠s∧e.size=sz∧e.noArr=true∧(etM et).at off=some et'∧etM et'=[]∧(e.sub (qh xs i e.dflt) off (.slice e')).isSome=true then(match Ty.as (t:= .slice e'') (.slice e') ys with
  |some ys=>(match e.upd (qh xs i e.dflt) off (.slice e') ys with
   |some y=>(match a.swapRow (.own et e (qbh xs i y)) fo with
    |some a'=>.ret ⟨[⟨s,false,a'⟩,⟨sx,true,.undef⟩],[eqI i i']⟩
    |none=>.fail)
   |none=>.fail)
  |none=>.fail)else .fail
 |_,_,_,_=>.fail
def qtM (E:Env) (tid:Nat) (p x:Op1):Q Eff:=
 match E.ty tid with
 |none=>.fail
 |some t=>match qhn p with
  |some (s,v,off)=>(qhY t x).bind fun n=>if n.2.1.isEmpty&& !(n.2.2.map (·.s)).contains s then(.get s fun en=>if vOk en.1 v=true then(match en.2 with
   |.box c=>(match c.put off n.1 with
    |some c'=>okE (n.2.2++[⟨s,true,.box c'⟩])
    |none=>.fail)
   |_=>.fail)else .fail)else .fail
  |none=>match p.a with
   |.prow s v fo sz i off=>.get s fun en0=>match en0.2 with
    |.hol a fo' i' o1 _ _=>putE t x s v fo sz i off en0 a fo' i' o1
    |_=>(toVal t x).bind fun r=>if r.2.contains s=true then .fail else(qcb r.2).bind fun fz=>(.get s fun en=>if en.1=v then(match en.2.rowAt fo with
    |some (et,⟨e,xs⟩)=>if e.size=sz∧(etM et).hits off (off+t.size)=false then(match e.upd (qh xs i e.dflt) off t r.1 with
     |some y=>(match en.2.swapRow (.own et e (qbh xs i y)) fo with
      |some a=>okE (fz++[⟨s,false,a⟩])
      |none=>.fail)
     |none=>.fail)else .fail
    |none=>.fail)else .fail)
   |.parr s v off n e i o2=>(toVal t x).bind fun r=>if r.2.isEmpty then(.get s fun en=>if vOk en.1 v=true then(match en.2 with
    |.box c=>(match c.get off (.arr n e)with
     |some (xs,false)=>(match e.upd (qh xs i e.dflt) o2 t r.1 with
      |some y=>(match c.put off (.val (.arr n e) (qbh xs i y))with
       |some c'=>okE [⟨s,true,.box c'⟩]
       |none=>.fail)
      |none=>.fail)
     |_=>.fail)
    |_=>.fail)else .fail)else .fail
   |_=>.fail
def qvS (o:Oper) (off:Nat) (p:Op1):Q Eff:=
 match qhn p with
 |some (s,v,b)=>.get s fun en=>if vOk en.1 v=true then okE (qbp o (qtO s (b+off) v))else .fail
 |none=>match p.a with
  |.prow s v fo sz i b=>.get s fun en=>if en.1=v then okE (qbp o (.prow s v fo sz i (b+off)))else .fail
  |.view t x b=>okE (qbp o (.view t x (b+off)))
  |.parr s v b n e i o2=>.get s fun en=>if vOk en.1 v=true then okE (qbp o (.parr s v b n e i (o2+off)))else .fail
  |_=>.fail
def qm9 (E:Env) (o:Oper) (tid:Nat) (x ix:Op1):Q Eff:=
 (qiL ix).bind fun i=>match E.ty tid with
  |some (.slice e0)=>match x.s,x.a with
   |some s,.own _ e xs=>if e.size=e0.size then .ret ⟨qbp o (.prow s x.v none e.size i.2 0),[inB i.2 (qs xs)]⟩else .fail
   |_,.ref s v=>.get s fun en=>if en.1=v then(match en.2 with
    |.own _ e xs=>if e.size=e0.size then .ret ⟨qbp o (.prow s v none e.size i.2 0),[inB i.2 (qs xs)]⟩else .fail
    |.val (.slice e) xs=>if e.size=e0.size then .ret ⟨qbp o (.view e (qh xs i.2 e.dflt) 0),[inB i.2 (qs xs)]⟩else .fail
    |.hol b none _ _ _ _=>(match b.rowAt none with
     |some (_,⟨e,xs⟩)=>if e.size=e0.size then .ret ⟨qbp o (.prow s v none e.size i.2 0),[inB i.2 (qs xs)]⟩else .fail
     |none=>.fail)
    |_=>.fail)else .fail
   |_,.val (.slice e) xs=>if e.size=e0.size then .ret ⟨qbp o (.view e (qh xs i.2 e.dflt) 0),[inB i.2 (qs xs)]⟩else .fail
   |_,.bref s v off u=>if u.agg=false then .get s fun en=>if en.1=v then(match en.2.rowAt (some off)with
    |some (_,⟨e,xs⟩)=>if e.size=e0.size then .ret ⟨qbp o (.prow s v (some off) e.size i.2 0),[inB i.2 (qs xs)]⟩else .fail
    |none=>(match en.2 with
     |.hol b (some o1) _ _ _ _=>if o1=off then(match b.rowAt (some o1)with
      |some (_,⟨e,xs⟩)=>if e.size=e0.size then .ret ⟨qbp o (.prow s v (some off) e.size i.2 0),[inB i.2 (qs xs)]⟩else .fail
      |none=>.fail)else .fail
     |_=>.fail))else .fail else .fail
   |_,_=>.fail
  |some (.arr n e0)=>if n<2 then .fail else(match qhn x with
   |some (s,v,b)=>.get s fun en=>if vOk en.1 v=true then .ret ⟨qbp o (.parr s v b n e0 i.2 0),[inB i.2 n]⟩else .fail
   |none=>(match x.a with
    |.view t y off=>(match t.sub y off (.arr n e0)with
     |some ys=>.ret ⟨qbp o (.view e0 (qh ys i.2 e0.dflt) 0),[inB i.2 n]⟩
     |none=>.fail)
    |_=>.fail))
  |_=>.fail
def qhs (b:Option Op1) (d:Int):Q Int:=match b with
 |some b=>(qiL b).bind fun i=>.ret i.2
 |none=>.ret d
structure Site where
 s:Nat
 v:Nat
 fo:Option Nat
 et:Nat
 e:Ty
 xs:List e.den
def qsD (x:Op1):Q Site:=match x.s,x.a with
 |some s,.own et e xs=>.ret ⟨s,x.v,none,et,e,xs⟩
 |_,.ref s v=>.get s fun en=>if en.1=v then(match en.2 with
  |.own et e xs=>.ret ⟨s,v,none,et,e,xs⟩
  |_=>.fail)else .fail
 |_,.bref s v off u=>if u.agg=false then .get s fun en=>if en.1=v then(match en.2.rowAt (some off)with
  |some r=>.ret ⟨s,v,some off,r.1,r.2.1,r.2.2⟩
  |none=>.fail)else .fail else .fail
 |_,_=>.fail
def qlF (E:Env) (o:Oper) (tid:Nat) (x:Op1) (lo hi:Option Op1):Q Eff:=
 (qmM x).bind fun r=>match r with
 |⟨.str,xs,_⟩=>(qhs lo 0).bind fun l=>(qhs hi (qs xs)).bind fun h=>
  if E.ty tid=some .str then .ret ⟨qbp o (.val .str (qbq xs l h)),[inS l h (qs xs)]⟩else .fail
 |⟨.slice e,xs,[]⟩=>(qhs lo 0).bind fun l=>(qhs hi (qs xs)).bind fun h=>
  if E.ty tid=some (.slice e)then .ret ⟨qbp o (.val (.slice e) (qbq xs l h)),[inS l h (qs xs)]⟩else .fail
 |⟨.slice _,_,_::_⟩=>(qsD x).bind fun q=>(qhs lo 0).bind fun l=>(qhs hi (qs q.xs)).bind fun h=>
  if E.ty tid=some (.slice q.e)then .ret ⟨qbp o (.osl q.s q.v q.fo q.e.size l h),[inS l h (qs q.xs)]⟩else .fail
 |_=>.fail
def qtd (E:Env) (o:Oper) (tid:Nat) (x:Op1) (s v d:Nat) (hi:Option Op1):Q Eff:=
 .get s fun en=>if en.1=v then(match en.2 with
  |.own et e xs=>if d≠s∧E.ty tid=some (.slice e)∧etM et=[]then(qhs hi (qs xs)).bind fun h=>.ret ⟨[⟨s,true,.undef⟩,⟨d,true,.own et e (qbq xs 0 h)⟩],[inS 0 h (qs xs)]⟩else .fail
  |_=>qlF E o tid x none hi)else .fail
def cutE (E:Env) (o:Oper) (tid:Nat) (x:Op1) (hi:Option Op1):Option (Q Eff):=
 match x.s,x.a,o.dst with
 |some s,.own et e xs,some d=>if d≠s∧E.ty tid=some (.slice e)∧etM et=[]then some ((qhs hi (qs xs)).bind fun h=>.ret ⟨[⟨s,true,.undef⟩,⟨d,true,.own et e (qbq xs 0 h)⟩],[inS 0 h (qs xs)]⟩)else none
 |_,.nilr et e,_=>if E.ty tid=some (.slice e)then some ((qhs hi 0).bind fun h=>.ret ⟨qbp o (.nilr et e),[inS 0 h 0]⟩)else none
 |_,.ref s v,some d=>some (qtd E o tid x s v d hi)
 |_,_,_=>none
def qbb:Ty→List Nat
 |.pair a b=>a.size::qbb b
 |_=>[]
def qq2 (a b:Ty):BC→Option (BC×BC)
 |.pair c d=>if c.size=a.size then some (c,d)else none
 |.val (.pair a' b') x=>if a'.size=a.size then some (.val a' x.1,.val b' x.2)else none
 |_=>none
def qh1 (z:BC) (t:Ty) (i:Nat):List (Nat×Op1)→Q (BC×List Nat)
 |ps=>match t with
  |.pair a b=>(match qq2 a b z with
   |some (za,zb)=>(match ps.find? (fun p=>p.1==i)with
    |some p=>(qhY a p.2).bind fun c=>if c.2.1.isEmpty then(qh1 zb b (i+1) ps).bind fun r=>.ret (pairBC c.1 r.1,c.2.2.map (·.s)++r.2)else .fail
    |none=>(qh1 zb b (i+1) ps).bind fun r=>.ret (pairBC za r.1,r.2))
   |none=>.fail)
  |.unit=>.ret (.val .unit (),[])
  |_=>.fail
where
 pairBC:BC→BC→BC
  |.val a x,.val b y=>.val (.pair a b) (x,y)
  |c,d=>.pair c d
def qjC (e:Ty):Nat→List Op1→Q (List e.den×List Nat)
 |0,[]=>.ret ([],[])
 |n+1,o::os=>(toVal e o).bind fun x=>(qjC e n os).bind fun r=>.ret (x.1::r.1,x.2++r.2)
 |_,_=>.fail
def qtf (E:Env) (o:Oper) (t n:Nat) (e:Ty):List (Nat×Op1)→Option Eff
 |[(i,x)]=>match o.dst,x.s,x.a with
  |some d,some s,.agg c=>if i=0∧n=1∧s≠d∧c.size=e.size∧e.agg=true∧0<e.size∧e.size≤16777216∧c.sound=true∧etB (qlX E.msk (E.etid t))=E.etid t∧(etM (qlX E.msk (E.etid t))).isEmpty=false then(match c.toM (etM (qlX E.msk (E.etid t))) e 0 with
   |some y=>some ⟨[⟨s,true,.undef⟩,⟨d,true,.own (qlX E.msk (E.etid t)) e [y]⟩],[]⟩
   |none=>none)else none
  |_,_,_=>none
 |_=>none
def qkq:Nat→List (Nat×Op1)→Bool
 |_,[]=>true
 |i,p::ps=>p.1==i&&qkq (i+1) ps
def qrx (c:BC):AV:=
 match c with
 |.val t x=>.val t x
 |c=>.agg c
def qjB (E:Env) (p:qg3) (tid:Nat→Nat):List (Nat×Operand)→Q (List (Nat×Op1))
 |[]=>.ret []
 |(i,x)::r=>(opd E p (tid i) x).bind fun a=>(qjB E p tid r).bind fun q=>.ret ((i,a)::q)
def convE (E:Env) (o:Oper) (src dst:Nat) (x:Op1):Q Eff:=
 match E.ty src,E.ty dst with
 |some (.int _),some (.int k)=>(qiL x).bind fun n=>okE (qbp o (.val (.int k) (qbI k n.2)))
 |some .str,some .str=>(toVal .str x).bind fun s=>okE (qbp o (.val .str s.1))
 |some (.slice (.int .u8)),some .str=>if E.ty (E.etid src)=some (.int .u8)then((toVal (.slice (.int .u8)) x).bind fun s=>okE (qbp o (.val .str (quu s.1))))else .fail
 |some .str,some (.slice (.int .u8))=>if E.ty (E.etid dst)=some (.int .u8)then((toVal .str x).bind fun s=>okE (qbp o (.val (.slice (.int .u8)) (ql3 s.1))))else .fail
 |some (.slice (.int .u8)),some (.slice (.int .u8))=>(match x.s,x.a,o.dst with
  |some s,.own et e xs,some d=>if src=dst∧s≠d∧(etM et).isEmpty=true∧e=.int .u8∧E.ty (E.etid dst)=some (.int .u8)∧xs.isEmpty=false then okE [⟨s,true,.undef⟩,⟨d,true,.val (.slice e) xs⟩]else .fail
  |_,_,_=>.fail)
 |_,_=>.fail
def qsp (op:BinOp) (y:Operand):Bool:=match op,y with
 |.eql,.const (.slice none 0 0)=>true
 |.neq,.const (.slice none 0 0)=>true
 |_,_=>false
def qqq (op:BinOp) (y:Operand):Bool:=match op,y with
 |.eql,.const .nilIface=>true
 |.neq,.const .nilIface=>true
 |_,_=>false
def qtm:Option Ty→Bool
 |some .err=>true
 |_=>false
def qqb (op:BinOp) (y:Operand):Bool:=match op,y with
 |.eql,.const (.pointer none)=>true
 |.neq,.const (.pointer none)=>true
 |_,_=>false
def qsH:Option Ty→Bool
 |some (.opt _)=>true
 |_=>false
def qpl:Option Ty→Bool
 |some (.slice _)=>true
 |_=>false
def qgh:BinOp→Bool
 |.eql=>true
 |_=>false
def qtc (E:Env) (o:Oper) (t:Nat) (m k:Op1) (ok:Bool):Q Eff:=
 match m.a with
 |.val (.map kt vt) xs=>(toVal kt k).bind fun q=>if E.ty t=some (.map kt vt)then(match ok with
  |false=>okE (qbp o (.val vt (qkQ xs q.1 vt.dflt)))
  |true=>okE (qbp o (.tup [.val vt (qkQ xs q.1 vt.dflt),.val .bool (qpH xs q.1)])))else .fail
 |_=>(qqh m).bind fun M=>(toVal M.k k).bind fun q=>if E.ty t=some (.map M.k M.v)then(match ok with
  |false=>okE (qbp o (.val M.v (qkQ M.xs q.1 M.v.dflt)))
  |true=>okE (qbp o (.tup [.val M.v (qkQ M.xs q.1 M.v.dflt),.val .bool (qpH M.xs q.1)])))else .fail
def qir (E:Env) (t:Nat) (m k x:Op1):Q Eff:=
 (qqh m).bind fun M=>(toVal M.k k).bind fun q=>(toVal M.v x).bind fun r=>if E.ty t=some (.map M.k M.v)∧M.s∉r.2 then
  (if M.v.flat then Q.ret []else qcb r.2).bind fun fz=>okE (fz++[⟨M.s,false,.mp M.k M.v (qnd M.xs q.1 r.1)⟩])else .fail
def qqE (E:Env) (o:Oper) (t:Nat):Q Eff:=
 match E.ty t with
 |some (.map k v)=>okE (qbp o (.mp k v []))
 |_=>.fail
def qec (E:Env) (p:qg3) (o:Oper):Q Eff:=
 match o.op with
 |.move x=>(opd E p o.type x).bind fun x=>qoM E.pins o false x
 |.assign x=>(opd E p o.type x).bind fun x=>qoM E.pins o true x
 |.pick c a b=>(opd E p 0 c).bind fun cv=>(qmM cv).bind fun cr=>match cr with
  |⟨.bool,bc,_⟩=>
   (opd E (qqc c cv.v true bc p) o.type a).bind fun a=>(qmM a).bind fun ar=>(opd E (qqc c cv.v false bc p) o.type b).bind fun b=>(qmM b).bind fun br=>
    match Ty.as (t:=br.t) ar.t br.x with
    |some y=>if ar.ow.isEmpty&&br.ow.isEmpty then okE (qbp o (.val ar.t (bif bc then ar.x else y)))else .fail
    |none=>.fail
  |_=>.fail
 |.alloc t=>match E.zero t with
  |some c=>okE (qbp o (.box c))
  |none=>.fail
 |.box t x=>(opd E p t x).bind fun x=>(match qwm E o t x with
  |some q=>q
  |none=>boxE E o t x)
 |.build t parts=>(qjB E p (fun _=>0) parts.toList).bind fun ps=>match E.ty t with
  |some (.arr n e)=>if qkq 0 ps&&(decide (0<n*e.size)&&decide ((E.zero t).map BC.size=some (n*e.size)))then(qjC e n (ps.map (·.2))).bind fun r=>(if e.flat then Q.ret []else qcb r.2).bind fun fz=>okE (fz++qbp o (.val (.arr n e) r.1))else .fail
  |some T=>(qh1 (if E.ownz=true then(E.zero t).getD (.val T T.dflt)else .val T T.dflt) T 0 ps).bind fun r=>(match o.dst with
   |some d=>if qiS (d::r.2)&&qiS (ps.map (·.1))&&ps.all (fun q=>decide (q.1<(qbb T).length))then okE (r.2.map (fun s=>⟨s,true,.undef⟩)++[⟨d,true,qrx r.1⟩])else .fail
   |none=>.fail)
  |none=>.fail
 |.buildSlice t n parts=>(qjB E p (fun _=>E.etid t) parts.toList).bind fun ps=>match E.ty t with
  |some (.slice e)=>match qtf E o t n e ps with
   |some f=>.ret f
   |none=>if n=0∧parts.size=0∧etM (E.etid t)=[]then okE (qbp o (.own (E.etid t) e []))else if qkq 0 ps&&decide (n*e.size≤16777216)&&(decide (0<n*e.size)&&(etM (E.etid t)).isEmpty)then(qjC e n (ps.map (·.2))).bind fun r=>(if e.flat then Q.ret []else qcb r.2).bind fun fz=>okE (fz++qbp o (.own (E.etid t) e r.1))else .fail
  |_=>.fail
 |.load t a=>(opd E p 0 a).bind fun a=>(match qsM E o t a with
  |some q=>q
  |none=>qwh E o t a)
 |.store t a x=>if o.dst.isSome then .fail else(opd E p 0 a).bind fun a=>(opd E p t x).bind fun x=>qtM E t a x
 |.nilCheck x=>(opd E p 0 x).bind fun x=>match qhn x with
  |some (s,v,off)=>.get s fun en=>if vOk en.1 v=true then okE (qbp o (qtO s off v))else .fail
  |none=>match x.a with
   |.prow s v fo sz i b=>.get s fun en=>if en.1=v then okE (qbp o (.prow s v fo sz i b))else .fail
   |.view t y b=>okE (qbp o (.view t y b))
   |.val (.opt e) y=>.ret ⟨qbp o (.view e (qi y e.dflt) 0),[qx y]⟩
   |_=>.fail
 |.binOp op t x y _=>if qsp op y&&qpl (E.ty t)then(opd E p t x).bind fun x=>(match x.a with
   |.nz _ xs=>okE (qbp o (.val .bool (bif qgh op then eqI (qs xs) 0 else !(eqI (qs xs) 0))))
   |_=>(qmM x).bind fun x=>(match x with
    |⟨.slice _,xs,_⟩=>okE (qbp o (.amb (qgh op) (eqI (qs xs) 0)))
    |_=>.fail))else if qqq op y&&qtm (E.ty t)then(opd E p t x).bind fun x=>(qmM x).bind fun x=>(match x with
   |⟨.err,b,_⟩=>okE (qbp o (.val .bool (bif qgh op then b else !b)))
   |_=>.fail)else if qqb op y&&qsH (E.ty t)then(opd E p t x).bind fun x=>(qmM x).bind fun x=>(match x with
   |⟨.opt _,z,_⟩=>okE (qbp o (.val .bool (bif qgh op then !(qx z)else qx z)))
   |_=>.fail)else(opd E p t x).bind fun x=>(opd E p t y).bind fun y=>(qmM x).bind fun x=>(qmM y).bind fun y=>match binE E op t x y with
  |some (a,c)=>.ret ⟨qbp o a,c⟩
  |none=>.fail
 |.unOp op _ x=>(opd E p o.type x).bind fun x=>(qmM x).bind fun x=>match unE op x with
  |some a=>okE (qbp o a)
  |none=>.fail
 |.convert s d x=>(opd E p s x).bind fun x=>convE E o s d x
 |.slice t x lo hi none=>(opd E p t x).bind fun x=>match lo,hi with
  |none,none=>(match cutE E o t x none with
   |some q=>q
   |none=>qlF E o t x none none)
  |some l,none=>(opd E p 0 l).bind fun l=>qlF E o t x (some l) none
  |none,some h=>(opd E p 0 h).bind fun h=>(match cutE E o t x (some h)with
   |some q=>q
   |none=>qlF E o t x none (some h))
  |some l,some h=>(opd E p 0 l).bind fun l=>(opd E p 0 h).bind fun h=>qlF E o t x (some l) (some h)
 |.fieldAddr t x f=>(opd E p 0 x).bind fun x=>(match qsR E o t f x with
  |some q=>q
  |none=>match E.off t f with
   |some off=>qvS o off x
   |none=>.fail)
 |.field t x f=>(opd E p t x).bind fun x=>match E.ty t,E.off t f,E.ty (E.fty t f)with
  |some t,some off,some u=>(toVal t x).bind fun r=>match t.sub r.1 off u with
   |some y=>(if u.flat then Q.ret []else qcb r.2).bind fun fz=>okE (fz++qbp o (.val u y))
   |none=>.fail
  |_,_,_=>.fail
 |.indexAddr t x ix=>(opd E p t x).bind fun x=>(opd E p 0 ix).bind fun ix=>qm9 E o t x ix
 |.index t x ix=>(opd E p t x).bind fun x=>(opd E p 0 ix).bind fun ix=>(qiL ix).bind fun i=>(qmM x).bind fun r=>match r with
  |⟨.str,xs,_⟩=>if E.ty t=some .str then .ret ⟨qbp o (.val (.int .u8) (qm7 (qh xs i.2 0))),[inB i.2 (qs xs)]⟩else .fail
  |⟨.arr n e,xs,[]⟩=>if E.ty t=some (.arr n e)∧E.ty (E.etid t)=some e then .ret ⟨qbp o (.val e (qh xs i.2 e.dflt)),[inB i.2 n]⟩else .fail
  |_=>.fail
 |.extract x i=>match x with
  |.tmp t=>.get t fun en=>match qbk p en.2 with
   |.tup cs=>match cs[i]? with
    |some (.val t x)=>okE (qbp o (.val t x))
    |some (.own et e xs)=>(match o.dst with
     |some d=>if d=t then .fail else okE [⟨t,true,.tup (cs.set i .gone)⟩,⟨d,true,.own et e xs⟩]
     |none=>.fail)
    |some (.agg c)=>(match o.dst with
     |some d=>if d=t then .fail else okE [⟨t,true,.tup (cs.set i .gone)⟩,⟨d,true,.agg c⟩]
     |none=>.fail)
    |_=>.fail
   |_=>.fail
  |_=>.fail
 |.makeSlice t l c=>(opd E p 0 l).bind fun l=>(opd E p 0 c).bind fun c=>(qiL l).bind fun n=>(qiL c).bind fun m=>match E.ty t with
  |some (.slice e)=>if E.bytes (E.etid t)≠0∧etM (E.etid t)=[]then .ret ⟨qbp o (.own (E.etid t) e (quH n.2 e.dflt)),[leI 0 n.2,leI n.2 m.2,room m.2 (E.bytes (E.etid t))]⟩else .fail
  |_=>.fail
 |.makeMap t r=>if r.isNone then qqE E o t else .fail
 |.lookup t m k ok=>(opd E p 0 m).bind fun m=>(opd E p 0 k).bind fun k=>qtc E o t m k ok
 |.mapUpdate t m k x=>if o.dst.isSome then .fail else(opd E p 0 m).bind fun m=>(opd E p 0 k).bind fun k=>(opd E p (E.etid t) x).bind fun x=>qir E t m k x
 |.insert t m k x=>if o.dst.isSome then .fail else(opd E p 0 m).bind fun m=>(opd E p 0 k).bind fun k=>(opd E p (E.etid t) x).bind fun x=>qir E t m k x
 |.range t x=>(opd E p t x).bind fun x=>(match x.a with
  |.val (.map k v) xs=>if E.ty t=some (.map k v)then okE (qbp o (.itr k v xs none))else .fail
  |_=>.fail)
 |.entry x=>(opd E p 0 x).bind fun x=>(match x.a with
  |.itr k v _ (some e)=>okE (qbp o (.tup [.val k e.1,.val v e.2]))
  |_=>.fail)
 |.makeFunc fn first caps=>match fn with
  |.func f=>if first.isEmpty then cloE E o f caps.toList else .fail
  |_=>.fail
 |.call c=>match c.callee with
  |.builtin b=>(qvL E p c.args.toList c.argTypes.toList).bind fun os=>qnX E o b c.argTypes.toList os
  |.value f=>match f with
   |.func f=>(match E.fn f with
    |some C=>(qvL E p c.args.toList c.argTypes.toList).bind fun os=>qvU E o C os
    |none=>.fail)
   |.tmp t=>.get t fun e=>(match qbk p e.2 with
    |.fnv ts us φ=>(qvL E p c.args.toList c.argTypes.toList).bind fun os=>qwn E o ts us φ os
    |.lsv et e k φ=>(qvL E p c.args.toList c.argTypes.toList).bind fun os=>qtq o et e k φ os
    |_=>.fail)
   |_=>.fail
  |_=>.fail
 |_=>.fail
def qqL:List (Nat×Nat)→Q Unit
 |[]=>.ret ()
 |m::r=>.get m.1 fun en=>if m.2≤en.1 then qqL r else .fail
def qks (s:Nat):List U→Nat
 |[]=>0
 |u::r=>match u.s==s&&u.bump with
  |true=>qks s r+1
  |false=>qks s r
def qnv (d:List Nat) (u:U):Bool:=match u.a with
 |.box _=> !d.contains u.s
 |_=>false
def qga (us:List U) (d:List Nat):List Nat→Q (List U)
 |[]=>.ret []
 |t::r=>.get t fun e=>match e.2 with
  |.pbox s v off=>if us.any (fun u=>u.s==s&&qnv d u)&& !us.any (fun u=>u.s==t)&& !d.contains s&& !d.contains t&&s !=t then .get s fun e2=>(match e2.2 with
    |.box _=>if e2.1=v then(qga us d r).bind fun l=>.ret (⟨t,true,.pbox s (v+qks s us) off⟩::l)else qga us d r
    |_=>qga us d r)else qga us d r
  |_=>qga us d r
def qly (E:Env) (o:Oper) (f:Eff):Q Eff:=match E.rf with
 |[]=>.ret f
 |l=>if f.upd.any (qnv o.dst.toList)then(qga f.upd o.dst.toList l).bind fun us=>.ret ⟨f.upd++us,f.chk⟩else .ret f
def qdv (E:Env) (g:Option (Nat×Bool)) (o:Oper):Q Eff:=
 match g with
 |none=>(qec E [] o).bind fun f=>qly E o f
 |some (s,w)=>(qeg 8 s w).bind fun p=>(qec E p o).bind fun f=>match f.upd,o.dst,p with
  |[⟨d,true,a⟩],some d',(s',v',w',_)::_=>if d=d'∧a.freeze.unowned=true∧a.freeze.isUndef=false∧p.all (fun q=>q.1 !=d)=true then(qqL a.freeze.mentions).bind fun _=>.ret ⟨[⟨d,true,.grd s' v' w' a.freeze⟩],f.chk.map fun c=> !(qmR p)||c⟩else .fail
  |_,_,_=>.fail
def qX (σ:St) (u:U):St:=σ.set u.s ((if u.bump then(qt σ u.s).1+1 else(qt σ u.s).1),u.a)
def qk (σ:St) (us:List U):St:=us.foldl qX σ
def qb3 (ops:Array Oper) (o:Oper):Option (Option (Nat×Bool)):=
 match o.guard with
 |none=>some none
 |some (j,w)=>match(ops[j]?).bind (·.dst)with
  |some d=>some (some (d,w))
  |none=>none
structure qcL where
 rd:List Nat
 us:List U
def qcL.wr (f:qcL):List Nat:=f.us.map (·.s)
def qbZ (E:Env) (wr:List Nat) (ops:Array Oper):List Oper→St→List Bool→List qcL→Option (St×List Bool×List qcL)
 |[],σ,c,fs=>some (σ,c,fs)
 |o::r,σ,c,fs=>match qb3 ops o with
  |none=>none
  |some g=>match(qdv E g o).run (qt σ)with
   |none=>none
   |some f=>if f.upd.all (fun u=>wr.contains u.s&&decide (u.s<σ.length))then
     qbZ E wr ops r (qk σ f.upd) (c++f.chk) ({ rd:=(qdv E g o).log (qt σ),us:=f.upd } ::fs)
    else none
def qbP (o:Oper):List Nat:=(o.after.toList.filter (Region.binds .any)).map (·.on)
def qh3 (ms:List Nat) (es:List Nat):Nat:=es.foldl (fun m j=>m|||(1 <<< j)|||ms.getD j 0) 0
def qfJ (f g:qcL):Bool:=apart f.wr (g.rd++g.wr)&&apart g.wr f.rd
def qon (m:Nat) (f:qcL):Nat→List qcL→Bool
 |_,[]=>true
 |j,g::r=>(m.testBit j||qfJ f g)&&qon m f (j+1) r
def qf7:List Oper→List qcL→List Nat→List qcL→Bool
 |[],[],_,_=>true
 |o::os,f::fs,ms,done=>(qbP o).all (fun j=>decide (j<ms.length))&&(qon (qh3 ms (qbP o)) f 0 done&&qf7 os fs (ms++[qh3 ms (qbP o)]) (done++[f]))
 |_,_,_,_=>false
def qgO:AV→Bool
 |.own _ _ _=>true
 |.hol _ none _ _ _ _=>true
 |_=>false
def qgj (o:Oper):Option Nat:=match o.guard,o.op with
 |none,.move (.tmp s)=>some s
 |_,_=>none
def qoX (σ:St) (fl:List qcL) (s:Nat):Bool:=qgO (qt σ s).2&&fl.all (fun f=>f.us.all (fun u=>u.s !=s||(!u.bump&&qgO u.a)))
def qhu:AV→Bool
 |.box _=>true
 |_=>false
def qmA (pins:List Nat) (σ:St) (fl:List qcL) (s:Nat):Bool:=pins.contains s&&(qhu (qt σ s).2&&fl.all (fun f=>f.us.all (fun u=>u.s !=s||qhu u.a)))
def qgy (pins:List Nat) (σ:St) (fl:List qcL):List Oper→List qcL→List qcL
 |o::os,f::fs=>(match qgj o with
  |some s=>if(qoX σ fl s||qmA pins σ fl s)=true then { f with rd:=[] }else f
  |none=>f)::qgy pins σ fl os fs
 |_,_=>[]
def qv5:AV→AV→Bool
 |.pbox s v off,.pbox s' v' off'=>s==s'&&(v==v'&&off==off')
 |.bref s v off u,.bref s' v' off' u'=>s==s'&&(v==v'&&(off==off'&&decide (u=u')))
 |_,_=>false
def qwq:AV→Option Nat
 |.pbox s _ _=>some s
 |.bref s _ _ _=>some s
 |_=>none
def qwb (lk:Nat→Ent) (s:Nat) (a:AV):Nat→Ent:=fun x=>bif x==s then((lk s).1,a)else lk x
def qqz (f:Eff) (g:Option Eff):Bool:=match f.upd,f.chk,g with
 |[u],[],some h=>(match h.upd,h.chk with
  |[u'],[]=>u.s==u'.s&&(u.bump&&(u'.bump&&qv5 u.a u'.a))
  |_,_=>false)
 |_,_,_=>false
def qrV (s:Nat) (σ:St) (fl:List qcL):List AV:=(qt σ s).2::fl.flatMap fun f=>(f.us.filter fun u=>u.s==s).map (·.a)
def qkY (E:Env) (σ0:St) (fl:List qcL) (lk:Nat→Ent) (o:Oper):Option (List Nat):=
 match o.guard with
 |some _=>none
 |none=>match(qdv E none o).run lk with
  |none=>none
  |some f=>match f.upd with
   |[u]=>(match qwq u.a with
    |none=>none
    |some s=>if fl.all (fun f=>f.us.all (fun u=>u.s !=s|| !u.bump))&&(qrV s σ0 fl).all (fun b=>qqz f ((qdv E none o).run (qwb lk s b)))then some ((qrV s σ0 fl).flatMap fun b=>((qdv E none o).log (qwb lk s b)).filter (fun x=>x !=s))else none)
   |_=>none
def qp8 (E:Env) (σ0:St) (fl:List qcL):St→List Oper→List qcL→List qcL
 |σ,o::os,f::fs=>⟨(qkY E σ0 fl (qt σ) o).getD f.rd,f.us⟩::qp8 E σ0 fl (qk σ f.us) os fs
 |_,_,_=>[]
def qiN (E:Env) (σ:St) (os:List Oper) (fl:List qcL):List qcL:=qp8 E σ fl σ os (qgy E.pins σ fl os fl)
def qeM (E:Env) (wr:List Nat) (ops:Array Oper) (draw:Bool) (σ:St):Option (St×List Bool×List Nat):=
 match qbZ E wr ops ops.toList σ [] []with
 |some (σ',c,fs)=>if !draw||qf7 ops.toList (qiN E σ ops.toList fs.reverse) [] []then some (σ',c,fs.flatMap (·.wr))else none
 |none=>none
def qsh (E:Env) (s:Nat) (v:Bool) (g:Option (Nat×Bool)) (o:Oper):Q Eff:=match g with
 |some (s',want)=>if s'=s then(if want=v then qdv E none o else okE (qbp o .undef))else qdv E (some (s',want)) o
 |none=>(match o.op,o.guard with
  |.pick (.tmp c) a b,none=>if c=s then(opd E [] o.type (bif v then a else b)).bind fun x=>qoM E.pins o false x else qdv E none o
  |_,_=>qdv E none o)
def qjI (E:Env) (wr:List Nat) (ops:Array Oper) (s:Nat) (v:Bool):List Oper→St→List Bool→List Nat→Option (St×List Bool×List Nat)
 |[],σ,c,ds=>some (σ,c,ds)
 |o::r,σ,c,ds=>if o.dst=some s then none else match qb3 ops o with
  |none=>none
  |some g=>match(qsh E s v g o).run (qt σ)with
   |none=>none
   |some f=>if f.upd.all (fun u=>wr.contains u.s&&decide (u.s<σ.length))then
     qjI E wr ops s v r (qk σ f.upd) (c++f.chk) (ds++f.upd.map (·.s))
    else none
inductive qeI where
 |val (t:Ty)
 |own (et:Nat) (e:Ty)
 |box (b:qcv)
 |mp (k v:Ty)
 |lsw (et:Nat) (e:Ty)
@[reducible] def qeI.den:qeI→Type
 |.val t=>t.den
 |.own _ e=>List e.den
 |.box b=>b.den
 |.mp k v=>List (k.den×v.den)
 |.lsw _ e=>List e.den
def qeI.un:(s:qeI)→s.den→AV
 |.val t,x=>.val t x
 |.own et e,xs=>.own et e xs
 |.box b,x=>.box (b.un x)
 |.mp k v,xs=>.mp k v xs
 |.lsw et e,xs=>.lsw et e xs none
def BC.toVal:(t:Ty)→BC→Option t.den
 |t,.val u x=>Ty.as (t:=u) t x
 |.pair a b,.pair c d=>match BC.toVal a c,BC.toVal b d with
  |some x,some y=>some (x,y)
  |_,_=>none
 |_,_=>none
def BC.toShape:(b:qcv)→BC→Option b.den
 |.val t,c=>c.toVal t
 |.own et e,.own et' e' xs=>if et=et' then Ty.as (t:= .slice e') (.slice e) xs else none
 |.pair a b,.pair c d=>match BC.toShape a c,BC.toShape b d with
  |some x,some y=>some (x,y)
  |_,_=>none
 |.hole n,.hole m=>if n=m then some ()else none
 |_,_=>none
def AV.toShape:(s:qeI)→AV→Option s.den
 |.val t,.val u x=>Ty.as (t:=u) t x
 |.own et e,.own et' e' xs=>if et=et' then Ty.as (t:= .slice e') (.slice e) xs else none
 |.box b,.box c=>c.toShape b
 |.mp k v,.mp k' v' xs=>if h:k'=k∧v'=v then some (h.1▸h.2▸xs)else none
 |.lsw et e,.lsw et' e' xs _=>if h:et'=et∧e'=e then some (h.2▸xs)else none
 |_,_=>none
structure qib where
 id:Nat
 wr:List Nat
 live:List (Nat×qeI)
structure qsi where
 loops:List qib
 lets:List (Nat×List Nat)
 frz:List (Nat×List Nat)
@[reducible] def liveDen:List (Nat×qeI)→Type
 |[]=>Unit
 |p::r=>p.2.den×liveDen r
def qm3:(l:List (Nat×qeI))→St→Option (liveDen l)
 |[],_=>some ()
 |p::r,σ=>match(qt σ p.1).2.toShape p.2,qm3 r σ with
  |some x,some y=>some (x,y)
  |_,_=>none
def qgr:(l:List (Nat×qeI))→liveDen l→St→St
 |[],_,σ=>σ
 |p::r,x,σ=>qgr r x.2 (σ.set p.1 ((qt σ p.1).1,p.2.un x.1))
def qdw (A:qib) (σ:St) (p:liveDen A.live):St:=
 qgr A.live p (A.wr.foldl (fun σ s=>σ.set s ((qt σ s).1+1,.undef)) σ)
def qqp (σ:St) (s:Nat):Option (AV×Nat):=match(qt σ s).2 with
 |.hol a fo i o1 t v0=>(match a.rowAt fo,qt σ t with
  |some (et,⟨e,xs⟩),(v1,.own et' e' ys)=>if v1=v0∧t≠s∧e.noArr=true∧(etM et).at o1=some et'∧etM et'=[]∧(e.sub (qh xs i e.dflt) o1 (.slice e')).isSome=true then(match e.upd (qh xs i e.dflt) o1 (.slice e') ys with
   |some y=>(match a.swapRow (.own et e (qbh xs i y)) fo with
    |some a'=>some (a',t)
    |none=>none)
   |none=>none)else none
  |_,_=>none)
 |.bhl c o t v0=>(match qt σ t with
  |(v1,.own et e xs)=>if v1=v0∧t≠s then(match c.swap o (.own et e xs)with
   |some c'=>some (.box c',t)
   |none=>none)else none
  |_=>none)
 |_=>none
def qrE (l:List Nat) (σ:St) (s:Nat):St:=match qqp σ s with
 |some (a,t)=>(match l.contains t with
  |true=>qk σ [⟨s,false,a⟩,⟨t,true,.undef⟩]
  |false=>σ)
 |none=>σ
def quq (l:List Nat) (σ:St):St:=l.foldl (qrE l) σ
def qim (l:List Nat) (σ:St):St:=l.foldl (fun σ s=>qX σ ⟨s,false,(qt σ s).2.freeze⟩) σ
def qhM:Code→Option Nat
 |.region id _ _=>some id
 |.seq a b=>(qhM a).orElse fun _=>qhM b
 |.cond _ a b=>(qhM a).orElse fun _=>qhM b
 |.block _ a=>qhM a
 |.loop a=>qhM a
 |_=>none
def calm (ops:Array Oper):Bool:=ops.toList.all fun o=>match o.op with
 |.panic _=>false
 |_=>true
def qnl:Code→Bool
 |.skip=>true
 |.region _ ops _=>calm ops
 |.seq a b=>qnl a&&qnl b
 |.cond _ a b=>qnl a&&qnl b
 |_=>false
def qgM (b:Bool) (x y:AV):AV:=
 match x,y with
 |.val t x,.val u y=>match Ty.as (t:=u) t y with
  |some y=>.val t (bif b then x else y)
  |none=>.undef
 |.own et e xs,.own et' e' ys=>if et=et' then(match Ty.as (t:= .slice e') (.slice e) ys with
  |some ys=>.own et e (bif b then xs else ys)
  |none=>.undef)else .undef
 |.box c,.box d=>match joinB b c d with
  |some r=>.box r
  |none=>.undef
 |.mp k v xs,.mp k' v' ys=>if h:k'=k∧v'=v then .mp k v (bif b then xs else(h.1▸h.2▸ys:List (k.den×v.den)))else .undef
 |.lsw et e xs _,.lsw et' e' ys _=>if h:et'=et∧e'=e then .lsw et e (bif b then xs else(h.2▸ys:List e.den)) none else .undef
 |.nilr et e,.own et' e' ys=>if et=et' then(match Ty.as (t:= .slice e') (.slice e) ys with
  |some ys=>.own et e (bif b then[]else ys)
  |none=>.undef)else .undef
 |.own et e xs,.nilr et' e'=>if et=et'∧e=e' then .own et e (bif b then xs else[])else .undef
 |.nilr et e,.nilr et' e'=>if et=et'∧e=e' then .nilr et e else .undef
 |.nz e xs,.nz e' ys=>(match Ty.as (t:= .slice e') (.slice e) ys with
  |some ys=>.nz e (bif b then xs else ys)
  |none=>.undef)
 |.nz e xs,.val (.slice e') ys=>(match Ty.as (t:= .slice e') (.slice e) ys with
  |some ys=>.val (.slice e) (bif b then xs else ys)
  |none=>.undef)
 |.val (.slice e) xs,.nz e' ys=>(match Ty.as (t:= .slice e') (.slice e) ys with
  |some ys=>.val (.slice e) (bif b then xs else ys)
  |none=>.undef)
 |_,_=>.undef
where
 joinB (b:Bool):BC→BC→Option BC
  |.val t x,.val u y=>match Ty.as (t:=u) t y with
   |some y=>some (.val t (bif b then x else y))
   |none=>none
  |.own et e xs,.own et' e' ys=>if et=et' then(match Ty.as (t:= .slice e') (.slice e) ys with
   |some ys=>some (.own et e (bif b then xs else ys))
   |none=>none)else none
  |.pair a c,.pair a' c'=>match joinB b a a',joinB b c c' with
   |some x,some y=>if a.size=a'.size then some (.pair x y)else none
   |_,_=>none
  |.hole n,.hole m=>if n=m then some (.hole n)else none
  |_,_=>none
def qk4 (b:Bool) (ds:List Nat) (σ σ1 σ2:St):St:=
 ds.foldl (fun τ s=>τ.set s (max (qt σ1 s).1 (qt σ2 s).1+1,qgM b (qt σ1 s).2 (qt σ2 s).2)) σ
def mism (x y:AV):Bool:=
 match x,y with
 |.own _ _ _,.val _ _=>true
 |.mp _ _ _,.val _ _=>true
 |.box c,.box d=>(qgM.joinB true c d).isNone
 |_,_=>false
def qmW (σ1 σ2:St):List Nat→List Nat
 |[]=>[]
 |s::r=>match mism (qt σ1 s).2 (qt σ2 s).2 with
  |true=>s::qmW σ1 σ2 r
  |false=>qmW σ1 σ2 r
def qsm (b:Bool) (ds:List Nat) (σ σ1 σ2:St):St:=qk4 b ds σ (qim (qmW σ1 σ2 ds) σ1) (qim (qmW σ2 σ1 ds) σ2)
def qvx:AV→Bool
 |.hol _ _ _ _ _ _=>true
 |.bhl _ _ _ _=>true
 |_=>false
def qt8 (σ1 σ2:St):List Nat→List Nat
 |[]=>[]
 |s::r=>match qvx (qt σ1 s).2&& !qvx (qt σ2 s).2 with
  |true=>s::qt8 σ1 σ2 r
  |false=>qt8 σ1 σ2 r
def qme (b:Bool) (ds:List Nat) (σ σ1 σ2:St):St:=match qt8 σ1 σ2 ds,qt8 σ2 σ1 ds with
 |[],[]=>qsm b ds σ σ1 σ2
 |l1,l2=>qsm b ds σ (l1.foldl (qrE ds) σ1) (l2.foldl (qrE ds) σ2)
def AV.refit (s:qeI) (a:AV):AV:=match s,a with
 |.box b,.box c=>(match c.fit b with
  |some x=>.box (b.un x)
  |none=>(AV.box c).freeze)
 |_,a=>a.freeze
def fix1 (p:Nat×qeI) (σ:St):St:=match((qt σ p.1).2.toShape p.2).isNone with
 |true=>qX σ ⟨p.1,false,(qt σ p.1).2.refit p.2⟩
 |false=>σ
def qqs (wr:List Nat):List (Nat×qeI)→St→St
 |[],σ=>σ
 |p::r,σ=>qqs wr r (fix1 p (qrE wr σ p.1))
def qvO:List Bool→Bool
 |[]=>true
 |[a]=>a
 |a::r=>a&&qvO r
def ql7 (b:Bool) (c d:List Bool):List Bool:=match c,d with
 |[],[]=>[]
 |c,d=>[bif b then qvO c else qvO d]
def andThen {R:Type}(c:List Bool) (r:Option R):Option R:=match c with
 |[]=>r
 |c=>bif qvO c then r else none
def qcn:List (Nat×List Nat)→Option Nat→List Nat
 |_,none=>[]
 |[],_=>[]
 |(i,l)::r,some j=>match decEq i j with
  |isTrue _=>l
  |isFalse _=>qcn r (some j)
def qmf (σ:St) (s:Nat):St:=match(qt σ s).2 with
 |.box (.val t x)=>qX σ ⟨s,true,.view t x 0⟩
 |_=>σ
def qlo (l:List Nat) (σ:St):St:=l.foldl qmf σ
def qic (E:Env) (wr:List Nat) (ops:Array Oper) (i:Nat) (σ:St):Option (St×List Bool×List Nat):=
 match qbZ E wr ops (ops.toList.take i) σ [] []with
 |none=>none
 |some (σ1,c1,fs)=>match(ops[i]?).bind (qb3 ops)with
  |some (some (s,_))=>(match(qt σ1 s).2 with
   |.val .bool b=>(match qjI E wr ops s true (ops.toList.drop i) σ1 [] [],qjI E wr ops s false (ops.toList.drop i) σ1 [] []with
    |some (σT,cT,dT),some (σF,cF,dF)=>some (qme b (dT++dF) σ1 σT σF,c1++ql7 b cT cF,fs.flatMap (·.wr)++(dT++dF))
    |_,_=>none)
   |_=>none)
  |_=>none
def qkE (E:Env) (wr:List Nat) (ops:Array Oper) (s:Nat) (v:Bool):List Oper→St→List Bool→List qcL→Option (St×List Bool×List qcL)
 |[],σ,c,fs=>some (σ,c,fs)
 |o::r,σ,c,fs=>if o.dst=some s then none else match qb3 ops o with
  |none=>none
  |some g=>match(qsh E s v g o).run (qt σ)with
   |none=>none
   |some f=>if f.upd.all (fun u=>wr.contains u.s&&decide (u.s<σ.length))then
     qkE E wr ops s v r (qk σ f.upd) (c++f.chk) (⟨(qsh E s v g o).log (qt σ),f.upd⟩::fs)
    else none
def qmh (n:Nat):Nat→List Oper→Bool
 |_,[]=>true
 |k,o::r=>(qbP o).all (fun j=>decide (j<k))&&((k==0||(qbP o).any (fun e=>decide (min k n≤e+1)))&&qmh n (k+1) r)
def qpO (n:Nat):List qcL:=List.replicate n ⟨[],[]⟩
def qgz (E:Env) (wr:List Nat) (ops:Array Oper) (i:Nat) (σ:St):Option (St×List Bool×List Nat):=
 match qbZ E wr ops (ops.toList.take i) σ [] []with
 |none=>none
 |some (σ1,c1,fs)=>match(ops[i]?).bind (qb3 ops)with
  |some (some (s,_))=>(match(qt σ1 s).2 with
   |.val .bool b=>(match qkE E wr ops s true (ops.toList.drop i) σ1 [] [],qkE E wr ops s false (ops.toList.drop i) σ1 [] []with
    |some (σT,cT,fT),some (σF,cF,fF)=>if qmh i 0 ops.toList&&(qf7 ops.toList (qpO i++fT.reverse) [] []&&qf7 ops.toList (qpO i++fF.reverse) [] [])then some (qme b (fT.flatMap (·.wr)++fF.flatMap (·.wr)) σ1 σT σF,c1++ql7 b cT cF,fs.flatMap (·.wr)++(fT.flatMap (·.wr)++fF.flatMap (·.wr)))else none
    |_,_=>none)
   |_=>none)
  |_=>none
def qj9 (E:Env) (wr:List Nat) (sp:List Nat) (ops:Array Oper) (d:Bool) (σ:St):Option (St×List Bool×List Nat):=
 match sp,d with
 |[],d=>qeM E wr ops d σ
 |i::_,false=>qic E wr ops i σ
 |i::_,true=>qgz E wr ops i σ
def regE (E:Env) (frz:List (Nat×List Nat)) (wr:List Nat) (id:Nat) (ops:Array Oper) (d:Bool) (σ:St):Option (St×List Bool×List Nat):=
 match qcn frz (some (id+3000000000))++qcn frz (some id)with
 |[]=>qj9 E wr (qcn frz (some (id+4000000000))) ops d σ
 |fz=>if fz.all wr.contains&&(qcn frz (some (id+2000000000))).all fz.contains then(match qj9 E wr (qcn frz (some (id+4000000000))) ops d (qlo (qcn frz (some (id+2000000000))) (qim (qcn frz (some id)) (quq (qcn frz (some (id+3000000000))) σ)))with
  |some (σ',c,ds)=>some (σ',c,fz++ds)
  |none=>none)else none
def qr8 (E:Env) (frz:List (Nat×List Nat)) (wr:List Nat):Code→St→Option (St×List Bool×List Nat)
 |.skip,σ=>some (σ,[],[])
 |.region id ops d,σ=>regE E frz wr id ops d σ
 |.seq a b,σ=>match qr8 E frz wr a σ with
  |some (σ1,c1,d1)=>match qr8 E frz wr b σ1 with
   |some (σ2,c2,d2)=>some (σ2,c1++c2,d1++d2)
   |none=>none
  |none=>none
 |.cond c a b,σ=>match Q.run (qt σ) ((opd E [] 0 c).bind qmM)with
  |some ⟨.bool,x,_⟩=>match qr8 E frz wr a σ,qr8 E frz wr b σ with
   |some (σ1,c1,d1),some (σ2,c2,d2)=>some (qme x (d1++d2) σ σ1 σ2,ql7 x c1 c2,d1++d2)
   |_,_=>none
  |_=>none
 |_,_=>none
structure K (R:Type) where
 n:St→Option R
 e:Nat→St→Option R
 r:St→Option R
def qf2 {R:Type}:List Nat→St→(St→Option R)→Option R
 |[],σ,k=>k σ
 |s::r,σ,k=>match qt σ s with
  |(v,.val t x)=>qW x fun y=>qf2 r (σ.set s (v,.val t y)) k
  |(v,.own et e xs)=>qW xs fun ys=>qf2 r (σ.set s (v,.own et e ys)) k
  |(v,.box (.val t x))=>qW x fun y=>qf2 r (σ.set s (v,.box (.val t y))) k
  |_=>qf2 r σ k
def qwk (c:Operand) (σ:St):Option (Bool×Bool):=match c with
 |.tmp t=>(match(qt σ t).2 with
  |.amb w m=>some (w,m)
  |_=>none)
 |_=>none
structure ItH where
 it:Nat
 tn:Nat
 tok:Nat
def qvJ:Code→Option ItH
 |.seq (.region _ ops false) _=>(match ops.toList with
  |[o1,o2]=>(match o1.guard,o1.dst,o1.op,o2.guard,o2.dst,o2.op with
   |none,some tn,.next (.tmp it) false,none,some tok,.extract (.tmp tn') 0=>if tn'=tn∧tn≠tok∧it≠tn∧it≠tok then some ⟨it,tn,tok⟩else none
   |_,_,_,_,_,_=>none)
  |_=>none)
 |_=>none
def itS (I:ItH) (A:qib) (σ:St) (p:liveDen A.live) (av:AV) (b:Bool):St:=
 qk (qdw { A with wr:=I.it::A.wr } σ p) [⟨I.it,true,av⟩,⟨I.tn,true,.undef⟩,⟨I.tok,true,.val .bool b⟩]
def itOk (I:ItH) (A:qib) (wr:List Nat):Bool:=
 A.wr.all wr.contains&&A.live.all (fun p=>A.wr.contains p.1)&&qiS (A.live.map (·.1))&&(A.wr.contains I.tn&&(A.wr.contains I.tok&&(!A.wr.contains I.it&&wr.contains I.it)))
def qm4 (E:Env) (N:Nat) (anns:qsi) {R:Type}:Code→List Nat→St→K R→Option R
 |.skip,_,σ,k=>k.n σ
 |.region id ops d,wr,σ,k=>qf2 (qcn anns.lets (some id)) σ fun σ=>match regE E anns.frz wr id ops d σ with
  |some (σ',c,_)=>andThen c (k.n σ')
  |none=>none
 |.seq a b,wr,σ,k=>qm4 E N anns a wr σ { k with n:=fun σ'=>qm4 E N anns b wr σ' k }
 |.cond c a b,wr,σ,k=>qf2 (qcn anns.lets ((qhM (.cond c a b)).map (· +1000000))) σ fun σ=>match qwk c σ with
  |some (w,m)=>bif m then qqy (qm4 E N anns a wr σ k) (qm4 E N anns b wr σ k)else(match w with
   |true=>qm4 E N anns b wr σ k
   |false=>qm4 E N anns a wr σ k)
  |none=>match Q.run (qt σ) ((opd E [] 0 c).bind qmM)with
  |some ⟨.bool,x,_⟩=>
   if qnl a&&qnl b then(match qr8 E anns.frz wr (.cond c a b) σ with
    |some (σ',ch,_)=>andThen ch (k.n σ')
    |none=>none)
   else bif x then qm4 E N anns a wr σ k else qm4 E N anns b wr σ k
  |_=>none
 |.block id a,wr,σ,k=>qm4 E N anns a wr σ { k with e:=fun i σ'=>if i=id then k.n σ' else k.e i σ' }
 |.exit id,_,σ,k=>k.e id σ
 |.ret,_,σ,k=>k.r σ
 |.loop a,wr,σ,k=>match(qhM a).bind (fun id=>anns.loops.find? (fun A=>A.id==id))with
  |some A=>(match qvJ a with
  |some I=>(match qt σ I.it with
   |(_,.itr kt vt rem _)=>(match a with
    |.seq _ b=>if itOk I A wr=true∧I.it<σ.length∧I.tn<σ.length∧I.tok<σ.length then(match qm3 A.live (qqs A.wr A.live σ)with
     |some p=>mapF (fun ih e rem' p=>qm4 E N anns b A.wr (itS I A σ p (.itr kt vt rem' (some e)) true) { k with n:=fun σ'=>match qm3 A.live (qqs A.wr A.live σ')with
      |some q=>ih q
      |none=>none }) (fun p=>qm4 E N anns b A.wr (itS I A σ p (.itr kt vt [] none) false) { k with n:=fun _=>none }) rem p
     |none=>none)else none
    |_=>none)
   |_=>none)
  |none=>if A.wr.all wr.contains&&A.live.all (fun p=>A.wr.contains p.1)&&qiS (A.live.map (·.1))then(match qm3 A.live (qqs A.wr A.live σ)with
    |some p=>qaf N (fun ih p=>qm4 E N anns a A.wr (qdw A σ p) { k with n:=fun σ'=>match qm3 A.live (qqs A.wr A.live σ')with
     |some q=>ih q
     |none=>none }) p
    |none=>none)else none)
  |none=>none
 |_,_,_,_=>none
def qeJ (pin:List Nat) (l:List Oper):Bool:=l.all fun o=>apart o.dst.toList pin
def qit (pin:List Nat):Code→Bool
 |.region _ ops _=>qeJ pin ops.toList
 |.seq a b=>qit pin a&&qit pin b
 |.cond _ a b=>qit pin a&&qit pin b
 |.block _ a=>qit pin a
 |.loop a=>qit pin a
 |.skip=>true
 |.exit _=>true
 |.ret=>true
 |_=>false
def qbv:List PM→Nat→List Nat
 |[],_=>[]
 |.io _::r,k=>k::qbv r (k+1)
 |.val _::r,k=>qbv r (k+1)
 |.own _ _::r,k=>qbv r (k+1)
 |.fn _ _::r,k=>qbv r (k+1)
 |.nil _ _::r,k=>qbv r (k+1)
 |.lsw _ _::r,k=>k::qbv r (k+1)
 |.rd _::r,k=>qbv r (k+1)
 |.ior _ _::r,k=>k::qbv r (k+1)
 |.iob _::r,k=>k::qbv r (k+1)
def qct:List PM→Nat→List Nat
 |[],_=>[]
 |.io _::r,k=>k::qct r (k+1)
 |.val _::r,k=>qct r (k+1)
 |.own _ _::r,k=>qct r (k+1)
 |.fn _ _::r,k=>qct r (k+1)
 |.nil _ _::r,k=>qct r (k+1)
 |.lsw _ _::r,k=>qct r (k+1)
 |.rd _::r,k=>qct r (k+1)
 |.ior _ _::r,k=>qct r (k+1)
 |.iob _::r,k=>k::qct r (k+1)
def qch:List PM→Nat→List Nat
 |[],_=>[]
 |.ior _ _::r,k=>k::qch r (k+1)
 |.iob _::r,k=>k::qch r (k+1)
 |.io _::r,k=>qch r (k+1)
 |.val _::r,k=>qch r (k+1)
 |.own _ _::r,k=>qch r (k+1)
 |.fn _ _::r,k=>qch r (k+1)
 |.nil _ _::r,k=>qch r (k+1)
 |.lsw _ _::r,k=>k::qch r (k+1)
 |.rd _::r,k=>qch r (k+1)
def qvQ:(p:PM)→p.den→AV
 |.val t,x=>.val t x
 |.own et e,xs=>.own et e xs
 |.io t,x=>.box (.val t x)
 |.fn ps rs,φ=>.fnv ps rs φ
 |.nil et e,_=>.nilr et e
 |.rd t,x=>.view t x 0
 |.ior et e,xs=>.own et e xs
 |.iob b,x=>.box (b.un x)
 |.lsw et e,x=>.lsw et e x.1 (some x.2)
def qbT:(ps:List PM)→PMs.den ps→St
 |[],_=>[]
 |p::ps,x=>(0,qvQ p x.1)::qbT ps x.2
def qfN (fn:Func) (ps:List PM) (x:PMs.den ps):St:=qbT ps x++List.replicate (fn.ntmps-ps.length) (0,.undef)
def qkX (E:Env) (r:RM) (v:ResultVar):Q (r.den×List Nat):=
 match r,v with
 |.val u,.cell a t=>.get a fun en=>match en.2 with
  |.box c=>if E.ty t=some u∧c.size=u.size then(match c.get 0 u with
   |some (x,f)=>.ret (x,if f then[a]else[])
   |none=>.fail)else .fail
  |_=>.fail
 |.val t,.tmp s=>.get s fun en=>toVal t ⟨some s,en.1,en.2⟩
 |.own et e,.tmp s=>.get s fun en=>match en.2 with
  |.own et' e' xs=>if et=et' then(match Ty.as (t:= .slice e') (.slice e) xs with
   |some xs=>.ret (xs,[s])
   |none=>.fail)else .fail
  |.ref s' v=>.get s' fun en=>if en.1=v then(match en.2 with
   |.own et' e' xs=>if et=et' then(match Ty.as (t:= .slice e') (.slice e) xs with
    |some xs=>.ret (xs,[s'])
    |none=>.fail)else .fail
   |_=>.fail)else .fail
  |_=>.fail
 |.nz e,.tmp s=>.get s fun en=>match en.2 with
  |.nilr _ _=>.ret ([],[])
  |.nz e' xs=>(match Ty.as (t:= .slice e') (.slice e) xs with
   |some xs=>.ret (xs,[])
   |none=>.fail)
  |.val (.slice e') xs=>(match Ty.as (t:= .slice e') (.slice e) xs with
   |some xs=>.ret (xs,[])
   |none=>.fail)
  |_=>.fail
 |.agg b,.tmp s=>.get s fun en=>match en.2 with
  |.agg c=>(match c.toShape b with
   |some x=>.ret (x,[s])
   |none=>.fail)
  |_=>.fail
 |.agg b,.cell a t=>.get a fun en=>match en.2 with
  |.box c=>(match E.ty t,c.toShape b with
   |some u,some x=>if c.size=u.size∧u.agg=true then .ret (x,[a])else .fail
   |_,_=>.fail)
  |_=>.fail
 |_,_=>.fail
def nzC:List RM→List ResultVar→Q (List Bool)
 |.nz _::rs,.tmp s::vs=>.get s fun en=>match en.2 with
  |.val (.slice _) xs=>(nzC rs vs).bind fun l=>.ret (neI (qs xs) 0::l)
  |_=>nzC rs vs
 |_::rs,_::vs=>nzC rs vs
 |_,_=>.ret []
def qiP (E:Env):(rs:List RM)→List ResultVar→Q (RMs.den rs×List Nat×List Nat)
 |[],[]=>.ret ((),[],[])
 |r::rs,v::vs=>(qkX E r v).bind fun x=>(qiP E rs vs).bind fun q=>match r with
  |.own _ _=>.ret ((x.1,q.1),x.2++q.2.1,q.2.2)
  |.val _=>.ret ((x.1,q.1),q.2.1,x.2++q.2.2)
  |.nz _=>.ret ((x.1,q.1),q.2.1,q.2.2)
  |.agg _=>.ret ((x.1,q.1),x.2++q.2.1,q.2.2)
 |_,_=>.fail
def qfS:(ps:List PM)→Nat→Q (PMs.ioDen ps)
 |[],_=>.ret ()
 |.io t::ps,s=>.get s fun en=>match en.2 with
  |.box c=>match(if c.size=t.size then c.get 0 t else none)with
   |some (x,_)=>(qfS ps (s+1)).bind fun r=>.ret (x,r)
   |none=>.fail
  |_=>.fail
 |.val _::ps,s=>qfS ps (s+1)
 |.own _ _::ps,s=>qfS ps (s+1)
 |.fn _ _::ps,s=>qfS ps (s+1)
 |.nil _ _::ps,s=>qfS ps (s+1)
 |.rd _::ps,s=>qfS ps (s+1)
 |.iob b::ps,s=>.get s fun en=>match en.2 with
  |.box c=>(match c.fit b with
   |some x=>(qfS ps (s+1)).bind fun r=>.ret (x,r)
   |none=>.fail)
  |_=>.fail
 |.lsw et e::ps,s=>.get s fun en=>match en.2 with
  |.lsw et' e' xs _=>if h:et'=et∧e'=e then(qfS ps (s+1)).bind fun r=>.ret (h.2▸xs,r)else .fail
  |_=>.fail
 |.ior et e::ps,s=>.get s fun en=>match en.2 with
  |.own et' e' xs=>if et=et'∧etM et=[]then(match Ty.as (t:= .slice e') (.slice e) xs with
   |some x=>(qfS ps (s+1)).bind fun r=>.ret (x,r)
   |none=>.fail)else .fail
  |_=>.fail
def qpd (E:Env) (fn:Func) (ps:List PM) (rs:List RM) (σ:St):Option (RMs.den rs×PMs.ioDen ps):=
 match(qiP E rs fn.results.toList).run (qt σ),(qfS ps 0).run (qt σ),(nzC rs fn.results.toList).run (qt σ)with
 |some (y,gone,ow),some z,some c=>if qiS gone&&apart ow gone&&apart (gone++ow) (qch ps 0)&&apart gone (qbv ps 0)then andThen c (some (y,z))else none
 |_,_,_=>none
def kFin (E:Env) (fn:Func) (ps:List PM) (rs:List RM):K (RMs.den rs×PMs.ioDen ps):=
 { n:=qpd E fn ps rs,e:=fun _ _=>none,r:=qpd E fn ps rs }
def Env.at (E:Env) (anns:qsi) (ps:List PM) (rs:List RM):Env:=
 { E with pins:=qct ps 0,rf:=qcn anns.frz (some 1000000007),nzr:=rs.any (fun r=>match r with|.nz _=>true|_=>false),msk:=qcn anns.frz (some 1000000008),tk:=qcn anns.frz (some 1000000009),zero:=fun t=>(E.zero t).map (BC.remask (qcn anns.frz (some 1000000008))) }
def lsOne:List PM→Bool
 |[]=>true
 |_::r=>r.all fun p=>match p with
  |.lsw _ _=>false
  |_=>true
def runF (E:Env) (N:Nat) (anns:qsi) (fn:Func) (ps:List PM) (rs:List RM) (x:PMs.den ps):Option (RMs.den rs×PMs.ioDen ps):=
 match fn.body with
 |some c=>if qit (qbv ps 0) c&&decide (ps.length≤fn.ntmps)&&lsOne ps then qm4 (E.at anns ps rs) N anns c (List.range fn.ntmps) (qfN fn ps x) (kFin E fn ps rs)else none
 |none=>none
end
end Go.Vi
namespace Go.Vi
theorem qL (b off n:Nat):(⟨b,off,none⟩:Addr).add n=⟨b,off+n,none⟩:=by
 unfold Addr.add;split
 ·subst_vars;rfl
 ·rfl
theorem qbj (a:Addr) (i j:Nat):(a.add i).add j=a.add (i+j):=by
 unfold Addr.add;by_cases hi:i=0<;>by_cases hj:j=0<;>simp[hi,hj,Nat.add_assoc]
theorem qam (a:Addr) (n:Nat):(a.add n).block=a.block:=by unfold Addr.add;split<;>rfl
def qfL (w:World) (a:Addr) (cs:List Value):Prop:=∀j u,cs[j]? =some u→w.cell? (a.add j)=some u
def qes {α:Type}(w:World) (F:Nat→Prop) (R:α→List Value→Prop) (sz:Nat) (xs:List α) (v:Value):Prop:=
 (v=.slice none 0 0∧xs=[])∨
 ∃a cap,v=.slice (some a) xs.length cap∧xs.length≤cap∧cap≤maxLen∧
  ∀i x,xs[i]? =some x→F a.block∧a.block<w.heap.size∧∃cs,qfL w (a.add (i*sz)) cs∧R x cs
def qtK {α:Type}(w:World) (F:Nat→Prop) (R:α→List Value→Prop) (x:Option α) (v:Value):Prop:=
 (x=none∧v=.pointer none)∨∃y a cs,x=some y∧v=.pointer (some a)∧F a.block∧a.block<w.heap.size∧qfL w a cs∧R y cs
def keyV:(k:Ty)→k.den→Value
 |.int kk,n=>.int kk n
 |.bool,b=>.bool b
 |.str,s=>.string ⟨(s:List UInt8).toArray⟩
 |_,_=>undef
def Ty.key:Ty→Bool
 |.int _=>true
 |.bool=>true
 |.str=>true
 |_=>false
def Ty.keyOk:(k:Ty)→k.den→Prop
 |.int kk,n=>kk.has n
 |.str,s=>List.length (α:=UInt8) s≤maxLen
 |_,_=>True
def qpC (w:World) (k:Ty) {β:Type}(R:β→Value→Prop) (xs:List (k.den×β)) (b:Nat):Prop:=
 ∃(es:Array MapEntry) (clock:Nat),w.heap[b]? =some (.map es clock)∧es.size=xs.length∧k.key=true∧(∀(i j:Nat) (e e':MapEntry),i<j→es[i]? =some e→es[j]? =some e'→e.born<e'.born)∧(∀(i:Nat) (e:MapEntry),es[i]? =some e→e.born<clock)∧((∀p∈xs,k.keyOk p.1)∧(xs.map (·.1)).Nodup)∧
  ∀(i:Nat) (e:MapEntry) (p:k.den×β),es[i]? =some e→xs[i]? =some p→e.key=keyV k p.1∧R p.2 e.val
theorem qpC.keep {w w':World}{k:Ty}{β:Type}{R R':β→Value→Prop}{xs:List (k.den×β)}{b:Nat}(hb:w'.heap[b]? =w.heap[b]?) (hR:∀x v,R x v→R' x v) (h:qpC w k R xs b):qpC w' k R' xs b:=by
 obtain⟨es,clock,h1,h2,h3,h4,h5,hk,h6⟩:=h;exact⟨es,clock,hb.trans h1,h2,h3,h4,h5,hk,fun i e p hi hp=>⟨(h6 i e p hi hp).1,hR _ _ (h6 i e p hi hp).2⟩⟩
def qne (w:World) (k:Ty) {β:Type}(R:β→Value→Prop) (xs:List (k.den×β)) (b:Nat):Prop:=∃ys:List (k.den×β),ys.Perm xs∧qpC w k R ys b
theorem qne.keep {w w':World}{k:Ty}{β:Type}{R R':β→Value→Prop}{xs:List (k.den×β)}{b:Nat}(hb:w'.heap[b]? =w.heap[b]?) (hR:∀x v,R x v→R' x v) (h:qne w k R xs b):qne w' k R' xs b:=by
 obtain⟨ys,h1,h2⟩:=h;exact⟨ys,h1,h2.keep hb hR⟩
def Rep (w:World) (F:Nat→Prop):(t:Ty)→t.den→List Value→Prop
 |.int k,n,cs=>cs=[.int k n]∧k.has n
 |.bool,b,cs=>cs=[.bool b]
 |.str,s,cs=>cs=[.string ⟨s.toArray⟩]∧s.length≤maxLen
 |.unit,_,cs=>cs=[]
 |.pair a b,x,cs=>∃c1 c2,cs=c1++c2∧Rep w F a x.1 c1∧Rep w F b x.2 c2
 |.slice e,xs,cs=>∃v,cs=[v]∧qes w F (Rep w F e) e.size xs v
 |.opt e,x,cs=>∃v,cs=[v]∧qtK w F (Rep w F e) x v
 |.map k t,xs,cs=>∃v,cs=[v]∧((v=.map none∧xs=[])∨∃b,v=.map (some b)∧F b∧b<w.heap.size∧qne w k (fun x v=>Rep w F t x v.cells.toList∧(t.agg=true→∃cs,v=.agg cs)∧(t.agg=false→∀cs,v≠ .agg cs)) xs b)
 |.err,b,cs=>∃v,cs=[v]∧((b=true∧v=.nilIface)∨(b=false∧∃t x,v=.iface t x))
 |.arr n e,xs,cs=>xs.length=n∧∃css:List (List Value),css.length=n∧cs=css.flatten∧∀(i:Nat) (x:e.den) (c:List Value),xs[i]? =some x→css[i]? =some c→Rep w F e x c
theorem qeV {css:List (List Value)}{sz:Nat}(h:∀c∈css,c.length=sz):css.flatten.length=css.length*sz:=by
 induction css with
 |nil=>simp
 |cons c r ih=>
  rw[zaX,zag,h c (by simp),ih (fun c hc=>h c (by simp[hc])),zba,zbc,Nat.one_mul,Nat.add_comm]
theorem Rep.length {w:World}{F:Nat→Prop}: {t:Ty}→{x:t.den}→{cs:List Value}→Rep w F t x cs→cs.length=t.size
 |.int _,_,_,h=>by rw[h.1];rfl
 |.bool,_,_,h=>by rw[show _=_ from h];rfl
 |.str,_,_,h=>by rw[h.1];rfl
 |.unit,_,_,h=>by rw[show _=_ from h];rfl
 |.pair a b,_,_,⟨c1,c2,hc,h1,h2⟩=>by rw[hc,zag,h1.length,h2.length];rfl
 |.slice _,_,_,⟨v,hc,_⟩=>by rw[hc];rfl
 |.err,_,_,⟨v,hc,_⟩=>by rw[hc];rfl
 |.opt _,_,_,⟨v,hc,_⟩=>by rw[hc];rfl
 |.map _ _,_,_,⟨v,hc,_⟩=>by rw[hc];rfl
 |.arr n e,xs,_,⟨hl,css,hcl,hc,hx⟩=>by
  rw[hc,qeV (sz:=e.size),hcl]
  ·rfl
  ·intro c hm;obtain⟨i,hi,rfl⟩:=zaw hm;have hix:i<xs.length:=by omega
   exact(hx i xs[i] css[i] (zaa hix) (zaa hi)).length
theorem Rep.keep {w w':World}{F F':Nat→Prop}(hF:∀b,F b→b<w.heap.size→F' b∧b<w'.heap.size∧w'.heap[b]? =w.heap[b]?):
  {t:Ty}→{x:t.den}→{cs:List Value}→Rep w F t x cs→Rep w' F' t x cs
 |.int _,_,_,h=>h
 |.bool,_,_,h=>h
 |.str,_,_,h=>h
 |.err,_,_,h=>h
 |.unit,_,_,h=>h
 |.map k t,xs,_,⟨v,hc,h⟩=>⟨v,hc,by
   rcases h with h|⟨b,h1,h2,h3,h4⟩
   ·exact .inl h
   ·obtain⟨g1,g2,g3⟩:=hF _ h2 h3;exact .inr ⟨b,h1,g1,g2,h4.keep g3 fun x v h=>⟨h.1.keep hF,h.2⟩⟩⟩
 |.opt e,x,_,⟨v,hc,h⟩=>⟨v,hc,by
   rcases h with h|⟨y,a,cs,h1,h2,h3,h4,h5,h6⟩
   ·exact .inl h
   ·obtain⟨g1,g2,g3⟩:=hF _ h3 h4;exact .inr ⟨y,a,cs,h1,h2,g1,g2,fun j u hu=>by
     rw[←h5 j u hu];exact World.cell?_of_block (by rw[qam];exact g3),h6.keep hF⟩⟩
 |.pair a b,_,_,⟨c1,c2,hc,h1,h2⟩=>⟨c1,c2,hc,h1.keep hF,h2.keep hF⟩
 |.slice e,xs,_,⟨v,hc,h⟩=>⟨v,hc,by
   rcases h with h|⟨a,cap,hv,hl,hm,hx⟩
   ·exact .inl h
   ·refine .inr ⟨a,cap,hv,hl,hm,fun i x hi=>?_⟩;obtain⟨h1,h2,cs,h3,h4⟩:=hx i x hi;obtain⟨g1,g2,g3⟩:=hF _ h1 h2;refine⟨g1,g2,cs,fun j u hu=>?_,h4.keep hF⟩;rw[←h3 j u hu];exact World.cell?_of_block (by rw[qam,qam];exact g3)⟩
 |.arr n e,xs,_,⟨hl,css,hcl,hc,hx⟩=>⟨hl,css,hcl,hc,fun i x c hi hci=>(hx i x c hi hci).keep hF⟩
theorem Rep.flat {w w':World}{F F':Nat→Prop}: {t:Ty}→{x:t.den}→{cs:List Value}→t.flat=true→Rep w F t x cs→Rep w' F' t x cs
 |.int _,_,_,_,h=>h
 |.bool,_,_,_,h=>h
 |.str,_,_,_,h=>h
 |.err,_,_,_,h=>h
 |.unit,_,_,_,h=>h
 |.pair a b,_,_,hf,⟨c1,c2,hc,h1,h2⟩=>by
  have hf:a.flat=true∧b.flat=true:=by simpa[Ty.flat]using hf
  exact⟨c1,c2,hc,h1.flat hf.1,h2.flat hf.2⟩
 |.slice _,_,_,hf,_=>by simp[Ty.flat]at hf
 |.opt _,_,_,hf,_=>by simp[Ty.flat]at hf
 |.map _ _,_,_,hf,_=>by simp[Ty.flat]at hf
 |.arr n e,xs,_,hf,⟨hl,css,hcl,hc,hx⟩=>⟨hl,css,hcl,hc,fun i x c hi hci=>(hx i x c hi hci).flat hf⟩
theorem Ty.ye {t u:Ty}{x:t.den}{y:u.den}(h:Ty.as u x=some y):∃e:t=u,e▸x=y:=by
 unfold Ty.as at h;split at h
 ·rename_i e;exact⟨e,by injection h⟩
 ·cases h
theorem Rep.as {w:World}{F:Nat→Prop}{t u:Ty}{x:t.den}{y:u.den}{cs:List Value}(h:Ty.as u x=some y) (hr:Rep w F t x cs):Rep w F u y cs:=by
 obtain⟨rfl,rfl⟩:=Ty.ye h;exact hr
theorem qbO {css:List (List Value)}{sz i:Nat}{c:List Value}(h:∀c∈css,c.length=sz) (hi:css[i]? =some c):
  (css.flatten.drop (i*sz)).take sz=c∧i*sz+sz≤css.flatten.length:=by
 induction css generalizing i with
 |nil=>simp at hi
 |cons d r ih=>
  have hd:d.length=sz:=h d (by simp);cases i with
  |zero=>
   simp at hi;subst hi;simp[hd]
  |succ i=>
   simp at hi;have:=ih (fun c hc=>h c (by simp[hc])) hi;rw[zaX,zbc,Nat.one_mul];refine⟨?_,?_⟩
   ·rw[show i*sz+sz=d.length+i*sz from by omega,List.drop_append];simp only[za1 (show d.length≤d.length+i*sz by omega),List.nil_append,show d.length+i*sz-d.length=i*sz by omega];exact this.1
   ·rw[zag,hd];omega
theorem qcz {c1 c2:List Value}{off n:Nat}(h:off+n≤c1.length):((c1++c2).drop off).take n=(c1.drop off).take n:=by
 rw[List.drop_append,List.take_append];simp only[zap];rw[show n-(c1.length-off)=0 by omega];simp
theorem qck {c1 c2:List Value}{off n:Nat}(h:c1.length≤off):((c1++c2).drop off).take n=(c2.drop (off-c1.length)).take n:=by
 rw[List.drop_append,za1 h,List.nil_append]
theorem qeO {α:Type}{xs:List α}{i:Int}{d x:α}(h:xs[i.toNat]? =some x):qh xs i d=x:=by simp[qil,List.getD,h]
theorem Ty.yf {t u:Ty}{x:t.den}{off:Nat}{y:u.den}(h:Ty.whole u x off=some y):off=0∧Ty.as u x=some y:=by
 unfold Ty.whole at h;split at h
 ·exact⟨by assumption,h⟩
 ·cases h
theorem Ty.yi (t:Ty) (x:t.den):Ty.whole (t:=t) t x 0=some x:=by simp[Ty.whole,Ty.as]
theorem Ty.yu:(t:Ty)→(x:t.den)→t.sub x 0 t=some x
 |.int k,x=>Ty.yi (.int k) x
 |.bool,x=>Ty.yi .bool x
 |.str,x=>Ty.yi .str x
 |.unit,x=>Ty.yi .unit x
 |.slice e,x=>Ty.yi (.slice e) x
 |.err,x=>Ty.yi .err x
 |.opt e,x=>Ty.yi (.opt e) x
 |.map k v,x=>Ty.yi (.map k v) x
 |.pair a b,x=>by simp only[Ty.sub,Ty.yi]
 |.arr n e,x=>by simp only[Ty.sub,Ty.yi]
theorem Rep.whole {w:World}{F:Nat→Prop}{t u:Ty}{x:t.den}{off:Nat}{y:u.den}{cs:List Value}(hr:Rep w F t x cs) (h:Ty.whole u x off=some y):
  off+u.size≤cs.length∧Rep w F u y ((cs.drop off).take u.size):=by
 obtain⟨rfl,h⟩:=Ty.yf h;have hr:=Rep.as h hr;have:=hr.length;exact⟨by omega,by rw[zbe,zas (by omega)];exact hr⟩
theorem qrj {α:Type}{xs:List α}{k n:Nat}(hk:k<n) (hl:xs.length=n) (d:α):qh xs (Int.ofNat k) d=xs[k]'(by omega):=by
 have:xs[(Int.ofNat k).toNat]? =some (xs[k]'(by omega)):=by
  rw[show(Int.ofNat k).toNat=k from rfl];exact zaa (by omega)
 exact qeO this
theorem qlr {w:World}{F:Nat→Prop}{e:Ty}{xs:List e.den}{css:List (List Value)}(hl:xs.length=css.length)
  (hx:∀(i:Nat) (x:e.den) (c:List Value),xs[i]? =some x→css[i]? =some c→Rep w F e x c):∀c∈css,c.length=e.size:=by
 intro c hm;obtain⟨i,hi,rfl⟩:=zaw hm;exact(hx i (xs[i]'(by omega)) css[i] (zaa (by omega)) (zaa hi)).length
theorem Rep.sub {w:World}{F:Nat→Prop}: {t:Ty}→{x:t.den}→{cs:List Value}→{off:Nat}→{u:Ty}→{y:u.den}→Rep w F t x cs→t.sub x off u=some y→
  off+u.size≤cs.length∧Rep w F u y ((cs.drop off).take u.size)
 |.int _,_,_,_,_,_,h,hs=>h.whole hs
 |.bool,_,_,_,_,_,h,hs=>h.whole hs
 |.str,_,_,_,_,_,h,hs=>h.whole hs
 |.unit,_,_,_,_,_,h,hs=>h.whole hs
 |.slice e,_,_,_,_,_,h,hs=>h.whole hs
 |.err,_,_,_,_,_,h,hs=>Rep.whole (t:= .err) h hs
 |.opt e,_,_,_,_,_,h,hs=>Rep.whole (t:= .opt e) h hs
 |.map k v,_,_,_,_,_,h,hs=>Rep.whole (t:= .map k v) h hs
 |.pair a b,x,cs,off,u,y,h,hs=>by
  simp only[Ty.sub]at hs;cases hz:Ty.whole (t:= .pair a b) u x off with
  |some z=>
   rw[hz]at hs;injection hs with hs;subst hs;exact Rep.whole h hz
  |none=>
   rw[hz]at hs;obtain⟨c1,c2,rfl,h1,h2⟩:=h;simp only at hs;split at hs
   ·obtain⟨g1,g2⟩:=h1.sub hs;exact⟨by rw[zag];omega,by rw[qcz g1];exact g2⟩
   ·obtain⟨g1,g2⟩:=h2.sub hs;have hl:=h1.length;exact⟨by rw[zag];omega,by rw[qck (by omega),hl];exact g2⟩
 |.arr n e,xs,cs,off,u,y,h,hs=>by
  simp only[Ty.sub]at hs;cases hz:Ty.whole (t:= .arr n e) u xs off with
  |some z=>
   rw[hz]at hs;injection hs with hs;subst hs;exact Rep.whole h hz
  |none=>
   rw[hz]at hs;simp only at hs;split at hs
   ·rename_i hlt;obtain⟨hl,css,hcl,rfl,hx⟩:=h;have hpos:0<e.size:=by
     rcases Nat.eq_zero_or_pos e.size with h0|h0
     ·rw[h0,Nat.mul_zero]at hlt;omega
     ·exact h0
    have hidx:off/e.size<n:=by rw[Nat.div_lt_iff_lt_mul hpos];exact hlt
    rw[qrj hidx hl]at hs;have hc:css[off/e.size]? =some (css[off/e.size]'(by omega)):=zaa (by omega);have hre:=hx (off/e.size) _ _ (zaa (by omega)) hc;obtain⟨g1,g2⟩:=hre.sub hs;have hall:=qlr (by omega) hx;obtain⟨k1,k2⟩:=qbO hall hc;have hdm:off=off/e.size*e.size+off%e.size:=by rw[Nat.mul_comm];exact(Nat.div_add_mod off e.size).symm
    have hcl':(css[off/e.size]'(by omega)).length=e.size:=hall _ (zau _);rw[hcl']at g1;refine⟨by omega,?_⟩;have:(css.flatten.drop off).take u.size=(((css.flatten.drop (off/e.size*e.size)).take e.size).drop (off%e.size)).take u.size:=by
     rw[List.drop_take,List.drop_drop,List.take_take,←hdm,Nat.min_eq_left (by omega)]
    rw[this,k1];exact g2
   ·cases hs
theorem qlj {c1 c2 ds:List Value}{off n:Nat}(h:off+n≤c1.length) (hd:ds.length=n):
  (c1++c2).take off++ds++(c1++c2).drop (off+n)=(c1.take off++ds++c1.drop (off+n))++c2:=by
 rw[zaG (by omega),List.drop_append_of_le_length (by omega)];simp[zaC]
theorem qjF {c1 c2 ds:List Value}{off n:Nat}(h:c1.length≤off):
  (c1++c2).take off++ds++(c1++c2).drop (off+n)=c1++(c2.take (off-c1.length)++ds++c2.drop (off-c1.length+n)):=by
 rw[List.take_append,List.drop_append,zas h,za1 (by omega)];simp only[List.nil_append,zaC];rw[show off+n-c1.length=off-c1.length+n by omega]
theorem qtL {l ds:List Value}{q r n sz:Nat}(h:q+sz≤l.length) (hn:r+n≤sz) (hd:ds.length=n):
  l.take (q+r)++ds++l.drop (q+r+n)=l.take q++(((l.drop q).take sz).take r++ds++((l.drop q).take sz).drop (r+n))++l.drop (q+sz):=by
 have hA:(l.take q).length=q:=by rw[zaf];omega
 have hB:((l.drop q).take sz).length=sz:=by rw[zaf,zap];omega
 have hl:l=l.take q++((l.drop q).take sz++l.drop (q+sz)):=by
  rw[←List.drop_drop,zaK,zaK]
 have e1:= @qjF (l.take q) ((l.drop q).take sz++l.drop (q+sz)) ds (q+r) n (by omega);have e2:= @qlj ((l.drop q).take sz) (l.drop (q+sz)) ds r n (by omega) hd;rw[←hl,hA,show q+r-q=r by omega,e2]at e1;rw[e1];simp[zaC]
theorem Rep.putWhole {w:World}{F:Nat→Prop}{t u:Ty}{x:t.den}{off:Nat}{y:u.den}{z:t.den}{cs ds:List Value}(hr:Rep w F t x cs) (hy:Rep w F u y ds) (h:Ty.whole (t:=u) t y off=some z):
  off+u.size≤cs.length∧Rep w F t z (cs.take off++ds++cs.drop (off+u.size)):=by
 obtain⟨rfl,h⟩:=Ty.yf h;obtain⟨rfl,rfl⟩:=Ty.ye h;have:=hr.length;exact⟨by omega,by rw[List.take_zero,List.nil_append,za1 (by omega),zar];exact hy⟩
theorem qlR {css:List (List Value)}{sz i:Nat}{d:List Value}(h:∀c∈css,c.length=sz) (hi:i<css.length):
  (css.set i d).flatten=css.flatten.take (i*sz)++d++css.flatten.drop (i*sz+sz):=by
 induction css generalizing i with
 |nil=>simp at hi
 |cons c r ih=>
  have hc:c.length=sz:=h c (by simp);cases i with
  |zero=>simp[hc]
  |succ i=>
   rw[List.set_cons_succ,zaX,ih (fun c hc=>h c (by simp[hc])) (by simpa using hi),zaX];rw[show(i+1)*sz=c.length+i*sz by rw[zbc];omega,List.take_append,List.drop_append];simp only[zas (show c.length≤c.length+i*sz by omega),za1 (show c.length≤c.length+i*sz+sz by omega),zaC,List.nil_append];rw[show c.length+i*sz-c.length=i*sz by omega,show c.length+i*sz+sz-c.length=i*sz+sz by omega]
theorem Rep.upd {w:World}{F:Nat→Prop}: {t:Ty}→{x:t.den}→{cs:List Value}→{off:Nat}→{u:Ty}→{y:u.den}→{z:t.den}→{ds:List Value}→Rep w F t x cs→Rep w F u y ds→t.upd x off u y=some z→
  off+u.size≤cs.length∧Rep w F t z (cs.take off++ds++cs.drop (off+u.size))
 |.int _,_,_,_,_,_,_,_,h,hy,hs=>h.putWhole hy hs
 |.bool,_,_,_,_,_,_,_,h,hy,hs=>h.putWhole hy hs
 |.str,_,_,_,_,_,_,_,h,hy,hs=>h.putWhole hy hs
 |.unit,_,_,_,_,_,_,_,h,hy,hs=>h.putWhole hy hs
 |.slice e,_,_,_,_,_,_,_,h,hy,hs=>h.putWhole hy hs
 |.err,_,_,_,_,_,_,_,h,hy,hs=>Rep.putWhole (t:= .err) h hy hs
 |.opt e,_,_,_,_,_,_,_,h,hy,hs=>Rep.putWhole (t:= .opt e) h hy hs
 |.map k v,_,_,_,_,_,_,_,h,hy,hs=>Rep.putWhole (t:= .map k v) h hy hs
 |.pair a b,x,cs,off,u,y,z,ds,h,hy,hs=>by
  simp only[Ty.upd]at hs;cases hz:Ty.whole (t:=u) (.pair a b) y off with
  |some z'=>
   rw[hz]at hs;injection hs with hs;subst hs;exact Rep.putWhole h hy hz
  |none=>
   rw[hz]at hs;obtain⟨c1,c2,rfl,h1,h2⟩:=h;simp only at hs;have hdl:=hy.length;split at hs
   ·split at hs
    ·rename_i z' hz';injection hs with hs;subst hs;obtain⟨g1,g2⟩:=h1.upd hy hz';exact⟨by rw[zag];omega,_,c2,qlj g1 hdl,g2,h2⟩
    ·cases hs
   ·split at hs
    ·rename_i z' hz';injection hs with hs;subst hs;obtain⟨g1,g2⟩:=h2.upd hy hz';have hl:=h1.length;rw[←hl]at g1 g2;exact⟨by rw[zag];omega,c1,_,qjF (by omega),h1,g2⟩
    ·cases hs
 |.arr n e,xs,cs,off,u,y,z,ds,h,hy,hs=>by
  simp only[Ty.upd]at hs;cases hz:Ty.whole (t:=u) (.arr n e) y off with
  |some z'=>
   rw[hz]at hs;injection hs with hs;subst hs;exact Rep.putWhole h hy hz
  |none=>
   rw[hz]at hs;simp only at hs;split at hs
   ·rename_i hlt;split at hs
    ·rename_i z' hz';injection hs with hs;subst hs;obtain⟨hl,css,hcl,rfl,hx⟩:=h;have hpos:0<e.size:=by
      rcases Nat.eq_zero_or_pos e.size with h0|h0
      ·rw[h0,Nat.mul_zero]at hlt;omega
      ·exact h0
     have hidx:off/e.size<n:=by rw[Nat.div_lt_iff_lt_mul hpos];exact hlt
     rw[qrj hidx hl]at hz';have hc:css[off/e.size]? =some (css[off/e.size]'(by omega)):=zaa (by omega);have hre:=hx (off/e.size) _ _ (zaa (by omega)) hc;obtain⟨g1,g2⟩:=hre.upd hy hz';have hall:=qlr (by omega) hx;obtain⟨k1,k2⟩:=qbO hall hc;have hdm:off=off/e.size*e.size+off%e.size:=by rw[Nat.mul_comm];exact(Nat.div_add_mod off e.size).symm
     have hcl':(css[off/e.size]'(by omega)).length=e.size:=hall _ (zau _);rw[hcl']at g1;have hdl:=hy.length;refine⟨by omega,by simp[qbL,hl],css.set (off/e.size) ((css[off/e.size]'(by omega)).take (off%e.size)++ds++(css[off/e.size]'(by omega)).drop (off%e.size+u.size)),by simp[hcl],?_,?_⟩
     ·rw[qlR hall (by omega)];have:=qtL (l:=css.flatten) (ds:=ds) (q:=off/e.size*e.size) (r:=off%e.size) (n:=u.size) (sz:=e.size) k2 (by omega) hdl;rw[←hdm,k1]at this;exact this
     ·intro i x' c' hi hc';simp only[qbL]at hi;rw[show(Int.ofNat (off/e.size)).toNat=off/e.size from rfl]at hi;by_cases he:off/e.size=i
      ·subst he;rw[List.getElem?_set_self (by omega)]at hi hc';injection hi with hi;injection hc' with hc';subst hi;subst hc';exact g2
      ·rw[List.getElem?_set_ne he]at hi hc';exact hx i x' c' hi hc'
    ·cases hs
   ·cases hs
end Go.Vi
namespace Go.Vi
open Go.RowKit
def qau (w:World) (F:Nat→Prop) (t:Ty) (x:t.den) (v:Value):Prop:=
 Rep w F t x v.cells.toList∧(t.agg=true→∃cs,v=.agg cs)∧(t.agg=false→∀cs,v≠ .agg cs)
def qar (w:World) (F:Nat→Prop) (et:Nat) (e:Ty) (xs:List e.den) (v:Value) (bs:List Nat):Prop:=
 ∃cells,w.ownsRow 0 et e.size v xs.length cells∧bs=v.ownBlock.toList∧∀(i:Nat) (x:e.den),xs[i]? =some x→Rep w F e x ((cells.drop (i*e.size)).take e.size)
def qcd (w:World) (F:Nat→Prop) (et:Nat) (e:Ty) (xs:List e.den) (v:Value) (bs:List Nat):Prop:=etM et=[]∧qar w F et e xs v bs
def qcP (w:World) (F:Nat→Prop):BC→List Value→List Nat→Prop
 |.val t x,cs,bs=>bs=[]∧Rep w F t x cs
 |.own et e xs,cs,bs=>∃v,cs=[v]∧qar w F et e xs v bs
 |.pair a b,cs,bs=>∃c1 c2 b1 b2,cs=c1++c2∧bs=b1++b2∧qcP w F a c1 b1∧qcP w F b c2 b2
 |.hole n,cs,bs=>bs=[]∧cs.length=n
def qoP (hl:Int×Nat×Nat) (j:Nat):Nat×Nat:=if hl.1=(j:Int)then hl.2 else(0,0)
def qho (w:World) (F:Nat→Prop) (et:Nat) (e:Ty) (hl:Int×Nat×Nat) (xs:List e.den) (v:Value) (bs:List Nat):Prop:=
 ∃(cells:List Value) (bss:List (List Nat)),w.ownsRow 0 (etB et) e.size v xs.length cells∧bss.length=xs.length∧bs=v.ownBlock.toList++bss.flatten∧
  ∀(i:Nat) (x:e.den) (b:List Nat),xs[i]? =some x→bss[i]? =some b→qcP w F (bcM (etM et) (qoP hl i) e x 0) ((cells.drop (i*e.size)).take e.size) b
def q8 (w:World) (F:Nat→Prop) (et:Nat) (e:Ty) (xs:List e.den) (v:Value) (bs:List Nat):Prop:=qho w F et e (-1,0,0) xs v bs
def qaD (w:World) (F:Nat→Prop):BC→List Value→List Nat→Prop
 |.val t x,cs,bs=>bs=[]∧Rep w F t x cs
 |.own et e xs,cs,bs=>∃v,cs=[v]∧q8 w F et e xs v bs
 |.pair a b,cs,bs=>∃c1 c2 b1 b2,cs=c1++c2∧bs=b1++b2∧qaD w F a c1 b1∧qaD w F b c2 b2
 |.hole n,cs,bs=>bs=[]∧cs.length=n
def qp5 (w:World) (F:Nat→Prop):qoH→Value→List Nat→Prop
 |.val t x,v,bs=>bs=[]∧qau w F t x v
 |.own et e xs,v,bs=>q8 w F et e xs v bs
 |.gone,_,bs=>bs=[]
 |.nz e xs,v,bs=>bs=[]∧qau w F (.slice e) xs v∧(xs=[]→v=.slice none 0 0)
 |.agg c,v,bs=>∃cs:List Value,v=.agg cs.toArray∧qaD w F c cs bs
def qa3 (w:World) (F:Nat→Prop):List qoH→List Value→List Nat→Prop
 |[],vs,bs=>vs=[]∧bs=[]
 |c::cs,vs,bs=>∃v r b1 b2,vs=v::r∧bs=b1++b2∧qp5 w F c v b1∧qa3 w F cs r b2
def qe9 (w:World) (F:Nat→Prop):(ts:List Ty)→denL ts→List Value→Prop
 |[],_,vs=>vs=[]
 |t::ts,x,vs=>∃v r,vs=v::r∧qau w F t x.1 v∧qe9 w F ts x.2 r
def qfD:List Value→Value
 |[v]=>v
 |vs=>.tuple vs.toArray
structure qbc (O:Nat→Prop) (w w':World):Prop where
 os:w'.os=w.os
 tape:w'.tape=w.tape
 output:w'.output=w.output
 size:w.heap.size≤w'.heap.size
 block:∀k,k<w.heap.size→¬O k→w'.heap[k]? =w.heap[k]?
theorem qdc (w:World) (o:Obj) (k:Nat) (h:k<w.heap.size):(w.alloc o).heap[k]? =w.heap[k]? :=by
 show(w.heap.push o)[k]? =_;rw[Array.getElem?_push_lt h,zaF h]
theorem qbc.refl (O:Nat→Prop) (w:World):qbc O w w:=⟨rfl,rfl,rfl,zay _,fun _ _ _=>rfl⟩
theorem qbc.trans {O:Nat→Prop}{a b c:World}(h:qbc O a b) (k:qbc O b c):qbc O a c:=
 ⟨k.os.trans h.os,k.tape.trans h.tape,k.output.trans h.output,Nat.le_trans h.size k.size,fun i hi ho=>(k.block i (zaE hi h.size) ho).trans (h.block i hi ho)⟩
theorem qbc.mono {O O':Nat→Prop}{a b:World}(h:qbc O a b) (hO:∀k,O k→O' k):qbc O' a b:=⟨h.os,h.tape,h.output,h.size,fun k hk ho=>h.block k hk fun h'=>ho (hO k h')⟩
theorem qbc.alloc (O:Nat→Prop) (w:World) (o:Obj):qbc O w (w.alloc o):=⟨rfl,rfl,rfl,by simp,fun k hk _=>qdc w o k hk⟩
theorem qbc.drew {O:Nat→Prop}{a b:World}(h:qbc O a b):qbc O a b.drew:=⟨h.os,h.tape,h.output,h.size,h.block⟩
theorem qbc.yw {w w':World}{row:Option Nat}(h:w.grownBy w' row):qbc (fun k=>some k=row) w w':=⟨h.os,h.tape,h.output,h.size,fun k hk ho=>h.block k hk ho⟩
def qn7 (P:Program) (w:World) (F:Nat→Prop) (ps rs:List Ty) (φ:denL ps→Option (denL rs)) (v:Value):Prop:=
 ∃(f:Nat) (caps:Array Value),v=.func (.func f) #[] caps∧(∀as w',(callFunc f as).run P w'=.ok (.enter f as) w')∧
  ∀(w':World) (F':Nat→Prop) (x:denL ps) (y:denL rs) (as:List Value),
   (∀b,F b→b<w.heap.size→F' b∧b<w'.heap.size∧w'.heap[b]? =w.heap[b]?)→qe9 w' F' ps x as→φ x=some y→
   Calls P f (as.toArray++caps) w' fun e w''=>∃vs,e=.returned (qfD vs)∧qe9 w'' (fun b=>F' b∨w'.heap.size≤b) rs y vs∧qbc (fun _=>False) w' w''
structure Pn where
 f:Nat→Option Nat
 ls:Value
instance:CoeFun Pn (fun _=>Nat→Option Nat):=⟨Pn.f⟩
def qeb (v:Value):Value:=match v with
 |.agg cs=>(match cs[1]? with
  |some (Value.func _ _ caps)=>(match caps[0]? with
   |some h=>h
   |none=>.slice none 0 0)
  |_=>.slice none 0 0)
 |_=>.slice none 0 0
def lsC:Nat→Value→Value
 |0,v=>v
 |k+1,.agg cs=>cs.getD k undef
 |_,_=>undef
def qjL (P:Program) (w:World) (F:Nat→Prop) (et:Nat) (e:Ty) (φ:List e.den→Int→Int→Option Bool) (v:Value):Prop:=
 ∃(f:Nat) (caps:Array Value) (f2:Nat) (caps2:Array Value),v=.agg #[.func (.func f) #[] caps,.func (.func f2) #[] caps2]∧(∀as w',(callFunc f as).run P w'=.ok (.enter f as) w')∧
  ∀(w':World) (F':Nat→Prop) (xs:List e.den),
   (∀b,F b→b<w.heap.size→F' b∧b<w'.heap.size∧w'.heap[b]? =w.heap[b]?)→qcd w' F' et e xs (qeb v) (qeb v).ownBlock.toList→(∀b∈(qeb v).ownBlock.toList,¬F' b)→
   (∀i j r,φ xs i j=some r→Calls P f (#[.int .i64 i,.int .i64 j]++caps) w' fun ev w''=>ev=.returned (.bool r)∧qbc (fun _=>False) w' w'')∧
   (∀i j,inB i (qs xs)=true→inB j (qs xs)=true→∃w'',(callFunc f2 (#[.int .i64 i,.int .i64 j]++caps2)).run P w'=.ok (.value (.tuple #[])) w''∧
    qbc (fun b=>b∈(qeb v).ownBlock.toList) w' w''∧qcd w'' F' et e (qmO xs i j) (qeb v) (qeb v).ownBlock.toList)
theorem qjL.keep {P:Program}{w w':World}{F F':Nat→Prop}(hF:∀b,F b→b<w.heap.size→F' b∧b<w'.heap.size∧w'.heap[b]? =w.heap[b]?) {et:Nat}{e:Ty}{φ:List e.den→Int→Int→Option Bool}{v:Value}
  (h:qjL P w F et e φ v):qjL P w' F' et e φ v:=by
 obtain⟨f,caps,f2,caps2,hv,hc,h⟩:=h;refine⟨f,caps,f2,caps2,hv,hc,fun w2 F2 xs hk hr hn=>h w2 F2 xs (fun b hb hs=>?_) hr hn⟩;obtain⟨h1,h2,h3⟩:=hF b hb hs;obtain⟨g1,g2,g3⟩:=hk b h1 h2;exact⟨g1,g2,g3.trans h3⟩
structure Sit where
 P:Program
 ver:Nat→Nat
 tm:Nat→Value
 w:World
 F:Nat→Prop
 own:Nat→List Nat
 pn:Pn
def ptr (b off:Nat):Value:= .pointer (some ⟨b,off,none⟩)
def qc6 (X:Sit) (s:Nat) (fo:Option Nat) (v:Value):Prop:=
 match fo with
 |none=>X.tm s=v
 |some o=>∃b,b∈X.own s∧X.tm s=ptr b 0∧X.w.cell? ⟨b,o,none⟩=some v
def quO (w:World) (b off:Nat) (u:Ty) (v:Value):Prop:=
 (u.agg=true∧∃cs:List Value,v=.agg cs.toArray∧cs.length=u.size∧qfL w ⟨b,off,none⟩ cs)∨(u.agg=false∧w.cell? ⟨b,off,none⟩=some v)
def qf9 (w:World) (F:Nat→Prop) (k t:Ty) (xs:List (k.den×t.den)) (v:Value) (bs:List Nat):Prop:=
 ∃b:Nat,v=.map (some b)∧bs=[b]∧qpC w k (qau w F t) xs b
theorem qf9.keep {w w':World}{F F':Nat→Prop}(hF:∀b,F b→b<w.heap.size→F' b∧b<w'.heap.size∧w'.heap[b]? =w.heap[b]?) {k t:Ty}{xs:List (k.den×t.den)}{v:Value}{bs:List Nat}
  (hb:∀b∈bs,b<w.heap.size→w'.heap[b]? =w.heap[b]?) (h:qf9 w F k t xs v bs):qf9 w' F' k t xs v bs:=by
 obtain⟨b,h1,h2,h3⟩:=h;refine⟨b,h1,h2,h3.keep ?_ fun x v h=>⟨h.1.keep hF,h.2⟩⟩;obtain⟨es,clock,h4,_⟩:=h3;exact hb b (by rw[h2];simp) (zav.1 h4).1
def qvn (w:World) (F:Nat→Prop) (k t:Ty) (e:MapEntry) (p:k.den×t.den):Prop:=e.key=keyV k p.1∧k.key=true∧k.keyOk p.1∧qau w F t p.2 e.val
def qcp (es:Array MapEntry) (seen:Array Nat):Array MapEntry:=es.filter fun e=> !seen.contains e.born
def qeK (w:World) (F:Nat→Prop) (k t:Ty) (rem:List (k.den×t.den)) (cur:Option (k.den×t.den)) (b:Nat):Prop:=
 (∃x s y,w.heap[b]? =some (.mapIter none x s y)∧rem=[]∧cur=none)∨
 ∃(bm:Nat) (es:Array MapEntry) (clock since c0:Nat) (seen:Array Nat),w.heap[b]? =some (.mapIter (some bm) since seen c0)∧F bm∧bm<w.heap.size∧w.heap[bm]? =some (.map es clock)∧(∀(i j:Nat) (e e':MapEntry),i<j→es[i]? =some e→es[j]? =some e'→e.born<e'.born)∧(∀(i:Nat) (e:MapEntry),es[i]? =some e→e.born<since)∧since≤c0∧since≤clock∧
  (∃ys:List (k.den×t.den),ys.Perm rem∧(qcp es seen).size=ys.length∧(∀(i:Nat) (e:MapEntry) (p:k.den×t.den),(qcp es seen)[i]? =some e→ys[i]? =some p→qvn w F k t e p))∧
  ∀p,cur=some p→∃e,e∈es.toList∧seen.back?=some e.born∧c0=clock∧qvn w F k t e p
theorem qeK.keep {w w':World}{F F':Nat→Prop}(hF:∀b,F b→b<w.heap.size→F' b∧b<w'.heap.size∧w'.heap[b]? =w.heap[b]?) {k t:Ty}{rem:List (k.den×t.den)}{cur:Option (k.den×t.den)}{b:Nat}
  (hb:w'.heap[b]? =w.heap[b]?) (h:qeK w F k t rem cur b):qeK w' F' k t rem cur b:=by
 rcases h with⟨x,s,y,h1,h2⟩|⟨bm,es,clock,since,c0,seen,h1,h2,h3,h4,h5,h6,h7,h8,⟨ys,h9a,h9,h10⟩,h11⟩
 ·exact .inl ⟨x,s,y,hb.trans h1,h2⟩
 ·obtain⟨g1,g2,g3⟩:=hF bm h2 h3;refine .inr ⟨bm,es,clock,since,c0,seen,hb.trans h1,g1,g2,g3.trans h4,h5,h6,h7,h8,⟨ys,h9a,h9,fun i e p hi hp=>?_⟩,fun p hp=>?_⟩
  ·obtain⟨q1,k1,k2,q2⟩:=h10 i e p hi hp;exact⟨q1,k1,k2,q2.1.keep hF,q2.2⟩
  ·obtain⟨e,q1,q2,q2',q3,k1,k2,q4⟩:=h11 p hp;exact⟨e,q1,q2,q2',q3,k1,k2,q4.1.keep hF,q4.2⟩
def Fill (w:World) (F:Nat→Prop) (c:BC) (o:Nat) (hv:Value) (cs:List Value) (b1 b3:List Nat):Prop:=
 ∀ {w':World}{F':Nat→Prop}(n c':BC) (b2':List Nat),(∀b,F b→b<w.heap.size→F' b∧b<w'.heap.size∧w'.heap[b]? =w.heap[b]?)→
  (∀b,b∈b1∨b∈b3→b<w.heap.size→w'.heap[b]? =w.heap[b]?)→c.swap o n=some c'→qaD w' F' n [hv] b2'→qaD w' F' c' cs (b1++(b2'++b3))
def qnf (X:Sit) (a:AV) (fo:Option Nat) (i:Int) (o1 t v0:Nat) (v:Value) (bs:List Nat):Prop:=
 ∃(et:Nat) (e:Ty) (xs:List e.den) (g n cap:Nat) (b2:List Nat),a.rowAt fo=some (et,⟨e,xs⟩)∧0≤i∧i<(n:Int)∧qho X.w X.F et e (i,o1,o1+1) xs (.slice (some ⟨g,0,none⟩) n cap) b2∧
  (X.ver t=v0→X.w.cell? ⟨g,i.toNat*e.size+o1,none⟩=some (X.tm t))∧
  match a,fo with
  |.own _ _ _,none=>v=.slice (some ⟨g,0,none⟩) n cap∧bs=b2
  |.box c,some o=>∃(b:Nat) (cs:List Value) (te:Nat) (b1 b3:List Nat),v=ptr b 0∧X.w.heap[b]? =some (.cells cs.toArray te (0,0))∧cs[o]? =some (.slice (some ⟨g,0,none⟩) n cap)∧Fill X.w X.F c o (.slice (some ⟨g,0,none⟩) n cap) cs b1 b3∧bs=b::(b1++(b2++b3))
  |_,_=>False
def qpn (X:Sit) (c:BC) (o t v0:Nat) (v:Value) (bs:List Nat):Prop:=
 ∃(b:Nat) (cs:List Value) (te:Nat) (b1 b3:List Nat) (hv:Value),v=ptr b 0∧X.w.heap[b]? =some (.cells cs.toArray te (0,0))∧cs[o]? =some hv∧Fill X.w X.F c o hv cs b1 b3∧bs=b::(b1++b3)∧(X.ver t=v0→X.tm t=hv)
def qax (X:Sit):AV→Value→List Nat→Prop
 |.undef,_,_=>True
 |.val t x,v,bs=>bs=[]∧qau X.w X.F t x v
 |.own et e xs,v,bs=>q8 X.w X.F et e xs v bs
 |.agg c,v,bs=>∃cs:List Value,v=.agg cs.toArray∧qaD X.w X.F c cs bs
 |.box c,v,bs=>∃(b:Nat) (cs:List Value) (bs':List Nat) (te:Nat),v=ptr b 0∧X.w.heap[b]? =some (.cells cs.toArray te (0,0))∧qaD X.w X.F c cs bs'∧bs=b::bs'
 |.ref s v0,v,bs=>bs=[]∧(X.ver s=v0→X.tm s=v)
 |.bref s v0 off u,v,bs=>bs=[]∧(X.ver s=v0→∃b,b∈X.own s∧X.tm s=ptr b 0∧quO X.w b off u v)
 |.pbox s v0 off,v,bs=>bs=[]∧(X.ver s=v0→∃b,X.tm s=ptr b 0∧v=ptr b off)
 |.pip k off,v,bs=>bs=[]∧∃b,X.pn k=some b∧v=ptr b off
 |.prow s v0 fo sz i off,v,bs=>bs=[]∧(X.ver s=v0→∃g n cap,qc6 X s fo (.slice (some ⟨g,0,none⟩) n cap)∧0≤i∧i<(n:Int)∧v=ptr g (i.toNat*sz+off))
 |.osl s v0 fo sz lo hi,v,bs=>bs=[]∧(X.ver s=v0→∃ad n cap,qc6 X s fo (.slice ad n cap)∧0≤lo∧lo≤hi∧hi≤(n:Int)∧v=sliced ad lo.toNat hi.toNat cap sz)
 |.view t x off,v,bs=>bs=[]∧∃(a:Addr) (cs:List Value),v=.pointer (some (a.add off))∧X.F a.block∧a.block<X.w.heap.size∧qfL X.w a cs∧Rep X.w X.F t x cs
 |.tup cs,v,bs=>∃vs:List Value,v=.tuple vs.toArray∧qa3 X.w X.F cs vs bs
 |.grd s v0 want a,v,bs=>bs=[]∧(X.ver s=v0→(X.tm s=.bool want→qax X a v [])∧(X.tm s≠ .bool want→v=undef))
 |.fn f caps,v,bs=>bs=[]∧∃vs:List Value,v=.func (.func f) #[] vs.toArray∧qa3 X.w X.F caps vs []
 |.fnv ps rs φ,v,bs=>bs=[]∧qn7 X.P X.w X.F ps rs φ v
 |.nilr _ _,v,bs=>bs=[]∧v=.slice none 0 0
 |.nz e xs,v,bs=>bs=[]∧qau X.w X.F (.slice e) xs v∧(xs=[]→v=.slice none 0 0)
 |.mp k t xs,v,bs=>qf9 X.w X.F k t xs v bs
 |.itr k t rem cur,v,bs=>∃b,v=ptr b 0∧bs=[b]∧qeK X.w X.F k t rem cur b
 |.hol a fo i o1 t v0,v,bs=>qnf X a fo i o1 t v0 v bs
 |.bhl c o t v0,v,bs=>qpn X c o t v0 v bs
 |.lsw et e xs φ,v,bs=>v=X.pn.ls∧qcd X.w X.F et e xs (qeb v) bs∧∀ψ,φ=some ψ→qjL X.P X.w X.F et e ψ v
 |.lsv et e k φ,v,bs=>bs=[]∧v=lsC k X.pn.ls∧qjL X.P X.w X.F et e φ X.pn.ls
 |.lsz et e k φ,v,bs=>bs=[]∧qjL X.P X.w X.F et e φ X.pn.ls∧∃(b:Nat) (cs:Array Value) (te:Nat),v=ptr b k∧X.F b∧b<X.w.heap.size∧X.w.heap[b]? =some (.cells cs te (0,0))∧X.pn.ls=.agg cs
 |.amb w m,v,bs=>bs=[]∧∃b,v=.bool b∧(b=w→m=true)
 |.parr s v0 off n e i o2,v,bs=>bs=[]∧0≤i∧i<(n:Int)∧(match v0 with
  |some v0=>X.ver s=v0→∃b,X.tm s=ptr b 0∧v=ptr b (off+i.toNat*e.size+o2)
  |none=>∃b,X.pn s=some b∧v=ptr b (off+i.toNat*e.size+o2))
def qen (T:qpF) (w:World) (F:Nat→Prop):Prop:=∀g r,T g=some r→F g∧g<w.heap.size∧∃(cs:List Value) (te:Nat) (fz:Nat×Nat),w.heap[g]? =some (.cells cs.toArray te fz)∧Rep w F r.1 r.2 cs
theorem qen.none {w:World}{F:Nat→Prop}:qen (fun _=>none) w F:=fun _ _ h=>by cases h
structure Ctx where
 P:Program
 w0:World
 O:Nat→Prop
 G:Nat→Prop
 pn:Pn
 T:qpF
 hT:qen T w0 fun b=>G b∧¬O b
class Tabbed (E:Env) (C:Ctx):Prop where
 eq:E.tabs=C.T
def Ctx.base (C:Ctx) (b:Nat):Prop:=C.G b∨C.O b∨C.w0.heap.size≤b
def Ctx.free (C:Ctx) (w:World) (own:Nat→List Nat) (b:Nat):Prop:=C.base b∧b<w.heap.size∧∀s,b∉own s
structure qac (C:Ctx) (σ:St) (tm:Array Value) (w:World) (own:Nat→List Nat):Prop where
 size:tm.size=σ.length
 kept:qbc C.O C.w0 w
 mine:∀s b,b∈own s→(C.O b∨C.w0.heap.size≤b)∧b<w.heap.size
 nodup:∀s,(own s).Nodup
 apart:∀s s' b,b∈own s→b∈own s'→s=s'
 outside:∀s,σ.length≤s→own s=[]
 rep:∀s,s<σ.length→qax { P:=C.P,ver:=fun s=>(qt σ s).1,tm:=fun s=>tm.getD s undef,w,F:=C.free w own,own,pn:=C.pn } (qt σ s).2 (tm.getD s undef) (own s)
 wf:∀s,∀m∈(qt σ s).2.mentions,m.2≤(qt σ m.1).1
theorem qen.keep {T:qpF}{w w':World}{F F':Nat→Prop}(hF:∀b,F b→b<w.heap.size→F' b∧b<w'.heap.size∧w'.heap[b]? =w.heap[b]?) (h:qen T w F):qen T w' F':=fun g r hr=>by
 obtain⟨h1,h2,cs,te,fz,h3,h4⟩:=h g r hr;obtain⟨g1,g2,g3⟩:=hF g h1 h2;exact⟨g1,g2,cs,te,fz,by rw[g3];exact h3,h4.keep hF⟩
theorem qr6 {T:qpF}{w:World}{F:Nat→Prop}(h:qen T w F) {g:Nat}{r:(t:Ty)×t.den}(hr:T g=some r):F g∧g<w.heap.size∧∃cs:List Value,qfL w ⟨g,0,none⟩ cs∧Rep w F r.1 r.2 cs:=by
 obtain⟨h1,h2,cs,te,fz,h3,h4⟩:=h g r hr;refine⟨h1,h2,cs,fun j u hj=>?_,h4⟩;have:(⟨g,0,none⟩:Addr).add j=⟨g,j,none⟩:=by simp[Addr.add];exact fun h=>h.symm
 rw[this];simp[World.cell?,h3];simpa using hj
theorem qac.tabs {C:Ctx}{σ:St}{tm:Array Value}{w:World}{own:Nat→List Nat}(h:qac C σ tm w own):qen C.T w (C.free w own):=
 C.hT.keep fun b hb hlt=>⟨⟨.inl hb.1,zaE hlt h.kept.size,fun s hs=>by
  rcases(h.mine s b hs).1 with ho|ho
  ·exact hb.2 ho
  ·omega⟩,zaE hlt h.kept.size,h.kept.block b hlt hb.2⟩
theorem qac.tabsE {C:Ctx}{E:Env} [tb:Tabbed E C] {σ:St}{tm:Array Value}{w:World}{own:Nat→List Nat}(h:qac C σ tm w own):qen E.tabs w (C.free w own):=by
 rw[tb.eq];exact h.tabs
theorem qau.keep {w w':World}{F F':Nat→Prop}(hF:∀b,F b→b<w.heap.size→F' b∧b<w'.heap.size∧w'.heap[b]? =w.heap[b]?) {t:Ty}{x:t.den}{v:Value}(h:qau w F t x v):qau w' F' t x v:=
 ⟨h.1.keep hF,h.2⟩
theorem qar.keep {w w':World}{F F':Nat→Prop}(hF:∀b,F b→b<w.heap.size→F' b∧b<w'.heap.size∧w'.heap[b]? =w.heap[b]?) {et:Nat}{e:Ty}{xs:List e.den}{v:Value}{bs:List Nat}
  (hb:∀b∈bs,b<w.heap.size→w'.heap[b]? =w.heap[b]?) (h:qar w F et e xs v bs):qar w' F' et e xs v bs:=by
 obtain⟨cells,ho,hbs,hx⟩:=h;refine⟨cells,⟨ho.1,?_⟩,hbs,fun i x hi=>(hx i x hi).keep hF⟩;rcases ho.2 with h|⟨g,cap,cur,rfl,h1,h2,h3⟩
 ·exact .inl h
 ·refine .inr ⟨g,cap,cur,rfl,h1,?_,h3⟩;rw[hb g (by rw[hbs];simp[Value.ownBlock]) (zav.1 h2).1];exact h2
theorem qcP.keep {w w':World}{F F':Nat→Prop}(hF:∀b,F b→b<w.heap.size→F' b∧b<w'.heap.size∧w'.heap[b]? =w.heap[b]?): {c:BC}→{cs:List Value}→{bs:List Nat}→
  (hb:∀b∈bs,b<w.heap.size→w'.heap[b]? =w.heap[b]?)→qcP w F c cs bs→qcP w' F' c cs bs
 |.val _ _,_,_,_,h=>⟨h.1,h.2.keep hF⟩
 |.own _ _ _,_,_,hb,⟨v,h1,h2⟩=>⟨v,h1,h2.keep hF hb⟩
 |.pair _ _,_,_,hb,⟨c1,c2,b1,b2,h1,h2,h3,h4⟩=>⟨c1,c2,b1,b2,h1,h2,h3.keep hF (fun b hm=>hb b (by rw[h2];exact zac _ hm)),h4.keep hF (fun b hm=>hb b (by rw[h2];exact zab _ hm))⟩
 |.hole _,_,_,_,h=>h
theorem qho.keep {w w':World}{F F':Nat→Prop}(hF:∀b,F b→b<w.heap.size→F' b∧b<w'.heap.size∧w'.heap[b]? =w.heap[b]?) {et:Nat}{e:Ty}{hl:Int×Nat×Nat}{xs:List e.den}{v:Value}{bs:List Nat}
  (hb:∀b∈bs,b<w.heap.size→w'.heap[b]? =w.heap[b]?) (h:qho w F et e hl xs v bs):qho w' F' et e hl xs v bs:=by
 obtain⟨cells,bss,ho,hlb,hbs,hx⟩:=h;refine⟨cells,bss,⟨ho.1,?_⟩,hlb,hbs,fun i x b hi hj=>(hx i x b hi hj).keep hF fun k hk=>hb k (by rw[hbs];exact zab _ (List.mem_flatten.2 ⟨b,zaU hj,hk⟩))⟩;rcases ho.2 with h|⟨g,cap,cur,rfl,h1,h2,h3⟩
 ·exact .inl h
 ·refine .inr ⟨g,cap,cur,rfl,h1,?_,h3⟩;rw[hb g (by rw[hbs];simp[Value.ownBlock]) (zav.1 h2).1];exact h2
theorem q8.keep {w w':World}{F F':Nat→Prop}(hF:∀b,F b→b<w.heap.size→F' b∧b<w'.heap.size∧w'.heap[b]? =w.heap[b]?) {et:Nat}{e:Ty}{xs:List e.den}{v:Value}{bs:List Nat}
  (hb:∀b∈bs,b<w.heap.size→w'.heap[b]? =w.heap[b]?) (h:q8 w F et e xs v bs):q8 w' F' et e xs v bs:=qho.keep hF hb h
theorem qcd.keep {w w':World}{F F':Nat→Prop}(hF:∀b,F b→b<w.heap.size→F' b∧b<w'.heap.size∧w'.heap[b]? =w.heap[b]?) {et:Nat}{e:Ty}{xs:List e.den}{v:Value}{bs:List Nat}
  (hb:∀b∈bs,b<w.heap.size→w'.heap[b]? =w.heap[b]?) (h:qcd w F et e xs v bs):qcd w' F' et e xs v bs:=⟨h.1,h.2.keep hF hb⟩
theorem qho.nil_ (w:World) (F:Nat→Prop) (et:Nat) (e:Ty) (hl:Int×Nat×Nat):qho w F et e hl [] (.slice none 0 0) []:=
 ⟨[],[],World.ownsRow_nil _ _ _ _,rfl,rfl,fun i x b hi=>by cases hi⟩
theorem q8.nil_ (w:World) (F:Nat→Prop) (et:Nat) (e:Ty):q8 w F et e [] (.slice none 0 0) []:=qho.nil_ w F et e _
theorem qcc {j:Nat}{p:Nat×Nat}:qoP (-1,p) j=(0,0):=if_neg (by intro h;have h:(-1:Int)=(j:Int):=h;omega)
theorem qft (off:Nat):qp9 (0,0) off=false:=by simp[qp9]
theorem qpQ (k0:Nat×Nat):(t:Ty)→(x:t.den)→(off:Nat)→bcM [] k0 t x off=.val t x
 |.pair a b,x,off=>by unfold bcM;rw[if_neg (by simp[Msk.hits])]
 |.slice e,xs,off=>rfl
 |.int _,_,_=>rfl
 |.bool,_,_=>rfl
 |.str,_,_=>rfl
 |.unit,_,_=>rfl
 |.arr _ _,_,_=>rfl
 |.err,_,_=>rfl
 |.opt _,_,_=>rfl
 |.map _ _,_,_=>rfl
theorem qsu {et:Nat}(h:etM et=[]):etB et=et:=by unfold etB;rw[h]
theorem q8.to0 {w:World}{F:Nat→Prop}{et:Nat}{e:Ty}{xs:List e.den}{v:Value}{bs:List Nat}(hm:etM et=[]) (h:q8 w F et e xs v bs):qar w F et e xs v bs:=by
 obtain⟨cells,bss,ho,hl,hbs,hx⟩:=h;rw[qsu hm]at ho;rw[hm]at hx;have hnil:∀b∈bss,b=[]:=fun b hb=>by
  obtain⟨i,hi,rfl⟩:=zaw hb;have:=hx i (xs[i]'(by omega)) _ (zaa _) (zaa hi);rw[qpQ]at this;exact this.1
 have hfl:bss.flatten=[]:=List.flatten_eq_nil_iff.2 hnil;refine⟨cells,ho,by rw[hbs,hfl,zar],fun i x hi=>?_⟩;have hib:i<bss.length:=by rw[hl];exact(zao.1 hi).1
 have:=hx i x _ hi (zaa hib);rw[qpQ]at this;exact this.2
theorem qar.to {w:World}{F:Nat→Prop}{et:Nat}{e:Ty}{xs:List e.den}{v:Value}{bs:List Nat}(hm:etM et=[]) (h:qar w F et e xs v bs):q8 w F et e xs v bs:=by
 obtain⟨cells,ho,hbs,hx⟩:=h;refine⟨cells,List.replicate xs.length [],by rw[qsu hm];exact ho,by simp,by simp[hbs],fun i x b hi hb=>?_⟩;rw[hm,qpQ];rw[List.getElem?_replicate]at hb;split at hb
 ·injection hb with hb;subst hb;exact⟨rfl,hx i x hi⟩
 ·cases hb
theorem qcd.own {w:World}{F:Nat→Prop}{et:Nat}{e:Ty}{xs:List e.den}{v:Value}{bs:List Nat}(h:qcd w F et e xs v bs):q8 w F et e xs v bs:=h.2.to h.1
theorem qcd.flat {w:World}{F F':Nat→Prop}{et:Nat}{e:Ty}{xs:List e.den}{v:Value}{bs:List Nat}(hf:e.flat=true) (h:qcd w F et e xs v bs):qcd w F' et e xs v bs:=by
 obtain⟨h0,cells,k1,k2,k3⟩:=h;exact⟨h0,cells,k1,k2,fun i x hi=>(k3 i x hi).flat hf⟩
theorem qok {w:World}{F F':Nat→Prop}{m:Msk}{k0:Nat×Nat}:(t:Ty)→{x:t.den}→{off:Nat}→{cs:List Value}→{bs:List Nat}→t.flat=true→qcP w F (bcM m k0 t x off) cs bs→qcP w F' (bcM m k0 t x off) cs bs
 |.pair a b,x,off,cs,bs,hf,h=>by
  have hf':a.flat=true∧b.flat=true:=by simpa[Ty.flat]using hf
  unfold bcM at h⊢
  split at h
  ·rename_i hh;rw[if_pos hh];obtain⟨c1,c2,b1,b2,h1,h2,h3,h4⟩:=h;exact⟨c1,c2,b1,b2,h1,h2,qok a hf'.1 h3,qok b hf'.2 h4⟩
  ·rename_i hh;rw[if_neg hh];exact⟨h.1,h.2.flat hf⟩
 |.slice _,_,_,_,_,hf,_=>by simp[Ty.flat]at hf
 |.int _,_,_,_,_,hf,h=>⟨h.1,h.2.flat hf⟩
 |.bool,_,_,_,_,hf,h=>⟨h.1,Rep.flat (t:= .bool) hf h.2⟩
 |.str,_,_,_,_,hf,h=>⟨h.1,Rep.flat (t:= .str) hf h.2⟩
 |.unit,_,_,_,_,hf,h=>⟨h.1,Rep.flat (t:= .unit) hf h.2⟩
 |.arr _ _,_,_,_,_,hf,h=>⟨h.1,Rep.flat hf h.2⟩
 |.err,_,_,_,_,hf,h=>⟨h.1,Rep.flat (t:= .err) hf h.2⟩
 |.opt _,_,_,_,_,hf,_=>by simp[Ty.flat]at hf
 |.map _ _,_,_,_,_,hf,_=>by simp[Ty.flat]at hf
theorem q8.flat {w:World}{F F':Nat→Prop}{et:Nat}{e:Ty}{xs:List e.den}{v:Value}{bs:List Nat}(hf:e.flat=true) (h:q8 w F et e xs v bs):q8 w F' et e xs v bs:=by
 obtain⟨cells,bss,k1,k2,k3,k4⟩:=h;exact⟨cells,bss,k1,k2,k3,fun i x b hi hb=>qok e hf (k4 i x b hi hb)⟩
theorem q8.toRow {w:World}{F:Nat→Prop}{et:Nat}{e:Ty}{xs:List e.den}{v:Value}{bs:List Nat}(hm:etM et=[]) (h:q8 w F et e xs v bs):qcd w F et e xs v bs:=⟨hm,h.to0 hm⟩
theorem qaD.keep {w w':World}{F F':Nat→Prop}(hF:∀b,F b→b<w.heap.size→F' b∧b<w'.heap.size∧w'.heap[b]? =w.heap[b]?): {c:BC}→{cs:List Value}→{bs:List Nat}→
  (hb:∀b∈bs,b<w.heap.size→w'.heap[b]? =w.heap[b]?)→qaD w F c cs bs→qaD w' F' c cs bs
 |.val _ _,_,_,_,h=>⟨h.1,h.2.keep hF⟩
 |.own _ _ _,_,_,hb,⟨v,h1,h2⟩=>⟨v,h1,h2.keep hF hb⟩
 |.pair _ _,_,_,hb,⟨c1,c2,b1,b2,h1,h2,h3,h4⟩=>⟨c1,c2,b1,b2,h1,h2,h3.keep hF (fun b hm=>hb b (by rw[h2];exact zac _ hm)),h4.keep hF (fun b hm=>hb b (by rw[h2];exact zab _ hm))⟩
 |.hole _,_,_,_,h=>h
theorem qa3.keep {w w':World}{F F':Nat→Prop}(hF:∀b,F b→b<w.heap.size→F' b∧b<w'.heap.size∧w'.heap[b]? =w.heap[b]?): {c:List qoH}→{cs:List Value}→{bs:List Nat}→
  (hb:∀b∈bs,b<w.heap.size→w'.heap[b]? =w.heap[b]?)→qa3 w F c cs bs→qa3 w' F' c cs bs
 |[],_,_,_,h=>h
 |c::_,_,_,hb,⟨v,r,b1,b2,h1,h2,h3,h4⟩=>⟨v,r,b1,b2,h1,h2,(match c,h3 with
   |.val _ _,h3=>⟨h3.1,h3.2.keep hF⟩
   |.own _ _ _,h3=>q8.keep hF (fun b hm=>hb b (by rw[h2];exact zac _ hm)) h3
   |.gone,h3=>h3
   |.nz _ _,h3=>⟨h3.1,h3.2.1.keep hF,h3.2.2⟩
   |.agg _,⟨cs,g1,g2⟩=>⟨cs,g1,g2.keep hF (fun b hm=>hb b (by rw[h2];exact zac _ hm))⟩),qa3.keep hF (fun b hm=>hb b (by rw[h2];exact zab _ hm)) h4⟩
theorem qn7.keep {P:Program}{w w':World}{F F':Nat→Prop}(hF:∀b,F b→b<w.heap.size→F' b∧b<w'.heap.size∧w'.heap[b]? =w.heap[b]?) {ps rs:List Ty}{φ:denL ps→Option (denL rs)}{v:Value}
  (h:qn7 P w F ps rs φ v):qn7 P w' F' ps rs φ v:=by
 obtain⟨f,caps,hv,hc,h⟩:=h;refine⟨f,caps,hv,hc,fun w2 F2 x y as hk hr hy=>h w2 F2 x y as (fun b hb hs=>?_) hr hy⟩;obtain⟨h1,h2,h3⟩:=hF b hb hs;obtain⟨g1,g2,g3⟩:=hk b h1 h2;exact⟨g1,g2,g3.trans h3⟩
theorem qnf.keep {X X':Sit}(hF:∀b,X.F b→b<X.w.heap.size→X'.F b∧b<X'.w.heap.size∧X'.w.heap[b]? =X.w.heap[b]?) {a:AV}{fo:Option Nat}{i:Int}{o1 t v0:Nat}{v:Value}{bs:List Nat}
  (hb:∀b∈bs,b<X.w.heap.size→X'.w.heap[b]? =X.w.heap[b]?) (hv:X'.ver t=v0→X.ver t=v0∧X'.tm t=X.tm t) (h:qnf X a fo i o1 t v0 v bs):qnf X' a fo i o1 t v0 v bs:=by
 obtain⟨et,e,xs,g,n,cap,b2,h1,h2,h3,h4,h5,h6⟩:=h;have hsub:∀b∈b2,b∈bs:=by
  intro b hb2;split at h6
  ·rw[h6.2];exact hb2
  ·obtain⟨_,_,_,b1,b3,_,_,_,_,rfl⟩:=h6;exact zae _ (zab _ (zac _ hb2))
  ·exact h6.elim
 refine⟨et,e,xs,g,n,cap,b2,h1,h2,h3,h4.keep hF (fun b hm=>hb b (hsub b hm)),fun hver=>?_,?_⟩
 ·obtain⟨k1,k2⟩:=hv hver;have h5:=h5 k1;rw[k2,←h5];refine World.cell?_of_block ?_;obtain⟨cells,bss,ho,_,hbs,_⟩:=h4;rcases ho.2 with⟨q1,_⟩|⟨g',cap',cur,q1,_,q2,_⟩
  ·cases q1
  ·injection q1 with q1 _ _;injection q1 with q1;injection q1 with q1 _ _;subst q1;exact hb g (hsub g (by rw[hbs];simp[Value.ownBlock])) (zav.1 q2).1
 ·split at h6
  ·exact h6
  ·obtain⟨b,cs,te,b1,b3,k1,k2,k3,k4,rfl⟩:=h6;refine⟨b,cs,te,b1,b3,k1,?_,k3,?_,rfl⟩
   ·rw[hb b zai (zav.1 k2).1];exact k2
   ·intro w2 F2 n' c' b2' f1 f2 f3 f4;refine k4 n' c' b2' (fun x hx hlt=>?_) (fun x hx hlt=>?_) f3 f4
    ·obtain⟨q1,q2,q3⟩:=hF x hx hlt;obtain⟨r1,r2,r3⟩:=f1 x q1 q2;exact⟨r1,r2,r3.trans q3⟩
    ·have hmem:x∈b::(b1++(b2++b3)):=by
      rcases hx with hx|hx
      ·exact zae _ (zac _ hx)
      ·exact zae _ (zab _ (zab _ hx))
     have q3:=hb x hmem hlt;have hlt':x<X'.w.heap.size:=by
      have:X.w.heap[x]? ≠none:=by rw[zaF hlt];simp
      rw[←q3]at this;by_cases hh:x<X'.w.heap.size
      ·exact hh
      ·rw[Array.getElem?_eq_none (by omega)]at this;exact absurd rfl this
     exact(f2 x hx hlt').trans q3
  ·exact h6
theorem Fill.keep {w w':World}{F F':Nat→Prop}(hF:∀b,F b→b<w.heap.size→F' b∧b<w'.heap.size∧w'.heap[b]? =w.heap[b]?) {c:BC}{o:Nat}{hv:Value}{cs:List Value}{b1 b3:List Nat}
  (hb:∀b,b∈b1∨b∈b3→b<w.heap.size→w'.heap[b]? =w.heap[b]?) (h:Fill w F c o hv cs b1 b3):Fill w' F' c o hv cs b1 b3:=by
 intro w2 F2 n' c' b2' f1 f2 f3 f4;refine h n' c' b2' (fun x hx hlt=>?_) (fun x hx hlt=>?_) f3 f4
 ·obtain⟨q1,q2,q3⟩:=hF x hx hlt;obtain⟨r1,r2,r3⟩:=f1 x q1 q2;exact⟨r1,r2,r3.trans q3⟩
 ·have q3:=hb x hx hlt;have hlt':x<w'.heap.size:=by
   have:w.heap[x]? ≠none:=by rw[zaF hlt];simp
   rw[←q3]at this;by_cases hh:x<w'.heap.size
   ·exact hh
   ·rw[Array.getElem?_eq_none (by omega)]at this;exact absurd rfl this
  exact(f2 x hx hlt').trans q3
theorem qpn.keep {X X':Sit}(hF:∀b,X.F b→b<X.w.heap.size→X'.F b∧b<X'.w.heap.size∧X'.w.heap[b]? =X.w.heap[b]?) {c:BC}{o t v0:Nat}{v:Value}{bs:List Nat}
  (hb:∀b∈bs,b<X.w.heap.size→X'.w.heap[b]? =X.w.heap[b]?) (hv:X'.ver t=v0→X.ver t=v0∧X'.tm t=X.tm t) (h:qpn X c o t v0 v bs):qpn X' c o t v0 v bs:=by
 obtain⟨b,cs,te,b1,b3,h0,h1,h2,h3,h4,rfl,h6⟩:=h;refine⟨b,cs,te,b1,b3,h0,h1,?_,h3,h4.keep hF (fun x hx=>hb x ?_),rfl,fun hver=>?_⟩
 ·rw[hb b zai (zav.1 h2).1];exact h2
 ·rcases hx with hx|hx
  ·exact zae _ (zac _ hx)
  ·exact zae _ (zab _ hx)
 ·obtain⟨k1,k2⟩:=hv hver;rw[k2];exact h6 k1
theorem qax.keep {X X':Sit}(hP:X'.P=X.P∧X'.pn=X.pn) (hF:∀b,X.F b→b<X.w.heap.size→X'.F b∧b<X'.w.heap.size∧X'.w.heap[b]? =X.w.heap[b]?):
  {a:AV}→{v:Value}→{bs:List Nat}→(hb:∀b∈bs,b<X.w.heap.size→X'.w.heap[b]? =X.w.heap[b]?)→
  (hm:∀m∈a.mentions,X'.ver m.1=m.2→X.ver m.1=m.2∧X'.tm m.1=X.tm m.1∧(∀b,b∈X.own m.1→X.tm m.1=ptr b 0→b∈X'.own m.1∧X'.w.heap[b]? =X.w.heap[b]?))→
  qax X a v bs→qax X' a v bs
 |.undef,_,_,_,_,_=>trivial
 |.val _ _,_,_,_,_,h=>⟨h.1,h.2.keep hF⟩
 |.own _ _ _,_,_,hb,_,h=>q8.keep hF hb h
 |.agg _,_,_,hb,_,⟨cs,h1,h2⟩=>⟨cs,h1,h2.keep hF hb⟩
 |.box _,_,_,hb,_,⟨b,cs,bs',te,h1,h2,h3,h4⟩=>⟨b,cs,bs',te,h1,by
   rw[hb b (by rw[h4];exact zai) (zav.1 h2).1];exact h2,h3.keep hF (fun b' hm=>hb b' (by rw[h4];exact zae _ hm)),h4⟩
 |.ref s v0,_,_,_,hm,h=>⟨h.1,fun hv=>by
   obtain⟨h1,h2,_⟩:=hm (s,v0) (by simp[AV.mentions]) hv;rw[h2];exact h.2 h1⟩
 |.bref s v0 off u,_,_,_,hm,h=>⟨h.1,fun hv=>by
   obtain⟨h1,h2,h3⟩:=hm (s,v0) (by simp[AV.mentions]) hv;obtain⟨b,hb0,h4,h5⟩:=h.2 h1;obtain⟨hb1,hh⟩:=h3 b hb0 h4;refine⟨b,hb1,by rw[h2];exact h4,?_⟩;rcases h5 with⟨h5,cs,h6,h7,h8⟩|⟨h5,h6⟩
   ·exact .inl ⟨h5,cs,h6,h7,fun j x hj=>by rw[←h8 j x hj];exact World.cell?_of_block (by rw[qam];exact hh)⟩
   ·exact .inr ⟨h5,by rw[←h6];exact World.cell?_of_block hh⟩⟩
 |.pbox s v0 off,_,_,_,hm,h=>⟨h.1,fun hv=>by
   obtain⟨h1,h2,_⟩:=hm (s,v0) (by simp[AV.mentions]) hv;obtain⟨b,h4,h5⟩:=h.2 h1;exact⟨b,by rw[h2];exact h4,h5⟩⟩
 |.prow s v0 fo sz i off,_,_,_,hm,h=>⟨h.1,fun hv=>by
   obtain⟨h1,h2,h3⟩:=hm (s,v0) (by simp[AV.mentions]) hv;obtain⟨g,n,cap,h4,h5⟩:=h.2 h1;refine⟨g,n,cap,?_,h5⟩;cases fo with
   |none=>exact h2.trans h4
   |some o=>
    obtain⟨b,hb0,h6,h7⟩:=h4;obtain⟨hb1,hh⟩:=h3 b hb0 h6;exact⟨b,hb1,h2.trans h6,by rw[←h7];exact World.cell?_of_block hh⟩⟩
 |.pip _ _,_,_,_,_,⟨h0,b,h1,h2⟩=>⟨h0,b,by rw[hP.2];exact h1,h2⟩
 |.osl s v0 fo sz lo hi,_,_,_,hm,h=>⟨h.1,fun hv=>by
   obtain⟨h1,h2,h3⟩:=hm (s,v0) (by simp[AV.mentions]) hv;obtain⟨ad,n,cap,h4,h5⟩:=h.2 h1;refine⟨ad,n,cap,?_,h5⟩;cases fo with
   |none=>exact h2.trans h4
   |some o=>
    obtain⟨b,hb0,h6,h7⟩:=h4;obtain⟨hb1,hh⟩:=h3 b hb0 h6;exact⟨b,hb1,h2.trans h6,by rw[←h7];exact World.cell?_of_block hh⟩⟩
 |.view _ _ _,_,_,_,_,⟨h0,a,cs,h1,h2,h3,h4,h5⟩=>by
   obtain⟨g1,g2,g3⟩:=hF _ h2 h3;exact⟨h0,a,cs,h1,g1,g2,fun j x hj=>by rw[←h4 j x hj];exact World.cell?_of_block (by rw[qam];exact g3),h5.keep hF⟩
 |.tup _,_,_,hb,_,⟨vs,h1,h2⟩=>⟨vs,h1,h2.keep hF hb⟩
 |.grd s v0 want a,v,_,_,hm,h=>⟨h.1,fun hv=>by
   obtain⟨h1,h2,_⟩:=hm (s,v0) (by simp[AV.mentions]) hv;obtain⟨g1,g2⟩:=h.2 h1;refine⟨fun ht=>?_,fun ht=>g2 (by rw[←h2];exact ht)⟩;exact qax.keep hP hF (fun b hb=>by cases hb) (fun m hmm=>hm m (by simp[AV.mentions,hmm])) (g1 (by rw[←h2];exact ht))⟩
 |.fn _ _,_,_,_,_,⟨h0,vs,h1,h2⟩=>⟨h0,vs,h1,h2.keep hF (fun b hb=>by cases hb)⟩
 |.fnv _ _ _,_,_,_,_,h=>⟨h.1,by rw[hP.1];exact h.2.keep hF⟩
 |.nilr _ _,_,_,_,_,h=>h
 |.nz _ _,_,_,_,_,h=>⟨h.1,h.2.1.keep hF,h.2.2⟩
 |.mp _ _ _,_,_,hb,_,h=>qf9.keep hF hb h
 |.itr _ _ _ _,_,_,hb,_,⟨b,h1,h2,h3⟩=>⟨b,h1,h2,h3.keep hF (hb b (by rw[h2];simp) (by
   rcases h3 with⟨x,s,y,h3,_⟩|⟨bm,es,clock,since,c0,seen,h3,_⟩
   ·exact(zav.1 h3).1
   ·exact(zav.1 h3).1))⟩
 |.hol _ _ _ _ t v0,_,_,hb,hm,h=>qnf.keep hF hb (fun hv=>by
   obtain⟨h1,h2,_⟩:=hm (t,v0) (by simp[AV.mentions]) hv;exact⟨h1,h2⟩) h
 |.bhl _ _ t v0,_,_,hb,hm,h=>qpn.keep hF hb (fun hv=>by
   obtain⟨h1,h2,_⟩:=hm (t,v0) (by simp[AV.mentions]) hv;exact⟨h1,h2⟩) h
 |.amb _ _,_,_,_,_,h=>h
 |.lsw _ _ _ _,_,_,hb,_,h=>⟨by rw[hP.2];exact h.1,h.2.1.keep hF hb,fun ψ hψ=>by rw[hP.1];exact(h.2.2 ψ hψ).keep hF⟩
 |.lsv _ _ _ _,_,_,_,_,h=>⟨h.1,by rw[hP.2];exact h.2.1,by rw[hP.1,hP.2];exact h.2.2.keep hF⟩
 |.lsz _ _ _ _,_,_,_,_,⟨h0,h1,b,cs,te,h2,h3,h4,h5,h6⟩=>by
   obtain⟨g1,g2,g3⟩:=hF b h3 h4;exact⟨h0,by rw[hP.1,hP.2];exact h1.keep hF,b,cs,te,h2,g1,g2,by rw[g3];exact h5,by rw[hP.2];exact h6⟩
 |.parr s (some v0) off n e i o2,_,_,_,hm,⟨h0,h1,h2,h3⟩=>⟨h0,h1,h2,fun hv=>by
   obtain⟨g1,g2,_⟩:=hm (s,v0) (by simp[AV.mentions]) hv;obtain⟨b,h4,h5⟩:=h3 g1;exact⟨b,by rw[g2];exact h4,h5⟩⟩
 |.parr s none off n e i o2,_,_,_,_,⟨h0,h1,h2,b,h4,h5⟩=>⟨h0,h1,h2,b,by rw[hP.2];exact h4,h5⟩
def sit (C:Ctx) (σ:St) (tm:Array Value) (w:World) (own:Nat→List Nat):Sit:=
 { P:=C.P,ver:=fun s=>(qt σ s).1,tm:=fun s=>tm.getD s undef,w,F:=C.free w own,own,pn:=C.pn }
theorem qac.update {C:Ctx}{σ σ':St}{tm tm':Array Value}{w w':World}{own own':Nat→List Nat}(h:qac C σ tm w own) (D:Nat→Prop)
  (hlen:σ'.length=σ.length) (htm:tm'.size=tm.size)
  (hsame:∀s,¬D s→qt σ' s=qt σ s∧tm'.getD s undef=tm.getD s undef∧own' s=own s)
  (hver:∀s,D s→(qt σ s).1<(qt σ' s).1∨((qt σ' s).1=(qt σ s).1∧tm'.getD s undef=tm.getD s undef∧∀b,b∈own s→tm.getD s undef=ptr b 0→b∈own' s∧w'.heap[b]? =w.heap[b]?))
  (hk:qbc (fun b=>∃s,D s∧b∈own s) w w')
  (hD:∀s,D s→s<σ.length)
  (hown:∀s,D s→(∀b∈own' s,(w.heap.size≤b∧b<w'.heap.size)∨(∃s0,D s0∧b∈own s0))∧(own' s).Nodup)
  (hap:∀s s' b,D s→D s'→b∈own' s→b∈own' s'→s=s')
  (hrep:∀s,D s→qax (sit C σ' tm' w' own') (qt σ' s).2 (tm'.getD s undef) (own' s))
  (hwf:∀s,D s→∀m∈(qt σ' s).2.mentions,m.2≤(qt σ' m.1).1):qac C σ' tm' w' own':=by
 have hN:C.w0.heap.size≤w.heap.size:=h.kept.size;have keptFree:∀b,C.free w own b→C.free w' own' b∧w'.heap[b]? =w.heap[b]? :=fun b hb=>by
  have hlt:b<w.heap.size:=hb.2.1;refine⟨⟨hb.1,zaE hlt hk.size,fun s hs=>?_⟩,hk.block b hlt fun ⟨s,_,hs⟩=>hb.2.2 s hs⟩;by_cases hd:D s
  ·rcases(hown s hd).1 b hs with h1|⟨s0,_,h1⟩
   ·omega
   ·exact hb.2.2 s0 h1
  ·rw[(hsame s hd).2.2]at hs;exact hb.2.2 s hs
 refine⟨by rw[htm,hlen];exact h.size,?_,?_,?_,?_,?_,?_,?_⟩
 ·refine⟨hk.os.trans h.kept.os,hk.tape.trans h.kept.tape,hk.output.trans h.kept.output,Nat.le_trans h.kept.size hk.size,fun k hlt ho=>?_⟩;rw[←h.kept.block k hlt ho];refine hk.block k (by omega) fun ⟨s,_,hs⟩=>?_;rcases(h.mine s k hs).1 with h1|h1
  ·exact ho h1
  ·omega
 ·intro s b hb;by_cases hd:D s
  ·rcases(hown s hd).1 b hb with⟨h1,h2⟩|⟨s0,_,h1⟩
   ·exact⟨.inr (by omega),h2⟩
   ·obtain⟨h2,h3⟩:=h.mine s0 b h1;exact⟨h2,zaE h3 hk.size⟩
  ·rw[(hsame s hd).2.2]at hb;obtain⟨h2,h3⟩:=h.mine s b hb;exact⟨h2,zaE h3 hk.size⟩
 ·intro s;by_cases hd:D s
  ·exact(hown s hd).2
  ·rw[(hsame s hd).2.2];exact h.nodup s
 ·have mixed:∀s s' b,D s→¬D s'→b∈own' s→b∈own' s'→False:=fun s s' b hd hd' hb hb'=>by
   rw[(hsame s' hd').2.2]at hb';rcases(hown s hd).1 b hb with⟨h1,_⟩|⟨s0,h0,h1⟩
   ·have:=(h.mine s' b hb').2;omega
   ·exact hd' (h.apart s0 s' b h1 hb'▸h0)
  intro s s' b hb hb';by_cases hd:D s<;>by_cases hd':D s'
  ·exact hap s s' b hd hd' hb hb'
  ·exact(mixed s s' b hd hd' hb hb').elim
  ·exact(mixed s' s b hd' hd hb' hb).elim
  ·rw[(hsame s hd).2.2]at hb;rw[(hsame s' hd').2.2]at hb';exact h.apart s s' b hb hb'
 ·intro s hs;have hd:¬D s:=fun hd=>by have:=hD s hd;omega
  rw[(hsame s hd).2.2];exact h.outside s (by omega)
 ·intro s hs;by_cases hd:D s
  ·exact hrep s hd
  ·obtain⟨h1,h2,h3⟩:=hsame s hd;have hr:=h.rep s (by omega);rw[h1,h2,h3];refine qax.keep (X:=sit C σ tm w own) (X':=sit C σ' tm' w' own') ⟨rfl,rfl⟩ ?_ ?_ ?_ hr
   ·intro b hb _;obtain⟨g1,g2⟩:=keptFree b hb;exact⟨g1,g1.2.1,g2⟩
   ·intro b hb hlt;refine hk.block b hlt fun ⟨s0,h0,hs0⟩=>hd (h.apart s0 s b hs0 hb▸h0)
   ·intro m hm hv;have hw:=h.wf s m hm;have hv':(qt σ' m.1).1=m.2:=hv;by_cases hdm:D m.1
    ·rcases hver m.1 hdm with h1|⟨h1,h2,h3⟩
     ·omega
     ·refine⟨?_,h2,fun b hb hp=>h3 b hb hp⟩;show(qt σ m.1).1=m.2;rw[←h1];exact hv'
    ·obtain⟨e1,e2,e3⟩:=hsame m.1 hdm;refine⟨?_,e2,fun b hb _=>⟨?_,?_⟩⟩
     ·show(qt σ m.1).1=m.2;rw[←e1];exact hv'
     ·show b∈own' m.1;rw[e3];exact hb
     ·exact hk.block b (h.mine _ b hb).2 fun ⟨s0,h0,hs0⟩=>hdm (h.apart s0 m.1 b hs0 hb▸h0)
 ·intro s m hm;by_cases hd:D s
  ·exact hwf s hd m hm
  ·rw[(hsame s hd).1]at hm;have:=h.wf s m hm;by_cases hdm:D m.1
   ·rcases hver m.1 hdm with h1|⟨h1,_,_⟩<;>omega
   ·rw[(hsame m.1 hdm).1];exact this
end Go.Vi
namespace Go.Vi
section
variable {α β:Type}{lk:Nat→Ent}
theorem Q.yd (s:Nat) (k:Ent→Q α):(Q.get s k).run lk=(k (lk s)).run lk:=rfl
theorem Q.ym (q:Q α) (f:α→Q β):(q.bind f).run lk=(q.run lk).bind fun a=>(f a).run lk:=by
 induction q with
 |ret a=>rfl
 |fail=>rfl
 |get s k ih=>exact ih (lk s)
theorem Q.yb {q:Q α}{f:α→Q β}{r:β}(h:(q.bind f).run lk=some r):∃a,q.run lk=some a∧(f a).run lk=some r:=by
 rw[Q.ym]at h;exact Option.bind_eq_some_iff.1 h
theorem Q.yc {a r:α}(h:(Q.ret a).run lk=some r):a=r:=by injection h
end
theorem qau.mono {w:World}{F F':Nat→Prop}(hF:∀b,F b→b<w.heap.size→F' b) {t:Ty}{x:t.den}{v:Value}(h:qau w F t x v):qau w F' t x v:=
 h.keep fun b hb hs=>⟨hF b hb hs,hs,rfl⟩
theorem cells_one {v:Value}(h:∀cs,v≠ .agg cs):v.cells= #[v]:=by
 cases v<;>first|rfl|exact absurd rfl (h _)
theorem qau.int {w:World}{F:Nat→Prop}{k:IntKind}{n:Int}{v:Value}(h:qau w F (.int k) n v):v=.int k n∧k.has n:=by
 have h2:=cells_one (h.2.2 rfl);have h1:=h.1;rw[h2]at h1;exact⟨by simpa using h1.1,h1.2⟩
theorem qau.bool {w:World}{F:Nat→Prop}{b:Bool}{v:Value}(h:qau w F .bool b v):v=.bool b:=by
 have h2:=cells_one (h.2.2 rfl);have h1:=h.1;rw[h2]at h1;simpa[Rep]using h1
theorem qau.str {w:World}{F:Nat→Prop}{s:List UInt8}{v:Value}(h:qau w F .str s v):v=.string ⟨s.toArray⟩∧s.length≤maxLen:=by
 have h2:=cells_one (h.2.2 rfl);have h1:=h.1;rw[h2]at h1;exact⟨by simpa using h1.1,h1.2⟩
theorem qau.err {w:World}{F:Nat→Prop}{b:Bool}{v:Value}(h:qau w F .err b v):(b=true∧v=.nilIface)∨(b=false∧∃t x,v=.iface t x):=by
 have h2:=cells_one (h.2.2 rfl);obtain⟨u,h1,h3⟩:=h.1;rw[h2]at h1;simp at h1;subst h1;exact h3
theorem qau.ofErr {w:World}{F:Nat→Prop}{b:Bool}{v:Value}(h:(b=true∧v=.nilIface)∨(b=false∧∃t x,v=.iface t x)):qau w F .err b v:=by
 have hv:∀cs,v≠ .agg cs:=by
  intro cs he;rcases h with⟨_,h⟩|⟨_,t,x,h⟩<;>rw[he]at h<;>cases h
 exact⟨⟨v,(by rw[cells_one hv]),h⟩,(fun h=>by simp[Ty.agg]at h),fun _=>hv⟩
theorem qau.opt {w:World}{F:Nat→Prop}{e:Ty}{x:Option e.den}{v:Value}(h:qau w F (.opt e) x v):qtK w F (Rep w F e) x v:=by
 have h2:=cells_one (h.2.2 rfl);obtain⟨u,h1,h3⟩:=h.1;rw[h2]at h1;simp at h1;subst h1;exact h3
theorem qau.ofOpt {w:World}{F:Nat→Prop}{e:Ty}{x:Option e.den}{v:Value}(h:qtK w F (Rep w F e) x v):qau w F (.opt e) x v:=by
 have hv:∀cs,v≠ .agg cs:=by
  intro cs he;rcases h with⟨_,h⟩|⟨_,_,_,_,h,_⟩<;>rw[he]at h<;>cases h
 exact⟨⟨v,(by rw[cells_one hv]),h⟩,(fun h=>by simp[Ty.agg]at h),fun _=>hv⟩
theorem qau.slice {w:World}{F:Nat→Prop}{e:Ty}{xs:List e.den}{v:Value}(h:qau w F (.slice e) xs v):qes w F (Rep w F e) e.size xs v:=by
 have h2:=cells_one (h.2.2 rfl);have h1:=h.1;rw[h2]at h1;obtain⟨v',hv,hs⟩:=h1;simp at hv;subst hv;exact hs
theorem qau.ofInt (w:World) (F:Nat→Prop) {k:IntKind}{n:Int}(h:k.has n):qau w F (.int k) n (.int k n):=⟨⟨rfl,h⟩,(fun h=>by cases h),(fun _ cs h=>by cases h)⟩
theorem qau.ofBool (w:World) (F:Nat→Prop) (b:Bool):qau w F .bool b (.bool b):=⟨rfl,(fun h=>by cases h),(fun _ cs h=>by cases h)⟩
theorem qau.ofStr (w:World) (F:Nat→Prop) {s:List UInt8}(h:s.length≤maxLen):qau w F .str s (.string ⟨s.toArray⟩):=⟨⟨rfl,h⟩,(fun h=>by cases h),(fun _ cs h=>by cases h)⟩
theorem qau.ofSlice {w:World}{F:Nat→Prop}{e:Ty}{xs:List e.den}{v:Value}(h:qes w F (Rep w F e) e.size xs v):qau w F (.slice e) xs v:=by
 have hv:∀cs,v≠ .agg cs:=by
  intro cs he;rcases h with⟨h,_⟩|⟨a,cap,h,_⟩<;>rw[he]at h<;>cases h
 exact⟨⟨v,(by rw[cells_one hv]),h⟩,(fun h=>by simp[Ty.agg]at h),fun _=>hv⟩
def mkV (t:Ty) (cs:List Value):Value:=if t.agg then .agg cs.toArray else cs.headD undef
theorem qau.yA {w:World}{F:Nat→Prop}{k t:Ty}{xs:List (k.den×t.den)}{v:Value}(h:(v=.map none∧xs=[])∨∃b,v=.map (some b)∧F b∧b<w.heap.size∧qne w k (qau w F t) xs b):qau w F (.map k t) xs v:=by
 have hv:∃o,v=.map o:=by
  rcases h with⟨rfl,_⟩|⟨b,rfl,_⟩
  ·exact⟨_,rfl⟩
  ·exact⟨_,rfl⟩
 obtain⟨o,rfl⟩:=hv;exact⟨⟨_,rfl,h⟩,(fun h=>by cases h),(fun _ cs h=>by cases h)⟩
theorem qf9.rep {w:World}{F:Nat→Prop}{k t:Ty}{xs:List (k.den×t.den)}{v:Value}{bs:List Nat}(h:qf9 w F k t xs v bs):qau w (fun b=>F b∨b∈bs) (.map k t) (qrI xs) v:=by
 obtain⟨b,h1,h2,h3⟩:=h;have hb:b<w.heap.size:=by
  obtain⟨es,clock,h4,_⟩:=h3;exact(zav.1 h4).1
 refine qau.yA (.inr ⟨b,h1,.inr (by rw[h2];simp),hb,xs,(qoI xs).symm,h3.keep rfl fun x v hx=>hx.mono fun b hb _=>.inl hb⟩)
theorem qau.ofCells {w:World}{F:Nat→Prop}{t:Ty}{x:t.den}{cs:List Value}(h:Rep w F t x cs):qau w F t x (mkV t cs):=by
 cases t with
 |int k=>obtain⟨rfl,h⟩:=h;exact .ofInt w F h
 |bool=>have h:cs=_:=h;subst h;exact .ofBool w F _
 |str=>obtain⟨rfl,h⟩:=h;exact .ofStr w F h
 |slice e=>obtain⟨v,rfl,h⟩:=h;exact .ofSlice h
 |err=>obtain⟨v,rfl,h⟩:=h;exact .ofErr h
 |opt e=>obtain⟨v,rfl,h⟩:=h;exact .ofOpt h
 |map k v=>obtain⟨u,rfl,h⟩:=h;exact qau.yA h
 |unit=>exact⟨(by simpa[mkV,Ty.agg,Value.cells]using h),(fun _=>⟨_,rfl⟩),(fun h=>by simp[Ty.agg]at h)⟩
 |pair a b=>exact⟨(by simpa[mkV,Ty.agg,Value.cells]using h),(fun _=>⟨_,rfl⟩),(fun h=>by simp[Ty.agg]at h)⟩
 |arr n e=>exact⟨(by simpa[mkV,Ty.agg,Value.cells]using h),(fun _=>⟨_,rfl⟩),(fun h=>by simp[Ty.agg]at h)⟩
theorem qau.as {w:World}{F:Nat→Prop}{t u:Ty}{x:t.den}{y:u.den}{v:Value}(h:Ty.as u x=some y) (hr:qau w F t x v):qau w F u y v:=by
 obtain⟨rfl,rfl⟩:=Ty.ye h;exact hr
theorem qar.rep {w:World}{F:Nat→Prop}{et:Nat}{e:Ty}{xs:List e.den}{v:Value}{bs:List Nat}(h:qar w F et e xs v bs):qau w (fun b=>F b∨b∈bs) (.slice e) xs v:=by
 obtain⟨cells,ho,hbs,hx⟩:=h;refine .ofSlice ?_;rcases ho.2 with⟨h1,h2⟩|⟨g,cap,cur,hv,_,hg,hnc,hcm,hcs,htake⟩
 ·exact .inl ⟨h1,zaV h2⟩
 ·refine .inr ⟨⟨g,0,none⟩,cap,hv,hnc,hcm,fun i x hi=>⟨.inr (by rw[hbs,hv];simp[Value.ownBlock]),(zav.1 hg).1,_,?_,(hx i x hi).keep fun b hb hs=>⟨.inl hb,hs,rfl⟩⟩⟩;intro j u hu;have hc:=ho.cells (g:=g) (by rw[hv];rfl);rw[qbj];refine hc _ _ ?_;rw[zal]at hu;split at hu
  ·rwa [zan]at hu
  ·cases hu
theorem qpN {w:World}{F:Nat→Prop}{m:Msk}:(t:Ty)→{x:t.den}→{off:Nat}→{cs:List Value}→{bs:List Nat}→qcP w F (bcM m (0,0) t x off) cs bs→Rep w (fun b=>F b∨b∈bs) t x cs
 |.pair a b,x,off,cs,bs,h=>by
  unfold bcM at h;split at h
  ·obtain⟨c1,c2,b1,b2,h1,h2,h3,h4⟩:=h;subst h2;exact⟨c1,c2,h1,(qpN a h3).keep fun k hk hs=>⟨hk.imp id fun h=>zac _ h,hs,rfl⟩,(qpN b h4).keep fun k hk hs=>⟨hk.imp id fun h=>zab _ h,hs,rfl⟩⟩
  ·exact h.2.keep fun k hk hs=>⟨.inl hk,hs,rfl⟩
 |.slice e,xs,off,cs,bs,h=>by
  unfold bcM at h;rw[qft]at h;split at h
  ·simp only[za0,if_false]at h;obtain⟨v,h1,h2⟩:=h;subst h1;have:=h2.rep.1;rw[cells_one (h2.rep.2.2 rfl)]at this;exact this
  ·exact h.2.keep fun k hk hs=>⟨.inl hk,hs,rfl⟩
 |.int _,_,_,_,_,h=>h.2
 |.bool,_,_,_,_,h=>h.2
 |.str,_,_,_,_,h=>h.2
 |.unit,_,_,_,_,h=>h.2
 |.arr _ _,_,_,_,_,h=>h.2.keep fun k hk hs=>⟨.inl hk,hs,rfl⟩
 |.err,_,_,_,_,h=>h.2
 |.opt _,_,_,_,_,h=>h.2.keep fun k hk hs=>⟨.inl hk,hs,rfl⟩
 |.map _ _,_,_,_,_,h=>h.2.keep fun k hk hs=>⟨.inl hk,hs,rfl⟩
theorem q8.over {w:World}{F:Nat→Prop}{et:Nat}{e:Ty}{xs:List e.den}{v:Value}{bs:List Nat}(h:q8 w F et e xs v bs):
  ∃bi,bs=v.ownBlock.toList++bi∧qar w (fun b=>F b∨b∈bi) (etB et) e xs v v.ownBlock.toList:=by
 obtain⟨cells,bss,ho,hlb,hbs,hx⟩:=h;refine⟨bss.flatten,hbs,cells,ho,rfl,fun i x hi=>?_⟩;have hlt:i<bss.length:=by rw[hlb];exact(zao.1 hi).1
 have:=hx i x _ hi (zaa hlt);rw[qcc]at this;exact(qpN e this).keep fun b hb hs=>⟨hb.imp id fun h=>List.mem_flatten.2 ⟨_,zau hlt,h⟩,hs,rfl⟩
theorem q8.rep {w:World}{F:Nat→Prop}{et:Nat}{e:Ty}{xs:List e.den}{v:Value}{bs:List Nat}(h:q8 w F et e xs v bs):qau w (fun b=>F b∨b∈bs) (.slice e) xs v:=by
 obtain⟨bi,h1,h2⟩:=h.over;refine h2.rep.mono fun b hb _=>?_;rw[h1];rcases hb with(hb|hb)|hb
 ·exact .inl hb
 ·exact .inr (zab _ hb)
 ·exact .inr (zac _ hb)
theorem qho.hdr {w:World}{F:Nat→Prop}{et:Nat}{e:Ty}{hl:Int×Nat×Nat}{xs:List e.den}{v:Value}{bs:List Nat}(h:qho w F et e hl xs v bs):∃cells,w.ownsRow 0 (etB et) e.size v xs.length cells:=by
 obtain⟨cells,bss,ho,_⟩:=h;exact⟨cells,ho⟩
theorem q8.hdr {w:World}{F:Nat→Prop}{et:Nat}{e:Ty}{xs:List e.den}{v:Value}{bs:List Nat}(h:q8 w F et e xs v bs):∃cells,w.ownsRow 0 (etB et) e.size v xs.length cells:=qho.hdr h
theorem quO.rep {w:World}{F:Nat→Prop}{b off:Nat}{u:Ty}{y:u.den}{v:Value}{cs:List Value}(hc:∀j x,cs[j]? =some x→w.cell? ⟨b,j,none⟩=some x)
  (hl:off+u.size≤cs.length) (h:quO w b off u v) (hr:Rep w F u y ((cs.drop off).take u.size)):qau w F u y v:=by
 have key:v=mkV u ((cs.drop off).take u.size):=by
  rcases h with⟨h1,cs',rfl,h2,h3⟩|⟨h1,h2⟩
  ·have:cs'=(cs.drop off).take u.size:=by
    apply List.ext_getElem (by rw[h2,zaf,zap];omega);intro j hj hj';have e1:=h3 j _ (zaa hj);rw[qL]at e1;have e2:=hc (off+j) (cs[off+j]'(by rw[h2]at hj;omega)) (zaa _);rw[e1]at e2;injection e2 with e2;rw[e2,List.getElem_take,List.getElem_drop]
   rw[mkV,if_pos h1,this]
  ·have hs:u.size=1:=by cases u<;>simp[Ty.agg]at h1<;>rfl
   have e2:=hc off (cs[off]'(by omega)) (zaa _);rw[h2]at e2;injection e2 with e2;rw[mkV,if_neg (by simp[h1]),hs,zaO (by omega),e2];rfl
 rw[key];exact .ofCells hr
theorem qaD.length {w:World}{F:Nat→Prop}: {c:BC}→{cs:List Value}→{bs:List Nat}→qaD w F c cs bs→cs.length=c.size
 |.val _ _,_,_,h=>h.2.length
 |.own _ _ _,_,_,⟨v,h,_⟩=>by rw[h];rfl
 |.pair _ _,_,_,⟨c1,c2,b1,b2,h1,h2,h3,h4⟩=>by rw[h1,zag,h3.length,h4.length];rfl
 |.hole _,_,_,h=>h.2
theorem qaD.get {w:World}{F:Nat→Prop}: {c:BC}→{cs:List Value}→{bs:List Nat}→{off:Nat}→{u:Ty}→{y:u.den}→{f:Bool}→qaD w F c cs bs→c.get off u=some (y,f)→
  off+u.size≤cs.length∧Rep w (fun b=>F b∨b∈bs) u y ((cs.drop off).take u.size)∧(f=false→Rep w F u y ((cs.drop off).take u.size))
 |.val t x,cs,bs,off,u,y,f,h,hg=>by
  simp only[BC.get,zaB]at hg;obtain⟨z,h1,h2⟩:=hg;injection h2 with h2 h3;subst h2;subst h3;obtain⟨g1,g2⟩:=h.2.sub h1;exact⟨g1,g2.keep (fun b hb hs=>⟨.inl hb,hs,rfl⟩),fun _=>g2⟩
 |.own et e xs,cs,bs,off,u,y,f,h,hg=>by
  simp only[BC.get]at hg;split at hg
  ·rename_i h0;subst h0;simp only[zaB]at hg;obtain⟨z,h1,h2⟩:=hg;injection h2 with h2 h3;subst h2;subst h3;obtain⟨rfl,rfl⟩:=Ty.ye h1;obtain⟨v,rfl,ho⟩:=h;have hr:=ho.rep.1;rw[cells_one (ho.rep.2.2 rfl)]at hr;exact⟨(by simp[Ty.size]),(by simpa[Ty.size]using hr),(fun h=>by cases h)⟩
  ·cases hg
 |.pair a b,cs,bs,off,u,y,f,h,hg=>by
  obtain⟨c1,c2,b1,b2,rfl,rfl,h1,h2⟩:=h;have l1:=h1.length;have l2:=h2.length;have mono1:∀(t:Ty) (x:t.den) (l:List Value),Rep w (fun b=>F b∨b∈b1) t x l→Rep w (fun b=>F b∨b∈b1++b2) t x l:=fun t x l hr=>
   hr.keep fun b hb hs=>⟨hb.imp id fun h=>zac _ h,hs,rfl⟩
  have mono2:∀(t:Ty) (x:t.den) (l:List Value),Rep w (fun b=>F b∨b∈b2) t x l→Rep w (fun b=>F b∨b∈b1++b2) t x l:=fun t x l hr=>
   hr.keep fun b hb hs=>⟨hb.imp id fun h=>zab _ h,hs,rfl⟩
  have left:∀(off:Nat) (u:Ty) (y:u.den) (f:Bool),a.get off u=some (y,f)→
    off+u.size≤(c1++c2).length∧Rep w (fun b=>F b∨b∈b1++b2) u y (((c1++c2).drop off).take u.size)∧(f=false→Rep w F u y (((c1++c2).drop off).take u.size)):=fun off u y f hg=>by
   obtain⟨g1,g2,g3⟩:=h1.get hg;rw[qcz g1];exact⟨by rw[zag];omega,mono1 _ _ _ g2,g3⟩
  have right:∀(off:Nat) (u:Ty) (y:u.den) (f:Bool),a.size≤off→b.get (off-a.size) u=some (y,f)→
    off+u.size≤(c1++c2).length∧Rep w (fun b=>F b∨b∈b1++b2) u y (((c1++c2).drop off).take u.size)∧(f=false→Rep w F u y (((c1++c2).drop off).take u.size)):=fun off u y f hle hg=>by
   obtain⟨g1,g2,g3⟩:=h2.get hg;rw[qck (by omega),l1];exact⟨by rw[zag];omega,mono2 _ _ _ g2,g3⟩
  unfold BC.get at hg;split at hg
  ·rename_i ua ub;split at hg
   ·rename_i hsz;split at hg
    ·rename_i x f1 y' f2 e1 e2;injection hg with hg;injection hg with hg1 hg2;subst hg1;subst hg2;obtain⟨g1,g2,g3⟩:=h1.get e1;obtain⟨k1,k2,k3⟩:=h2.get e2;rw[zbe,←hsz,←l1,za5]at g2 g3;rw[zbe]at k2 k3;have ht:((c1++c2).drop 0).take (Ty.pair ua ub).size=c1++c2.take ub.size:=by
      rw[zbe,show(Ty.pair ua ub).size=c1.length+ub.size by simp[Ty.size,l1,hsz],List.take_append,zas (by omega),show c1.length+ub.size-c1.length=ub.size by omega]
     rw[ht];refine⟨by simp[Ty.size];omega,⟨c1,_,rfl,mono1 _ _ _ g2,mono2 _ _ _ k2⟩,fun hf=>?_⟩;simp only[Bool.or_eq_false_iff]at hf;exact⟨c1,_,rfl,g3 hf.1,k3 hf.2⟩
    ·cases hg
   ·exact left _ _ _ _ hg
  ·split at hg
   ·exact left _ _ _ _ hg
   ·exact right _ _ _ _ (by omega) hg
 |.hole _,_,_,_,_,_,_,_,hg=>by simp[BC.get]at hg
theorem Ty.yt (w:World) (F:Nat→Prop):(t:Ty)→{cs:List Value}→{x:t.den}→{r:List Value}→t.dec cs=some (x,r)→∃c,cs=c++r∧Rep w F t x c
 |.int k,cs,x,r,h=>by
  simp only[Ty.dec]at h;split at h
  ·split at h
   ·rename_i hk;obtain⟨rfl,hk⟩:=hk;injection h with h;injection h with h1 h2;subst h1;subst h2;exact⟨[_],rfl,rfl,hk⟩
   ·cases h
  ·cases h
 |.bool,cs,x,r,h=>by
  simp only[Ty.dec]at h;split at h
  ·injection h with h;injection h with h1 h2;subst h1;subst h2;exact⟨[_],rfl,rfl⟩
  ·cases h
 |.str,cs,x,r,h=>by
  simp only[Ty.dec]at h;split at h
  ·split at h
   ·rename_i hk;injection h with h;injection h with h1 h2;subst h1;subst h2;exact⟨[_],rfl,rfl,by simp only[maxLen];omega⟩
   ·cases h
  ·cases h
 |.err,cs,x,r,h=>by
  simp only[Ty.dec]at h;split at h
  ·injection h with h;injection h with h1 h2;subst h1;subst h2;exact⟨[_],rfl,_,rfl,.inl ⟨rfl,rfl⟩⟩
  ·cases h
 |.opt e,cs,x,r,h=>by
  simp only[Ty.dec]at h;split at h
  ·injection h with h;injection h with h1 h2;subst h1;subst h2;exact⟨[_],rfl,_,rfl,.inl ⟨rfl,rfl⟩⟩
  ·cases h
 |.map _ _,cs,x,r,h=>by cases h
 |.unit,cs,x,r,h=>by
  simp only[Ty.dec]at h;injection h with h;injection h with h1 h2;subst h2;exact⟨[],rfl,rfl⟩
 |.pair a b,cs,x,r,h=>by
  simp only[Ty.dec]at h;split at h
  ·rename_i x1 r1 h1;split at h
   ·rename_i x2 r2 h2;injection h with h;injection h with e1 e2;subst e1;subst e2;obtain⟨c1,e1,g1⟩:=Ty.yt w F a h1;obtain⟨c2,e2,g2⟩:=Ty.yt w F b h2;exact⟨c1++c2,by rw[e1,e2,zaC],c1,c2,rfl,g1,g2⟩
   ·cases h
  ·cases h
 |.slice e,cs,x,r,h=>by
  simp only[Ty.dec]at h;split at h
  ·injection h with h;injection h with h1 h2;subst h1;subst h2;exact⟨[_],rfl,_,rfl,.inl ⟨rfl,rfl⟩⟩
  ·cases h
 |.arr n e,cs,x,r,h=>by
  simp only[Ty.dec]at h;cases h
theorem qp2 {E:Env}{tid:Nat}{c:Value}{a:AV}(X:Sit) (h:qmz E tid c=some a):qax X a c []:=by
 unfold qmz at h;split at h
 ·split at h
  ·rename_i hk;injection h with h;subst h;exact⟨rfl,.ofInt _ _ hk⟩
  ·cases h
 ·injection h with h;subst h;exact⟨rfl,.ofBool _ _ _⟩
 ·split at h
  ·rename_i s hs;injection h with h;subst h;refine⟨rfl,?_⟩;have:=qau.ofStr X.w X.F (s:=s.data.toList) (by simp only[maxLen];omega);simpa using this
  ·cases h
 ·split at h
  ·split at h
   ·injection h with h;subst h;exact⟨rfl,rfl⟩
   ·injection h with h;subst h;exact q8.nil_ _ _ _ _
  ·cases h
 ·split at h
  ·injection h with h;subst h;exact⟨rfl,qau.ofErr (.inl ⟨rfl,rfl⟩)⟩
  ·cases h
 ·split at h
  ·injection h with h;subst h;exact⟨rfl,qau.ofOpt (.inl ⟨rfl,rfl⟩)⟩
  ·cases h
 ·split at h
  ·injection h with h;subst h;exact⟨rfl,qau.yA (.inl ⟨rfl,rfl⟩)⟩
  ·cases h
 ·split at h
  ·rename_i t ht;split at h
   ·rename_i hag;split at h
    ·rename_i x hx;injection h with h;subst h;obtain⟨c,e,hr⟩:=Ty.yt X.w X.F t hx;rw[zar]at e;subst e;exact⟨rfl,hr,(fun _=>⟨_,rfl⟩),(fun h=>by rw[hag]at h;cases h)⟩
    ·cases h
   ·cases h
  ·cases h
 ·cases h
def qt7 (X:Sit):Prop:=∀k b,X.pn k=some b→X.tm k=ptr b 0
def qbV (X:Sit) (p:qg3):Prop:=qt7 X∧∀q∈p,X.ver q.1=q.2.1∧X.tm q.1=.bool q.2.2.1∧q.2.2.2=q.2.2.1
theorem qnp {s v:Nat}{w:Bool}: {p:qg3}→qoJ s v w p=true→∃b,(s,v,w,b)∈p
 |[],h=>by simp[qoJ]at h
 |(s',v',w',b')::r,h=>by
  simp only[qoJ,Bool.or_eq_true,zad,beq_iff_eq]at h;rcases h with⟨⟨rfl,rfl⟩,rfl⟩|h
  ·exact⟨b',zai⟩
  ·obtain⟨b,hb⟩:=qnp h;exact⟨b,zae _ hb⟩
theorem qlN {X:Sit}{p:qg3}(hp:qbV X p): {a:AV}→{v:Value}→{bs:List Nat}→qax X a v bs→qax X (qbk p a) v bs
 |.grd s v0 w a,v,bs,h=>by
  unfold qbk;split
  ·rename_i ho;obtain⟨b,hb⟩:=qnp ho;obtain⟨h1,h2,_⟩:=hp.2 _ hb;obtain⟨rfl,h3⟩:=h;exact qlN hp ((h3 h1).1 h2)
  ·trivial
 |.undef,_,_,h=>by unfold qbk;exact h
 |.val _ _,_,_,h=>by unfold qbk;exact h
 |.own _ _ _,_,_,h=>by unfold qbk;exact h
 |.agg _,_,_,h=>by unfold qbk;exact h
 |.box _,_,_,h=>by unfold qbk;exact h
 |.ref _ _,_,_,h=>by unfold qbk;exact h
 |.bref _ _ _ _,_,_,h=>by unfold qbk;exact h
 |.pbox _ _ _,_,_,h=>by unfold qbk;exact h
 |.pip _ _,_,_,h=>by unfold qbk;exact h
 |.prow _ _ _ _ _ _,_,_,h=>by unfold qbk;exact h
 |.osl _ _ _ _ _ _,_,_,h=>by unfold qbk;exact h
 |.view _ _ _,_,_,h=>by unfold qbk;exact h
 |.tup _,_,_,h=>by unfold qbk;exact h
 |.fn _ _,_,_,h=>by unfold qbk;exact h
 |.fnv _ _ _,_,_,h=>by unfold qbk;exact h
 |.amb _ _,_,_,h=>by unfold qbk;exact h
 |.nilr _ _,_,_,h=>by unfold qbk;exact h
 |.nz _ _,_,_,h=>by unfold qbk;exact h
 |.mp _ _ _,_,_,h=>by unfold qbk;exact h
 |.itr _ _ _ _,_,_,h=>by unfold qbk;exact h
 |.lsw _ _ _ _,_,_,h=>by unfold qbk;exact h
 |.lsv _ _ _ _,_,_,h=>by unfold qbk;exact h
 |.lsz _ _ _ _,_,_,h=>by unfold qbk;exact h
 |.hol _ _ _ _ _ _,_,_,h=>by unfold qbk;exact h
 |.bhl _ _ _ _,_,_,h=>by unfold qbk;exact h
 |.parr _ _ _ _ _ _ _,_,_,h=>by unfold qbk;exact h
def qbB (X:Sit) (o:Op1) (v:Value):Prop:=
 match o.s with
 |some t=>v=X.tm t∧o.v=X.ver t∧qax X o.a v (X.own t)
 |none=>qax X o.a v []
section
variable {C:Ctx}{σ:St}{tm:Array Value}{w:World}{own:Nat→List Nat}{ds:List Deferred}
theorem qac.at_ (h:qac C σ tm w own) (s:Nat):qax (sit C σ tm w own) (qt σ s).2 (tm.getD s undef) (own s):=by
 by_cases hs:s<σ.length
 ·exact h.rep s hs
 ·have:qt σ s=(0,.undef):=by simp[qt,List.getD,zaD (show σ.length≤s by omega)]
  rw[this];trivial
theorem opd_ok (h:qac C σ tm w own) {E:Env} [tb:Tabbed E C] {p:qg3}{tid:Nat}{x:Operand}{o:Op1}(hp:qbV (sit C σ tm w own) p) (ho:(opd E p tid x).run (qt σ)=some o):
  qbB (sit C σ tm w own) o ((⟨tm,ds⟩:Act).eval x):=by
 unfold opd at ho;split at ho
 ·rw[Q.yd]at ho;have:=Q.yc ho;subst this;exact⟨rfl,rfl,qlN hp (h.at_ _)⟩
 ·split at ho
  ·rename_i hc;have:=Q.yc ho;subst this;exact qp2 _ hc
  ·cases ho
 ·have:=Q.yc ho;subst this;exact⟨rfl,[],rfl,rfl,rfl⟩
 ·rename_i g;split at ho
  ·rename_i r hg;have:=Q.yc ho;subst this;obtain⟨h1,h2,cs,h3,h4⟩:=qr6 h.tabs (g:=g) (r:=r) (by rw[←tb.eq];exact hg);exact⟨rfl,⟨g,0,none⟩,cs,rfl,h1,h2,h3,h4⟩
  ·cases ho
def FW (X:Sit) (ow:List Nat) (b:Nat):Prop:=X.F b∨∃s∈ow,b∈X.own s∧X.tm s≠ptr b 0
theorem qip {w:World}{F:Nat→Prop}{et:Nat}{e:Ty}{xs:List e.den}{v:Value}{bs:List Nat}(h:q8 w F et e xs v bs) (b:Nat):v≠ptr b 0:=by
 obtain⟨cells,ho⟩:=h.hdr;rcases ho.2 with⟨rfl,_⟩|⟨g,cap,cur,rfl,_⟩<;>(intro h;cases h)
theorem qnm {X:Sit}{b:Nat}(h:FW X [] b):X.F b:=by
 rcases h with h|⟨s,h,_⟩
 ·exact h
 ·cases h
theorem qd2 (h:qac C σ tm w own) {o:Op1}{v:Value}{r:VR}(ho:qbB (sit C σ tm w own) o v) (hr:(qmM o).run (qt σ)=some r):qau w (FW (sit C σ tm w own) r.ow) r.t r.x v:=by
 obtain⟨os,ov,oa⟩:=o;unfold qmM at hr;split at hr
 ·rename_i t x heq;have:=Q.yc hr;subst this;simp only at heq;subst heq;have hv:qau w (sit C σ tm w own).F t x v:=by
   unfold qbB at ho;cases os with
   |some s=>exact ho.2.2.2
   |none=>exact ho.2
  exact hv.mono fun b hb _=>.inl hb
 ·rename_i et e xs heq;have:=Q.yc hr;subst this;simp only at heq;subst heq;unfold qbB at ho;cases os with
  |some s=>exact(q8.rep ho.2.2).mono fun b hb _=>hb.imp id fun hb=>⟨s,by simp,hb,by rw[←ho.1];exact qip ho.2.2 b⟩
  |none=>exact(q8.rep ho).mono fun b hb _=>hb.imp id fun hb=>by cases hb
 ·rename_i et e heq;have:=Q.yc hr;subst this;simp only at heq;subst heq;have hv:v=.slice none 0 0:=by
   unfold qbB at ho;cases os with
   |some s=>exact ho.2.2.2
   |none=>exact ho.2
  rw[hv];exact⟨⟨_,rfl,.inl ⟨rfl,rfl⟩⟩,(fun h=>by cases h),(fun _ cs h=>by cases h)⟩
 ·rename_i e xs heq;have:=Q.yc hr;subst this;simp only at heq;subst heq;have hv:qau w (sit C σ tm w own).F (.slice e) xs v:=by
   unfold qbB at ho;cases os with
   |some s=>exact ho.2.2.2.1
   |none=>exact ho.2.1
  exact hv.mono fun b hb _=>.inl hb
 ·rename_i k t xs heq;have:=Q.yc hr;subst this;simp only at heq;subst heq;unfold qbB at ho;have hne:∀ {bs},qax (sit C σ tm w own) (.mp k t xs) v bs→∀b,v≠ptr b 0:=fun hm b=>by
   obtain⟨_,h1,_⟩:=hm;rw[h1];intro e;cases e
  cases os with
  |some s=>exact(qf9.rep ho.2.2).mono fun b hb _=>hb.imp id fun hb=>⟨s,by simp,hb,by rw[←ho.1];exact hne ho.2.2 b⟩
  |none=>exact(qf9.rep ho).mono fun b hb _=>hb.imp id fun hb=>by cases hb
 ·rename_i s v0 heq;simp only at heq;subst heq;rw[Q.yd]at hr;split at hr
  ·rename_i hv;have hval:tm.getD s undef=v:=by
    unfold qbB at ho;cases os with
    |some t=>exact ho.2.2.2 hv
    |none=>exact ho.2 hv
   have hat:=h.at_ s;rw[hval]at hat;split at hr
   ·rename_i e xs ha;have:=Q.yc hr;subst this;rw[ha]at hat;exact(q8.rep hat).mono fun b hb _=>hb.imp id fun hb=>⟨s,by simp,hb,by show tm.getD s undef≠_;rw[hval];exact qip hat b⟩
   ·rename_i k t xs ha;have:=Q.yc hr;subst this;rw[ha]at hat;exact(qf9.rep hat).mono fun b hb _=>hb.imp id fun hb=>⟨s,by simp,hb,by
     show tm.getD s undef≠_;obtain⟨_,h1,_⟩:=hat;rw[hval,h1];intro e;cases e⟩
   ·rename_i t x ha;have:=Q.yc hr;subst this;rw[ha]at hat;exact hat.2.mono fun b hb _=>.inl hb
   ·cases hr
  ·cases hr
 ·rename_i s v0 off u heq;simp only at heq;subst heq;rw[Q.yd]at hr;split at hr
  ·rename_i hv;split at hr
   ·rename_i c ha;split at hr
    ·rename_i x f hg;have:=Q.yc hr;subst this;have hval:∃b,b∈own s∧tm.getD s undef=ptr b 0∧quO w b off u v:=by
      unfold qbB at ho;cases os with
      |some t=>exact ho.2.2.2 hv
      |none=>exact ho.2 hv
     obtain⟨b,hb,hptr,hva⟩:=hval;have hat:=h.at_ s;rw[ha]at hat;obtain⟨b',cs,bs',te,h1,h2,h3,h4⟩:=hat;rw[hptr]at h1;have hbb:b=b':=by simp[ptr]at h1;exact h1
     subst hbb;obtain⟨g1,g2,g3⟩:=h3.get hg;have hcell:∀j x,cs[j]? =some x→w.cell? ⟨b,j,none⟩=some x:=fun j x hj=>by
      simp[World.cell?,show w.heap[b]? =_ from h2,hj]
     cases f with
     |true=>
      refine(hva.rep hcell g1 g2).mono fun b1 hb1 _=>hb1.imp id fun hb1=>⟨s,by simp,?_,?_⟩
      ·show b1∈own s;rw[h4];exact zae _ hb1
      ·show tm.getD s undef≠_;rw[hptr];have hn:=h.nodup s;rw[h4]at hn;intro he;have:b=b1:=by simp[ptr]at he;exact he
       subst this;exact(zax.1 hn).1 hb1
     |false=>exact(hva.rep hcell g1 (g3 rfl)).mono fun b1 hb1 _=>.inl hb1
    ·cases hr
   ·cases hr
  ·cases hr
 ·cases hr
 ·cases hr
theorem qc8 (h:qac C σ tm w own) {u:Ty}{o:Op1}{v:Value}{r:u.den×List Nat}(ho:qbB (sit C σ tm w own) o v) (hr:(toVal u o).run (qt σ)=some r):qau w (FW (sit C σ tm w own) r.2) u r.1 v:=by
 have hr0:=hr;unfold toVal at hr;split at hr
 ·rename_i c ha;split at hr
  ·rename_i hsz;split at hr
   ·rename_i x f hg;have:=Q.yc hr;subst this;unfold qbB at ho;cases hs:o.s with
    |some s=>
     rw[hs]at ho;obtain⟨hv,_,h3⟩:=ho;rw[ha]at h3;obtain⟨cs,hcs,hb⟩:=h3;obtain⟨g1,g2,g3⟩:=hb.get hg;have hl:=hb.length;rw[zbe,zas (by omega)]at g2 g3;have mk:∀F,Rep w F u x cs→qau w F u x v:=fun F hr=>by
      rw[hcs];exact⟨hr,(fun _=>⟨_,rfl⟩),(fun h=>by rw[hsz.2]at h;cases h)⟩
     cases f with
     |true=>exact mk _ (g2.keep fun b hb hlt=>⟨hb.imp id fun hb=>⟨s,by simp,hb,by rw[←hv,hcs];intro h;cases h⟩,hlt,rfl⟩)
     |false=>exact mk _ ((g3 rfl).keep fun b hb hlt=>⟨.inl hb,hlt,rfl⟩)
    |none=>
     rw[hs]at ho;rw[ha]at ho;obtain⟨cs,hcs,hb⟩:=ho;obtain⟨g1,g2,g3⟩:=hb.get hg;have hl:=hb.length;rw[zbe,zas (by omega)]at g2;rw[hcs];exact⟨g2.keep fun b hb hlt=>⟨hb.elim .inl (fun hb=>by cases hb),hlt,rfl⟩,(fun _=>⟨_,rfl⟩),(fun h=>by rw[hsz.2]at h;cases h)⟩
   ·cases hr
  ·cases hr
 ·rename_i t x off ha;split at hr;case h_2=>cases hr
  split at hr;case isFalse=>cases hr
  rename_i h0;split at hr
  ·rename_i y hy;have:=Q.yc hr;subst this;subst h0;have hv:qax (sit C σ tm w own) (.view t x 0) v []:=by
    unfold qbB at ho;split at ho
    ·obtain⟨_,_,h3⟩:=ho;rw[ha]at h3;exact⟨rfl,h3.2⟩
    ·rw[ha]at ho;exact ho
   obtain⟨_,ad,cs,g1,g2,g3,g4,g5⟩:=hv;refine qau.ofOpt (.inr ⟨y,ad,cs,rfl,?_,.inl g2,g3,g4,?_⟩)
   ·rw[g1];simp[Addr.add]
   ·obtain⟨rfl,rfl⟩:=Ty.ye hy;exact g5.keep fun b hb hlt=>⟨.inl hb,hlt,rfl⟩
  ·cases hr
 ·obtain⟨q,h1,h2⟩:=Q.yb hr;have hq:=qd2 h ho h1;split at h2
  ·rename_i x hx;have:=Q.yc h2;subst this;exact hq.as hx
  ·cases h2
theorem qem (h:qac C σ tm w own) {o:Op1}{v:Value}{r:IntKind×Int}(ho:qbB (sit C σ tm w own) o v) (hr:(qiL o).run (qt σ)=some r):v=.int r.1 r.2∧r.1.has r.2:=by
 unfold qiL at hr;obtain⟨q,h1,h2⟩:=Q.yb hr;have hq:=qd2 h ho h1;split at h2
 ·have:=Q.yc h2;subst this;exact hq.int
 ·cases h2
end
end Go.Vi
namespace Go.Vi
open Go.RowKit
theorem qal (σ:St) (u:U):(qX σ u).length=σ.length:=by simp[qX]
theorem qO (us:List U):∀σ:St,(qk σ us).length=σ.length:=by
 induction us with
 |nil=>intro σ;rfl
 |cons u us ih=>intro σ;show(qk (qX σ u) us).length=_;rw[ih,qal]
theorem qu (σ:St) (u:U) {s:Nat}(h:s≠u.s):qt (qX σ u) s=qt σ s:=by
 simp only[qt,qX,List.getD,List.getElem?_set_ne (Ne.symm h)]
theorem qS (σ:St) (u:U) (h:u.s<σ.length):qt (qX σ u) u.s=((if u.bump then(qt σ u.s).1+1 else(qt σ u.s).1),u.a):=by
 simp only[qt,qX,List.getD,List.getElem?_set_self h,Option.getD_some]
theorem qbC (σ:St) (a b:List U):qk σ (a++b)=qk (qk σ a) b:=List.foldl_append
theorem qbd (tm:Array Value) {d:Nat}(v:Value) (h:d<tm.size):(tm.setIfInBounds d v).getD d undef=v:=by simp[Array.getD,h]
theorem qah (tm:Array Value) {d s:Nat}(v:Value) (h:s≠d):(tm.setIfInBounds d v).getD s undef=tm.getD s undef:=by
 simp only[zaA,Array.getElem?_setIfInBounds_ne (Ne.symm h)]
section
variable {C:Ctx}{σ:St}{tm:Array Value}{w w':World}{own:Nat→List Nat}
theorem qac.world (h:qac C σ tm w own) (hk:qbc (fun _=>False) w w'):qac C σ tm w' own:=
 h.update (fun _=>False) rfl rfl (fun _ _=>⟨rfl,rfl,rfl⟩) (fun _ hd=>hd.elim) (hk.mono fun _ h=>h.elim) (fun _ hd=>hd.elim) (fun _ hd=>hd.elim) (fun _ _ _ hd=>hd.elim) (fun _ hd=>hd.elim) (fun _ hd=>hd.elim)
def qbF (own:Nat→List Nat) (d:Nat) (bs:List Nat):Nat→List Nat:=fun s=>if s=d then bs else own s
def after (C:Ctx) (σ:St) (tm:Array Value) (w w':World) (own:Nat→List Nat) (bs:List Nat):Sit:=
 { P:=C.P,ver:=fun s=>(qt σ s).1,tm:=fun s=>tm.getD s undef,w:=w',F:=fun b=>(C.free w own b∨w.heap.size≤b)∧b<w'.heap.size∧b∉bs,own,pn:=C.pn }
theorem qac.set (h:qac C σ tm w own) (hk:qbc (fun _=>False) w w') {d:Nat}(hd:d<σ.length) {av:AV}{v:Value}{bs:List Nat}(hb:∀b∈bs,w.heap.size≤b∧b<w'.heap.size) (hn:bs.Nodup)
  (hr:qax (after C σ tm w w' own bs) av v bs) (hw:∀m∈av.mentions,m.2≤(qt σ m.1).1):
  qac C (qX σ ⟨d,true,av⟩) (tm.setIfInBounds d v) w' (qbF own d bs):=by
 have hN:C.w0.heap.size≤w.heap.size:=h.kept.size;have e1:qt (qX σ ⟨d,true,av⟩) d=((qt σ d).1+1,av):=qS σ ⟨d,true,av⟩ hd;have e2:(tm.setIfInBounds d v).getD d undef=v:=qbd tm v (by rw[h.size];exact hd);refine h.update (fun s=>s=d) (qal _ _) (by simp) ?_ ?_ (hk.mono fun _ h=>h.elim) ?_ ?_ ?_ ?_ ?_
 ·intro s hs;exact⟨qu _ _ hs,qah tm v hs,by simp[qbF,show s≠d from hs]⟩
 ·rintro s rfl;rw[e1];exact .inl (zbb _)
 ·rintro s rfl;exact hd
 ·rintro s rfl;simp only[qbF,if_true];exact⟨fun b hbm=>.inl (hb b hbm),hn⟩
 ·rintro s s' b rfl rfl _ _;rfl
 ·rintro s rfl;rw[e1,e2];simp only[qbF,if_true];refine qax.keep (X:=after C σ tm w w' own bs) (X':=sit C _ _ w' _) ⟨rfl,rfl⟩ ?_ (fun _ _ _=>rfl) ?_ hr
  ·rintro b ⟨hb1,hb2,hb3⟩ _;refine⟨⟨?_,hb2,fun s' hs'=>?_⟩,hb2,rfl⟩
   ·rcases hb1 with hb1|hb1
    ·exact hb1.1
    ·exact .inr (.inr (by omega))
   ·simp only[qbF]at hs';split at hs'
    ·exact hb3 hs'
    ·rcases hb1 with hb1|hb1
     ·exact hb1.2.2 s' hs'
     ·have:=(h.mine s' b hs').2;omega
  ·intro m hm hv;have hle:=hw m hm;have hv:(qt (qX σ ⟨s,true,av⟩) m.1).1=m.2:=hv;by_cases hms:m.1=s
   ·rw[hms,e1]at hv;rw[hms]at hle;simp only at hv;omega
   ·rw[qu _ _ hms]at hv;refine⟨hv,qah tm v hms,fun b hb _=>⟨?_,rfl⟩⟩;show b∈qbF own s bs m.1;simp only[qbF,if_neg hms];exact hb
 ·rintro s rfl m hm;rw[e1]at hm;have hle:=hw m hm;by_cases hms:m.1=s
  ·rw[hms,e1];rw[hms]at hle;simp only;omega
  ·rw[qu _ _ hms];exact hle
theorem qaD.freeze {F:Nat→Prop}: {c:BC}→{cs:List Value}→{bs:List Nat}→qaD w F c cs bs→qaD w (fun b=>F b∨b∈bs) c.freeze cs []
 |.val _ _,_,_,h=>⟨rfl,h.2.keep fun b hb hs=>⟨.inl hb,hs,rfl⟩⟩
 |.own _ _ _,_,_,⟨v,h1,h2⟩=>by
  subst h1;have:=h2.rep.1;rw[cells_one (h2.rep.2.2 rfl)]at this;exact⟨rfl,this⟩
 |.pair _ _,_,_,⟨c1,c2,b1,b2,h1,h2,h3,h4⟩=>by
  subst h2;exact⟨c1,c2,[],[],h1,rfl,h3.freeze.keep (fun b hb hs=>⟨hb.imp id fun h=>zac _ h,hs,rfl⟩) (fun b hb=>by cases hb),h4.freeze.keep (fun b hb hs=>⟨hb.imp id fun h=>zab _ h,hs,rfl⟩) (fun b hb=>by cases hb)⟩
 |.hole _,_,_,h=>⟨rfl,h.2⟩
theorem qa3.freeze {F:Nat→Prop}: {c:List qoH}→{cs:List Value}→{bs:List Nat}→qa3 w F c cs bs→qa3 w (fun b=>F b∨b∈bs) (c.map qoH.freeze) cs []
 |[],_,_,h=>⟨h.1,rfl⟩
 |c::_,_,_,⟨v,r,b1,b2,h1,h2,h3,h4⟩=>by
  subst h2;refine⟨v,r,[],[],h1,rfl,?_,h4.freeze.keep (fun b hb hs=>⟨hb.imp id fun h=>zab _ h,hs,rfl⟩) (fun b hb=>by cases hb)⟩;cases c with
  |val t x=>exact⟨rfl,h3.2.mono fun b hb _=>.inl hb⟩
  |own et e xs=>exact⟨rfl,(q8.rep h3).mono fun b hb _=>hb.imp id fun h=>zac _ h⟩
  |gone=>rfl
  |nz e xs=>exact⟨rfl,h3.2.1.mono fun b hb _=>.inl hb,h3.2.2⟩
  |agg c=>
   obtain⟨cs,g1,g2⟩:=h3;exact⟨cs,g1,g2.freeze.keep (fun b hb hs=>⟨hb.imp id fun h=>zac _ h,hs,rfl⟩) (fun b hb=>by cases hb)⟩
theorem AV.yo (a:AV) {m:Nat×Nat}(h:m∈a.freeze.mentions):m∈a.mentions:=by
 cases a<;>first|exact h|(cases h)
theorem qax.freeze {X X':Sit}(hP:X'.P=X.P∧X'.pn=X.pn) (hw:X'.w=X.w) (hver:∀s,X'.ver s=X.ver s) (htm:∀s,X'.tm s=X.tm s) (hown:∀s b,b∈X.own s→X.tm s=ptr b 0→b∈X'.own s)
  {bs nb:List Nat}{v:Value}(hnd:bs.Nodup) (hnb:∀b,b∈nb↔b∈bs∧v=ptr b 0) (hn2:nb.Nodup) (hF:∀b,X.F b→X'.F b) (hF2:∀b∈bs,b∉nb→X'.F b) {a:AV}(h:qax X a v bs):qax X' a.freeze v nb:=by
 have same:bs=[]→a.freeze=a→qax X' a.freeze v nb:=fun hb ha=>by
  have hn:nb=[]:=by
   cases nb with
   |nil=>rfl
   |cons b r=>have:=((hnb b).1 zai).1;rw[hb]at this;cases this
  rw[ha,hn];rw[hb]at h;exact qax.keep hP (fun b hb hlt=>⟨hF b hb,by rw[hw];exact hlt,by rw[hw]⟩) (fun b _ _=>by rw[hw]) (fun m _ hv=>⟨by rw[←hver];exact hv,htm m.1,fun b hb hp=>⟨hown _ b hb hp,by rw[hw]⟩⟩) h
 have none_:(∀b,v≠ptr b 0)→nb=[]:=fun hv=>by
  cases nb with
  |nil=>rfl
  |cons b r=>exact absurd ((hnb b).1 zai).2 (hv b)
 cases a with
 |undef=>trivial
 |own et e xs=>
  have hn:=none_ (qip h);subst hn;have hr:qau X.w _ (.slice e) xs _:=q8.rep h;exact⟨rfl,by rw[hw];exact hr.mono fun b hb _=>hb.elim (hF b) fun hb=>hF2 b hb (by simp)⟩
 |agg c=>
  obtain⟨cs,hcs,hb⟩:=h;have hn:=none_ (fun b hp=>by rw[hcs]at hp;cases hp);subst hn;exact⟨cs,hcs,by rw[hw];exact hb.freeze.keep (fun b hb hlt=>⟨hb.elim (hF b) fun hb=>hF2 b hb (by simp),hlt,rfl⟩) (fun _ hb=>by cases hb)⟩
 |tup c=>
  obtain⟨cs,hcs,hb⟩:=h;have hn:=none_ (fun b hp=>by rw[hcs]at hp;cases hp);subst hn;exact⟨cs,hcs,by rw[hw];exact hb.freeze.keep (fun b hb hlt=>⟨hb.elim (hF b) fun hb=>hF2 b hb (by simp),hlt,rfl⟩) (fun _ hb=>by cases hb)⟩
 |box c=>
  obtain⟨b0,cs,bs',te,h1,h2,h3,h4⟩:=h;subst h4;have hne:∀b,v=ptr b 0→b=b0:=fun b hp=>by rw[h1]at hp;simp[ptr]at hp;exact hp.symm
  have hn:nb=[b0]:=by
   have h0:b0∈nb:=(hnb b0).2 ⟨zai,h1⟩;cases nb with
   |nil=>cases h0
   |cons b r=>
    have hb:=hne b ((hnb b).1 zai).2;subst hb;cases r with
    |nil=>rfl
    |cons b' r'=>
     have hb':=hne b' ((hnb b').1 (zae _ zai)).2;subst hb';exact absurd zai (zax.1 hn2).1
  subst hn;refine⟨b0,cs,[],te,h1,by rw[hw];exact h2,?_,rfl⟩;rw[hw];refine h3.freeze.keep (fun b hb hlt=>⟨hb.elim (hF b) fun hb=>hF2 b (zae _ hb) ?_,hlt,rfl⟩) (fun _ hb=>by cases hb);intro hb';simp at hb';subst hb';exact(zax.1 hnd).1 hb
 |val t x=>exact same h.1 rfl
 |ref a b=>exact same h.1 rfl
 |bref a b c d=>exact same h.1 rfl
 |pbox a b c=>exact same h.1 rfl
 |pip a b=>exact same h.1 rfl
 |prow a b c d e f=>exact same h.1 rfl
 |osl a b c d e f=>exact same h.1 rfl
 |view a b c=>exact same h.1 rfl
 |grd a b c d=>exact same h.1 rfl
 |fn a b=>exact same h.1 rfl
 |fnv a b c=>exact same h.1 rfl
 |amb a b=>exact same h.1 rfl
 |nilr a b=>exact same h.1 rfl
 |nz a b=>exact same h.1 rfl
 |itr a b c d=>trivial
 |lsw a b c d=>trivial
 |lsv a b c d=>exact same h.1 rfl
 |lsz a b c d=>exact same h.1 rfl
 |mp k t xs=>
  have hn:=none_ (fun b hp=>by obtain⟨_,h1,_⟩:=h;rw[h1]at hp;cases hp);subst hn;have hr:qau X.w _ (.map k t) (qrI xs) _:=qf9.rep h;exact⟨rfl,by rw[hw];exact hr.mono fun b hb _=>hb.elim (hF b) fun hb=>hF2 b hb (by simp)⟩
 |hol a b c d e f=>trivial
 |bhl a b c d=>trivial
 |parr a b c d e f g=>exact same h.1 rfl
open Classical in
theorem qac.freeze (h:qac C σ tm w own) (s:Nat):∃own',qac C (qX σ ⟨s,false,(qt σ s).2.freeze⟩) tm w own'∧(∀s',s'≠s→own' s'=own s')∧(∀b∈own' s,b∈own s)∧
  (∀b,FW (sit C σ tm w own) [s] b→C.free w own' b):=by
 by_cases hs:s<σ.length;case neg=>
  refine⟨own,?_,fun _ _=>rfl,fun _ hb=>hb,?_⟩
  ·have:qX σ ⟨s,false,(qt σ s).2.freeze⟩=σ:=by simp only[qX];exact List.set_eq_of_length_le (by omega)
   rw[this];exact h
  ·rintro b (hb|⟨s',hs',hb,_⟩)
   ·exact hb
   ·simp at hs';subst hs';have hb:b∈own s':=hb;rw[h.outside s' (by omega)]at hb;cases hb
 have hat:=h.rep s hs;have eS:qt (qX σ ⟨s,false,(qt σ s).2.freeze⟩) s=((qt σ s).1,(qt σ s).2.freeze):=qS σ ⟨s,false,_⟩ hs;have eV:∀s',(qt (qX σ ⟨s,false,(qt σ s).2.freeze⟩) s').1=(qt σ s').1:=fun s'=>by
  by_cases he:s'=s
  ·rw[he,eS]
  ·rw[qu _ _ he]
 have eM:∀s',∀m∈(qt (qX σ ⟨s,false,(qt σ s).2.freeze⟩) s').2.mentions,m∈(qt σ s').2.mentions:=fun s' m hm=>by
  by_cases he:s'=s
  ·rw[he]at hm⊢
   rw[eS]at hm;exact AV.yo _ hm
  ·rwa [qu _ _ he]at hm
 obtain⟨nb,hnb,hnd⟩:∃nb:List Nat,(∀b,b∈nb↔b∈own s∧tm.getD s undef=ptr b 0)∧nb.Nodup:=
  ⟨(own s).filter fun b=>decide (tm.getD s undef=ptr b 0),fun b=>by simp,(h.nodup s).filter _⟩
 have ownSub:∀s' b,b∈qbF own s nb s'→b∈own s':=fun s' b hb=>by
  simp only[qbF]at hb;split at hb
  ·rename_i e;rw[e];exact((hnb b).1 hb).1
  ·exact hb
 have freeMono:∀b,C.free w own b→C.free w (qbF own s nb) b:=fun b hb=>⟨hb.1,hb.2.1,fun s' hs'=>hb.2.2 s' (ownSub s' b hs')⟩;have freeNew:∀b∈own s,b∉nb→C.free w (qbF own s nb) b:=fun b hb hnb=>⟨.inr (h.mine s b hb).1,(h.mine s b hb).2,fun s' hs'=>by
  simp only[qbF]at hs';split at hs'
  ·exact hnb hs'
  ·rename_i hne;exact hne (h.apart s' s b hs' hb)⟩
 have hptr:∀s' b,b∈own s'→tm.getD s' undef=ptr b 0→b∈qbF own s nb s':=fun s' b hb hp=>by
  simp only[qbF];split
  ·rename_i e;subst e;exact(hnb b).2 ⟨hb,hp⟩
  ·exact hb
 refine⟨qbF own s nb,⟨by rw[qal];exact h.size,h.kept,fun s' b hb=>h.mine s' b (ownSub s' b hb),fun s'=>?_,fun s' s'' b hb hb'=>h.apart s' s'' b (ownSub _ _ hb) (ownSub _ _ hb'),fun s' hs'=>?_,?_,?_⟩,fun s' hs'=>by simp[qbF,hs'],fun b hb=>ownSub s b hb,?_⟩
 ·simp only[qbF];split
  ·exact hnd
  ·exact h.nodup s'
 ·rw[qal]at hs';simp only[qbF];split
  ·rename_i e;subst e;omega
  ·exact h.outside s' hs'
 ·intro s' hs';rw[qal]at hs';by_cases he:s'=s
  ·subst he;rw[eS];simp only[qbF,if_true];exact qax.freeze (X:=sit C σ tm w own) (X':=sit C (qX σ ⟨s',false,(qt σ s').2.freeze⟩) tm w (qbF own s' nb)) ⟨rfl,rfl⟩ rfl eV (fun _=>rfl) hptr (h.nodup s') hnb hnd freeMono freeNew hat
  ·rw[qu _ _ he];have hr:=h.rep s' hs';have e3:qbF own s nb s'=own s':=by simp[qbF,he]
   rw[e3];exact qax.keep (X:=sit C σ tm w own) (X':=sit C (qX σ ⟨s,false,(qt σ s).2.freeze⟩) tm w (qbF own s nb)) ⟨rfl,rfl⟩ (fun b hb hlt=>⟨freeMono b hb,hlt,rfl⟩) (fun _ _ _=>rfl) (fun m _ hv=>⟨(eV m.1).symm.trans hv,rfl,fun b hb hp=>⟨hptr m.1 b hb hp,rfl⟩⟩) hr
 ·intro s' m hm;have hm:=eM s' m hm;rw[eV];exact h.wf s' m hm
 ·rintro b (hb|⟨s',hs',hb,hp⟩)
  ·exact freeMono b hb
  ·simp at hs';subst hs';exact freeNew b hb fun hb'=>hp ((hnb b).1 hb').2
open Classical in
theorem qac.weaken (h:qac C σ tm w own) {s:Nat}(hs:s<σ.length) {a':AV}(hm:∀m∈a'.mentions,m∈(qt σ s).2.mentions) {nb:List Nat}(hsub:∀b∈nb,b∈own s) (hnd:nb.Nodup) (hkeep:∀b∈own s,tm.getD s undef=ptr b 0→b∈nb)
  (hrep:∀X':Sit,X'.P=C.P→X'.pn=C.pn→X'.w=w→(∀s',X'.ver s'=(qt σ s').1)→(∀s',X'.tm s'=tm.getD s' undef)→(∀s' b,b∈own s'→tm.getD s' undef=ptr b 0→b∈X'.own s')→(∀b,C.free w own b→X'.F b)→(∀b∈own s,b∉nb→X'.F b)→qax X' a' (tm.getD s undef) nb):
  qac C (qX σ ⟨s,false,a'⟩) tm w (qbF own s nb):=by
 have eS:qt (qX σ ⟨s,false,a'⟩) s=((qt σ s).1,a'):=qS σ ⟨s,false,_⟩ hs;have eV:∀s',(qt (qX σ ⟨s,false,a'⟩) s').1=(qt σ s').1:=fun s'=>by
  by_cases he:s'=s
  ·rw[he,eS]
  ·rw[qu _ _ he]
 have ownSub:∀s' b,b∈qbF own s nb s'→b∈own s':=fun s' b hb=>by
  simp only[qbF]at hb;split at hb
  ·rename_i e;rw[e];exact hsub b hb
  ·exact hb
 have freeMono:∀b,C.free w own b→C.free w (qbF own s nb) b:=fun b hb=>⟨hb.1,hb.2.1,fun s' hs'=>hb.2.2 s' (ownSub s' b hs')⟩;have freeNew:∀b∈own s,b∉nb→C.free w (qbF own s nb) b:=fun b hb hnb=>⟨.inr (h.mine s b hb).1,(h.mine s b hb).2,fun s' hs'=>by
  simp only[qbF]at hs';split at hs'
  ·exact hnb hs'
  ·rename_i hne;exact hne (h.apart s' s b hs' hb)⟩
 have hptr:∀s' b,b∈own s'→tm.getD s' undef=ptr b 0→b∈qbF own s nb s':=fun s' b hb hp=>by
  simp only[qbF];split
  ·rename_i e;subst e;exact hkeep b hb hp
  ·exact hb
 refine⟨by rw[qal];exact h.size,h.kept,fun s' b hb=>h.mine s' b (ownSub s' b hb),fun s'=>?_,fun s' s'' b hb hb'=>h.apart s' s'' b (ownSub _ _ hb) (ownSub _ _ hb'),fun s' hs'=>?_,?_,?_⟩
 ·simp only[qbF];split
  ·exact hnd
  ·exact h.nodup s'
 ·rw[qal]at hs';simp only[qbF];split
  ·rename_i e;subst e;omega
  ·exact h.outside s' hs'
 ·intro s' hs';rw[qal]at hs';by_cases he:s'=s
  ·subst he;rw[eS];have e3:qbF own s' nb s'=nb:=by simp[qbF]
   rw[e3];exact hrep (sit C (qX σ ⟨s',false,a'⟩) tm w (qbF own s' nb)) rfl rfl rfl eV (fun _=>rfl) hptr freeMono freeNew
  ·rw[qu _ _ he];have hr:=h.rep s' hs';have e3:qbF own s nb s'=own s':=by simp[qbF,he]
   rw[e3];exact qax.keep (X:=sit C σ tm w own) (X':=sit C (qX σ ⟨s,false,a'⟩) tm w (qbF own s nb)) ⟨rfl,rfl⟩ (fun b hb hlt=>⟨freeMono b hb,hlt,rfl⟩) (fun _ _ _=>rfl) (fun m _ hv=>⟨(eV m.1).symm.trans hv,rfl,fun b hb hp=>⟨hptr m.1 b hb hp,rfl⟩⟩) hr
 ·intro s' m hm';by_cases he:s'=s
  ·subst he;rw[eS]at hm';rw[eV];exact h.wf s' m (hm m hm')
  ·rw[qu _ _ he]at hm';rw[eV];exact h.wf s' m hm'
theorem quW {l1 l2:List Nat}(h:l1.Sublist l2) (hn:l2.Nodup):l2.Perm (l1++l2.filter (fun k=>decide (k∉l1))):=by
 refine(List.perm_ext_iff_of_nodup hn ?_).2 fun a=>?_
 ·refine zah.2 ⟨hn.sublist h,hn.sublist List.filter_sublist,fun b hb b' hb' e=>?_⟩;subst e;have:=(List.mem_filter.1 hb').2;exact(of_decide_eq_true this) hb
 ·constructor
  ·intro ha;by_cases hm:a∈l1
   ·exact zac _ hm
   ·exact zab _ (List.mem_filter.2 ⟨ha,by simpa using hm⟩)
  ·intro ha;rcases zaj.1 ha with ha|ha
   ·exact h.subset ha
   ·exact(List.mem_filter.1 ha).1
theorem qaD.fit {w:World}{F:Nat→Prop}:(b:qcv)→{c:BC}→{cs:List Value}→{bs:List Nat}→{x:b.den}→qaD w F c cs bs→bs.Nodup→c.fit b=some x→∃b1:List Nat,b1.Sublist bs∧∀F':Nat→Prop,(∀k,F k→F' k)→(∀k∈bs,k∉b1→F' k)→qaD w F' (b.un x) cs b1
 |.val t,c,cs,bs,x,h,hn,hf=>by
  simp only[BC.fit]at hf;split at hf;case isFalse=>cases hf
  rename_i hsz;split at hf;case h_2=>cases hf
  rename_i r hg;injection hf with hf;subst hf;obtain⟨g1,g2,_⟩:=h.get (y:=r.1) (f:=r.2) hg;have hl:=h.length;rw[zbe,zas (by omega)]at g2;refine⟨[],List.nil_sublist _,fun F' h1 h2=>⟨rfl,g2.keep fun k hk hlt=>⟨?_,hlt,rfl⟩⟩⟩;rcases hk with hk|hk
  ·exact h1 k hk
  ·exact h2 k hk (by simp)
 |.own et e,c,cs,bs,x,h,hn,hf=>by
  unfold BC.fit at hf;split at hf;case h_2=>cases hf
  rename_i et' e' xs;split at hf;case isFalse=>cases hf
  rename_i he;subst he;obtain⟨e1,e2⟩:=Ty.ye hf;injection e1 with e1;subst e1;have e2:xs=x:=e2;subst e2;exact⟨bs,List.Sublist.refl _,fun F' h1 h2=>qaD.keep (fun k hk hlt=>⟨h1 k hk,hlt,rfl⟩) (fun _ _ _=>rfl) h⟩
 |.pair a b,c,cs,bs,x,h,hn,hf=>by
  unfold BC.fit at hf;split at hf
  ·rename_i c1 c2;split at hf;case h_2=>cases hf
   rename_i x1 x2 hf1 hf2;injection hf with hf;subst hf;obtain⟨d1,d2,e1,e2,rfl,rfl,k1,k2⟩:=h;obtain⟨n1,n2,n3⟩:=zah.1 hn;obtain⟨p1,q1,r1⟩:=k1.fit a n1 hf1;obtain⟨p2,q2,r2⟩:=k2.fit b n2 hf2;refine⟨p1++p2,q1.append q2,fun F' h1 h2=>⟨d1,d2,p1,p2,rfl,rfl,r1 F' h1 fun k hk hkn=>h2 k (zac _ hk) fun hm=>?_,r2 F' h1 fun k hk hkn=>h2 k (zab _ hk) fun hm=>?_⟩⟩
   ·rcases zaj.1 hm with hm|hm
    ·exact hkn hm
    ·exact n3 k hk k (q2.subset hm) rfl
   ·rcases zaj.1 hm with hm|hm
    ·exact n3 k (q1.subset hm) k hk rfl
    ·exact hkn hm
  ·rename_i ta tb y;split at hf;case h_2=>cases hf
   rename_i x1 x2 hf1 hf2;injection hf with hf;subst hf;obtain⟨h0,d1,d2,rfl,k1,k2⟩:=h;subst h0;obtain⟨p1,q1,r1⟩:=qaD.fit (F:=F) a (c:= .val ta y.1) (bs:=[]) ⟨rfl,k1⟩ zaH hf1;obtain⟨p2,q2,r2⟩:=qaD.fit (F:=F) b (c:= .val tb y.2) (bs:=[]) ⟨rfl,k2⟩ zaH hf2;have:=List.sublist_nil.1 q1;subst this;have:=List.sublist_nil.1 q2;subst this;exact⟨[],List.Sublist.refl _,fun F' h1 h2=>⟨d1,d2,[],[],rfl,rfl,r1 F' h1 fun k hk=>(by cases hk),r2 F' h1 fun k hk=>(by cases hk)⟩⟩
  ·cases hf
 |.hole n,_,_,_,_,_,_,hf=>by cases hf
theorem qac.refit (h:qac C σ tm w own) (sh:qeI) (s:Nat):∃own',qac C (qX σ ⟨s,false,(qt σ s).2.refit sh⟩) tm w own':=by
 have fz:∃own',qac C (qX σ ⟨s,false,(qt σ s).2.freeze⟩) tm w own':=by
  obtain⟨own',h1,_⟩:=h.freeze s;exact⟨own',h1⟩
 unfold AV.refit;split
 ·rename_i b c heq;split
  ·rename_i x hx;have hs:s<σ.length:=by
    by_cases hs:s<σ.length
    ·exact hs
    ·have:qt σ s=(0,.undef):=by simp[qt,List.getD,zaD (Nat.le_of_not_lt hs)]
     rw[this]at heq;cases heq
   have hat:=h.rep s hs;rw[heq]at hat;obtain⟨b0,cs,bs',te,h1,h2,h3,h4⟩:=hat;have hnd:=h.nodup s;rw[h4]at hnd;have hnd:=zax.1 hnd;obtain⟨b1,q1,q2⟩:=h3.fit b hnd.2 hx;refine⟨_,h.weaken hs (nb:=b0::b1) (fun m hm=>by cases hm) (fun k hk=>?_) (zax.2 ⟨fun hm=>hnd.1 (q1.subset hm),hnd.2.sublist q1⟩) (fun k hk hp=>?_) ?_⟩
   ·rw[h4];rcases zam.1 hk with rfl|hk
    ·exact zai
    ·exact zae _ (q1.subset hk)
   ·have:k=b0:=by
     rw[h1]at hp;simp[ptr]at hp;exact hp.symm
    rw[this];exact zai
   ·intro X' hP hpn hw hver htm hown hF hF2;refine⟨b0,cs,b1,te,h1,by rw[hw];exact h2,?_,rfl⟩;rw[hw];refine q2 X'.F hF fun k hk hkn=>hF2 k (by rw[h4];exact zae _ hk) fun hm=>?_;rcases zam.1 hm with rfl|hm
    ·exact hnd.1 hk
    ·exact hkn hm
  ·rw[heq]at fz;exact fz
 ·exact fz
end
end Go.Vi
