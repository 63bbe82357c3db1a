import GoSem.Claims
import Derived.Control
import Derived.Below
import Derived.Laws.AppendOwn
import Derived.Laws.OwnMore
import Derived.Laws.Slices
import Derived.WalkKit
set_option linter.unusedVariables false
set_option linter.unusedSimpArgs false
set_option linter.unnecessarySimpa false
set_option linter.unusedSectionVars false
namespace Go.Vi
noncomputable def qU {α:Type} (x:α): { y:α // y=x } :=Classical.choice ⟨⟨x,rfl⟩⟩
noncomputable def qK (k:IntKind) (x y:Int):Int:=(qU (α:=IntKind→Int→Int→Int) fun k x y=>k.wrap (x+y)).1 k x y
theorem qjh (k:IntKind) (x y:Int):qK k x y=(k.wrap (x+y)):=by unfold qK; rw [(qU _).2]
noncomputable def qG (k:IntKind) (x y:Int):Int:=(qU (α:=IntKind→Int→Int→Int) fun k x y=>k.wrap (x - y)).1 k x y
theorem qhY (k:IntKind) (x y:Int):qG k x y=(k.wrap (x - y)):=by unfold qG; rw [(qU _).2]
noncomputable def qjB (k:IntKind) (x y:Int):Int:=(qU (α:=IntKind→Int→Int→Int) fun k x y=>k.wrap (x * y)).1 k x y
theorem qd2 (k:IntKind) (x y:Int):qjB k x y=(k.wrap (x * y)):=by unfold qjB; rw [(qU _).2]
noncomputable def qoZ (k:IntKind) (x y:Int):Int:=(qU (α:=IntKind→Int→Int→Int) fun k x y=>k.wrap (x.tdiv y)).1 k x y
theorem qjr (k:IntKind) (x y:Int):qoZ k x y=(k.wrap (x.tdiv y)):=by unfold qoZ; rw [(qU _).2]
noncomputable def irem (x y:Int):Int:=(qU (α:=Int→Int→Int) fun x y=>x.tmod y).1 x y
theorem qqg (x y:Int):irem x y=(x.tmod y):=by unfold irem; rw [(qU _).2]
noncomputable def ineg (k:IntKind) (x:Int):Int:=(qU (α:=IntKind→Int→Int) fun k x=>k.wrap (0 - x)).1 k x
theorem qqe (k:IntKind) (x:Int):ineg k x=(k.wrap (0 - x)):=by unfold ineg; rw [(qU _).2]
noncomputable def qbs (k:IntKind) (x:Int):Int:=(qU (α:=IntKind→Int→Int) fun k x=>k.wrap x).1 k x
theorem qe9 (k:IntKind) (x:Int):qbs k x=(k.wrap x):=by unfold qbs; rw [(qU _).2]
noncomputable def quA (k:IntKind) (x y:Int):Int:=(qU (α:=IntKind→Int→Int→Int) fun k x y=>k.wrap ((BitVec.ofInt k.bits x&&& BitVec.ofInt k.bits y).toNat:Int)).1 k x y
theorem qnF (k:IntKind) (x y:Int):quA k x y=(k.wrap ((BitVec.ofInt k.bits x&&& BitVec.ofInt k.bits y).toNat:Int)):=by unfold quA; rw [(qU _).2]
noncomputable def bor (k:IntKind) (x y:Int):Int:=(qU (α:=IntKind→Int→Int→Int) fun k x y=>k.wrap ((BitVec.ofInt k.bits x|||BitVec.ofInt k.bits y).toNat:Int)).1 k x y
theorem qsP (k:IntKind) (x y:Int):bor k x y=(k.wrap ((BitVec.ofInt k.bits x|||BitVec.ofInt k.bits y).toNat:Int)):=by unfold bor; rw [(qU _).2]
noncomputable def qh4 (k:IntKind) (x y:Int):Int:=(qU (α:=IntKind→Int→Int→Int) fun k x y=>k.wrap ((BitVec.ofInt k.bits x ^^^ BitVec.ofInt k.bits y).toNat:Int)).1 k x y
theorem qkP (k:IntKind) (x y:Int):qh4 k x y=(k.wrap ((BitVec.ofInt k.bits x ^^^ BitVec.ofInt k.bits y).toNat:Int)):=by unfold qh4; rw [(qU _).2]
noncomputable def qnC (k:IntKind) (x y:Int):Int:=(qU (α:=IntKind→Int→Int→Int) fun k x y=>k.wrap ((BitVec.ofInt k.bits x&&& ~~~ BitVec.ofInt k.bits y).toNat:Int)).1 k x y
theorem qmb (k:IntKind) (x y:Int):qnC k x y=(k.wrap ((BitVec.ofInt k.bits x&&& ~~~ BitVec.ofInt k.bits y).toNat:Int)):=by unfold qnC; rw [(qU _).2]
noncomputable def qjL (k:IntKind) (x y:Int):Int:=(qU (α:=IntKind→Int→Int→Int) fun k x y=>k.wrap (x * 2^ (min y.toNat k.bits))).1 k x y
theorem qnG (k:IntKind) (x y:Int):qjL k x y=(k.wrap (x * 2^ (min y.toNat k.bits))):=by unfold qjL; rw [(qU _).2]
noncomputable def qgr (k:IntKind) (x y:Int):Int:=(qU (α:=IntKind→Int→Int→Int) fun k x y=>x.fdiv (2^ (min y.toNat k.bits))).1 k x y
theorem qkT (k:IntKind) (x y:Int):qgr k x y=(x.fdiv (2^ (min y.toNat k.bits))):=by unfold qgr; rw [(qU _).2]
noncomputable def eqI (x y:Int):Bool:=(qU (α:=Int→Int→Bool) fun x y=>x == y).1 x y
theorem qil (x y:Int):eqI x y=(x == y):=by unfold eqI; rw [(qU _).2]
noncomputable def neI (x y:Int):Bool:=(qU (α:=Int→Int→Bool) fun x y=>x != y).1 x y
theorem qlH (x y:Int):neI x y=(x != y):=by unfold neI; rw [(qU _).2]
noncomputable def ltI (x y:Int):Bool:=(qU (α:=Int→Int→Bool) fun x y=>decide (x<y)).1 x y
theorem qbm (x y:Int):ltI x y=(decide (x<y)):=by unfold ltI; rw [(qU _).2]
noncomputable def leI (x y:Int):Bool:=(qU (α:=Int→Int→Bool) fun x y=>decide (x≤y)).1 x y
theorem qbz (x y:Int):leI x y=(decide (x≤y)):=by unfold leI; rw [(qU _).2]
noncomputable def maxI (x y:Int):Int:=(qU (α:=Int→Int→Int) fun x y=>if y > x then y else x).1 x y
theorem qqs (x y:Int):maxI x y=((if y > x then y else x)):=by unfold maxI; rw [(qU _).2]
noncomputable def minI (x y:Int):Int:=(qU (α:=Int→Int→Int) fun x y=>if y<x then y else x).1 x y
theorem qkU (x y:Int):minI x y=((if y<x then y else x)):=by unfold minI; rw [(qU _).2]
noncomputable def eqB (x y:Bool):Bool:=(qU (α:=Bool→Bool→Bool) fun x y=>x == y).1 x y
theorem qnj (x y:Bool):eqB x y=(x == y):=by unfold eqB; rw [(qU _).2]
noncomputable def eqS (x y:List UInt8):Bool:=(qU (α:=(List UInt8)→(List UInt8)→Bool) fun x y=>x == y).1 x y
theorem qpc (x y:List UInt8):eqS x y=(x == y):=by unfold eqS; rw [(qU _).2]
noncomputable def qoi (x y:List UInt8):Bool:=(qU (α:=(List UInt8)→(List UInt8)→Bool) fun x y=>Op.bytesLess x y).1 x y
theorem qoa (x y:List UInt8):qoi x y=(Op.bytesLess x y):=by unfold qoi; rw [(qU _).2]
noncomputable def qt {α:Type} (xs:List α):Int:=(qU (α:=(List α)→Int) fun xs=>(xs.length:Int)).1 xs
theorem qn {α:Type} (xs:List α):qt xs=((xs.length:Int)):=by unfold qt; rw [(qU _).2]
noncomputable def qk {α:Type} (xs:List α) (i:Int) (d:α):α:=(qU (α:=(List α)→Int→α→α) fun xs i d=>xs.getD i.toNat d).1 xs i d
theorem qhT {α:Type} (xs:List α) (i:Int) (d:α):qk xs i d=(xs.getD i.toNat d):=by unfold qk; rw [(qU _).2]
noncomputable def qbG {α:Type} (xs:List α) (i:Int) (x:α):List α:=(qU (α:=(List α)→Int→α→(List α)) fun xs i x=>xs.set i.toNat x).1 xs i x
theorem qbK {α:Type} (xs:List α) (i:Int) (x:α):qbG xs i x=(xs.set i.toNat x):=by unfold qbG; rw [(qU _).2]
noncomputable def qe2 {α:Type} (xs ys:List α):List α:=(qU (α:=(List α)→(List α)→(List α)) fun xs ys=>xs++ys).1 xs ys
theorem qbw {α:Type} (xs ys:List α):qe2 xs ys=(xs++ys):=by unfold qe2; rw [(qU _).2]
noncomputable def qbe {α:Type} (xs:List α) (lo hi:Int):List α:=(qU (α:=(List α)→Int→Int→(List α)) fun xs lo hi=>(xs.take hi.toNat).drop lo.toNat).1 xs lo hi
theorem qdP {α:Type} (xs:List α) (lo hi:Int):qbe xs lo hi=((xs.take hi.toNat).drop lo.toNat):=by unfold qbe; rw [(qU _).2]
noncomputable def qmg {α:Type} (xs:List α) (i j:Int):List α:=(qU (α:=(List α)→Int→Int→(List α)) fun xs i j=>match xs[i.toNat]?,xs[j.toNat]? with|some x,some y=>(xs.set i.toNat y).set j.toNat x|_,_=>xs).1 xs i j
theorem qp1 {α:Type} (xs:List α) (i j:Int):qmg xs i j=(match xs[i.toNat]?,xs[j.toNat]? with|some x,some y=>(xs.set i.toNat y).set j.toNat x|_,_=>xs):=by unfold qmg; rw [(qU _).2]
noncomputable def qtS {α:Type} (n:Int) (x:α):List α:=(qU (α:=Int→α→(List α)) fun n x=>List.replicate n.toNat x).1 n x
theorem qjm {α:Type} (n:Int) (x:α):qtS n x=(List.replicate n.toNat x):=by unfold qtS; rw [(qU _).2]
noncomputable def qms (b:UInt8):Int:=(qU (α:=UInt8→Int) fun b=>(b.toNat:Int)).1 b
theorem qgh (b:UInt8):qms b=((b.toNat:Int)):=by unfold qms; rw [(qU _).2]
noncomputable def qlu (xs:List UInt8):List Int:=(qU (α:=(List UInt8)→(List Int)) fun xs=>xs.map qms).1 xs
theorem qga (xs:List UInt8):qlu xs=(xs.map qms):=by unfold qlu; rw [(qU _).2]
noncomputable def qty (xs:List Int):List UInt8:=(qU (α:=(List Int)→(List UInt8)) fun xs=>xs.map fun n=>UInt8.ofNat n.toNat).1 xs
theorem qll (xs:List Int):qty xs=(xs.map fun n=>UInt8.ofNat n.toNat):=by unfold qty; rw [(qU _).2]
noncomputable def inB (i n:Int):Bool:=(qU (α:=Int→Int→Bool) fun i n=>decide (0≤i)&&decide (i<n)).1 i n
theorem qfe (i n:Int):inB i n=(decide (0≤i)&&decide (i<n)):=by unfold inB; rw [(qU _).2]
noncomputable def inS (lo hi n:Int):Bool:=(qU (α:=Int→Int→Int→Bool) fun lo hi n=>decide (0≤lo)&&(decide (lo≤hi)&&decide (hi≤n))).1 lo hi n
theorem qnp (lo hi n:Int):inS lo hi n=(decide (0≤lo)&&(decide (lo≤hi)&&decide (hi≤n))):=by unfold inS; rw [(qU _).2]
noncomputable def room (n:Int) (b:Nat):Bool:=(qU (α:=Int→Nat→Bool) fun n b=>decide (0≤n)&&decide (n * (b:Int)≤140737488355328)).1 n b
theorem qqj (n:Int) (b:Nat):room n b=(decide (0≤n)&&decide (n * (b:Int)≤140737488355328)):=by unfold room; rw [(qU _).2]
noncomputable def qcX (n m:Int) (b:Nat):Bool:=(qU (α:=Int→Int→Nat→Bool) fun n m b=>decide ((n+m) * (b:Int)≤140737488355328)).1 n m b
theorem qhf (n m:Int) (b:Nat):qcX n m b=(decide ((n+m) * (b:Int)≤140737488355328)):=by unfold qcX; rw [(qU _).2]
noncomputable def qw {α:Type} (x:Option α):Bool:=(qU (α:=(Option α)→Bool) fun x=>x.isSome).1 x
theorem qgk {α:Type} (x:Option α):qw x=(x.isSome):=by unfold qw; rw [(qU _).2]
noncomputable def qr {α:Type} (x:Option α) (d:α):α:=(qU (α:=(Option α)→α→α) fun x d=>x.getD d).1 x d
theorem qjl {α:Type} (x:Option α) (d:α):qr x d=(x.getD d):=by unfold qr; rw [(qU _).2]
noncomputable def q9 {α β:Type} (x:α) (f:α→β):β:=(qU (α:=α→(α→β)→β) fun x f=>f x).1 x f
theorem qH {α β:Type} (x:α) (f:α→β):q9 x f=f x:=by unfold q9; rw [(qU _).2]
noncomputable def qgy {α β:Type} (f:α→β) (x:Option α):Option β:=(qU (α:=(α→β)→(Option α)→Option β) fun f x=>x.map f).1 f x
theorem qdg {α β:Type} (f:α→β) (x:Option α):qgy f x=(x.map f):=by unfold qgy; rw [(qU _).2]
noncomputable def qq7 {α:Type} (x y:Option α):Option α:=(qU (α:=(Option α)→(Option α)→(Option α)) fun x y=>open Classical in if x=y then x else none).1 x y
open Classical in
theorem qjA {α:Type} (x y:Option α):qq7 x y=(if x=y then x else none):=by unfold qq7; rw [(qU _).2]
open Classical in
noncomputable def qeT {α β:Type} (xs:List (α×β)) (k:α):Nat:=xs.findIdx fun p=>decide (p.1=k)
def qq1 {α β:Type} (xs:List (α×β)) (i:Nat) (v:β):List (α×β):=match xs[i]? with
 |some p=>xs.set i (p.1,v)
 |none=>xs
noncomputable def qo0 {α β:Type} (xs:List (α×β)) (k:α):Bool:=(qU (α:=List (α×β)→α→Bool) fun xs k=>decide (qeT xs k<xs.length)).1 xs k
theorem qfD {α β:Type} (xs:List (α×β)) (k:α):qo0 xs k=decide (qeT xs k<xs.length):=by unfold qo0; rw [(qU _).2]
noncomputable def quR {α β:Type} (xs:List (α×β)) (k:α):List (α×β):=(qU (α:=List (α×β)→α→List (α×β)) fun xs k=>xs.eraseIdx (qeT xs k)).1 xs k
theorem qi6 {α β:Type} (xs:List (α×β)) (k:α):quR xs k=xs.eraseIdx (qeT xs k):=by unfold quR; rw [(qU _).2]
noncomputable def qkv {α β:Type} (xs:List (α×β)) (k:α) (d:β):β:=(qU (α:=List (α×β)→α→β→β) fun xs k d=>((xs[qeT xs k]?).map (·.2)).getD d).1 xs k d
theorem qfC {α β:Type} (xs:List (α×β)) (k:α) (d:β):qkv xs k d=((xs[qeT xs k]?).map (·.2)).getD d:=by unfold qkv; rw [(qU _).2]
noncomputable def qmI {α β:Type} (xs:List (α×β)) (k:α) (v:β):List (α×β):=(qU (α:=List (α×β)→α→β→List (α×β)) fun xs k v=>if qeT xs k<xs.length then qq1 xs (qeT xs k) v else xs++[(k,v)]).1 xs k v
theorem qhN {α β:Type} (xs:List (α×β)) (k:α) (v:β):qmI xs k v=if qeT xs k<xs.length then qq1 xs (qeT xs k) v else xs++[(k,v)]:=by unfold qmI; rw [(qU _).2]
noncomputable def qq9 {α β:Type} (xs:List (α×β)):List (α×β):=(qU (α:=List (α×β)→List (α×β)) fun xs=> @Classical.epsilon _ ⟨[]⟩ fun ys=>ys.Perm xs).1 xs
theorem qur {α β:Type} (xs:List (α×β)):qq9 xs= @Classical.epsilon _ ⟨[]⟩ fun ys=>ys.Perm xs:=by unfold qq9; rw [(qU _).2]
theorem qoA {α β:Type} (xs:List (α×β)):(qq9 xs).Perm xs:=by rw [qur]; exact @Classical.epsilon_spec _ (fun ys=>ys.Perm xs) ⟨xs,List.Perm.refl _⟩
def qab {S R:Type} (n:Nat) (step:(S→Option R)→S→Option R):S→Option R:=
 match n with
 |0=>fun _=>none
 |n+1=>step (qab n step)
noncomputable def mapG {E S R:Type} (step:(S→Option R)→E→List E→S→Option R) (fin:S→Option R):Nat→List E→S→Option R
 |0,_,s=>fin s
 |n+1,xs,s=>open Classical in if h:∃y,∀(j:Nat) (hj:j<xs.length),step (mapG step fin n (xs.eraseIdx j)) (xs[j]) (xs.eraseIdx j) s=some y then some h.choose else none
noncomputable def mapF {E S R:Type} (step:(S→Option R)→E→List E→S→Option R) (fin:S→Option R) (xs:List E) (s:S):Option R:=mapG step fin xs.length xs s
theorem qtZ {E S R:Type} (step:(S→Option R)→E→List E→S→Option R) (fin:S→Option R) (s:S):mapF step fin [] s=fin s:=rfl
theorem qs2 {E S R:Type} {step:(S→Option R)→E→List E→S→Option R} {fin:S→Option R} {xs:List E} {s:S} {r:R} (h:mapF step fin xs s=some r) (hx:xs≠[]) (j:Nat) (hj:j<xs.length):step (mapF step fin (xs.eraseIdx j)) (xs[j]) (xs.eraseIdx j) s=some r:=by
 unfold mapF at h⊢
 obtain ⟨n,hn⟩:∃n,xs.length=n+1:=⟨xs.length - 1,by omega⟩
 have he:(xs.eraseIdx j).length=n:=by rw [List.length_eraseIdx_of_lt hj,hn]; rfl
 rw [he]
 rw [hn] at h
 unfold mapG at h
 split at h
 ·rename_i hy
  injection h with h
  rw [←h]
  exact hy.choose_spec j hj
 ·cases h
end Go.Vi
namespace Go.Vi
theorem qqy {α β:Type} : {xs:List (α×β)} →(xs.map (·.1)).Nodup→ {p q:α×β} →p∈xs→q∈xs→p.1=q.1→p=q
 |[],_,_,_,h,_,_=>by cases h
 |a::r,hn,p,q,hp,hq,e=>by
  rw [List.map_cons,List.nodup_cons] at hn
  rcases List.mem_cons.1 hp with rfl|hp1 <;> rcases List.mem_cons.1 hq with rfl|hq1
  ·rfl
  ·exact absurd (by rw [e]; exact List.mem_map_of_mem (f:=(·.1)) hq1) hn.1
  ·exact absurd (by rw [←e]; exact List.mem_map_of_mem (f:=(·.1)) hp1) hn.1
  ·exact qqy hn.2 hp1 hq1 e
theorem qnD {α β:Type} {xs:List (α×β)} {k:α} :qeT xs k<xs.length↔∃p∈xs,p.1=k:=by
 unfold qeT
 rw [List.findIdx_lt_length]
 simp
theorem qsT {α β:Type} {xs:List (α×β)} {k:α} (h:qeT xs k<xs.length):(xs[qeT xs k]'h).1=k:=by
 unfold qeT at h⊢
 have:=List.findIdx_getElem (w:=h)
 simpa using this
theorem qqr {α β:Type} {xs:List (α×β)} {k:α} :qo0 xs k=true↔∃p∈xs,p.1=k:=by rw [qfD,decide_eq_true_eq,qnD]
theorem qrT {α β:Type} {xs ys:List (α×β)} (h:ys.Perm xs) (k:α):qo0 ys k=qo0 xs k:=by
 rw [Bool.eq_iff_iff,qqr,qqr]
 exact ⟨fun ⟨p,h1,h2⟩=>⟨p,h.mem_iff.1 h1,h2⟩,fun ⟨p,h1,h2⟩=>⟨p,h.mem_iff.2 h1,h2⟩⟩
theorem qpX {α β:Type} {xs:List (α×β)} (hn:(xs.map (·.1)).Nodup) {q:α×β} (hq:q∈xs) (d:β):qkv xs q.1 d=q.2:=by
 have h:=qnD.2 ⟨q,hq,rfl⟩
 rw [qfC,List.getElem?_eq_getElem h]
 have:=qqy hn (List.getElem_mem h) hq (qsT h)
 simp [this]
theorem qp2 {α β:Type} {xs:List (α×β)} {k:α} (h:¬∃p∈xs,p.1=k) (d:β):qkv xs k d=d:=by
 have h:¬qeT xs k<xs.length:=fun hh=>h (qnD.1 hh)
 rw [qfC,List.getElem?_eq_none (by omega)]
 rfl
theorem qsx {α β:Type} {xs ys:List (α×β)} (h:ys.Perm xs) (hn:(xs.map (·.1)).Nodup) (k:α) (d:β):qkv ys k d=qkv xs k d:=by
 have hn':(ys.map (·.1)).Nodup:=(h.map _).nodup_iff.2 hn
 by_cases hk:∃p∈xs,p.1=k
 ·obtain ⟨p,h1,rfl⟩:=hk
  rw [qpX hn h1,qpX hn' (h.mem_iff.2 h1)]
 ·rw [qp2 hk,qp2 fun ⟨p,h1,h2⟩=>hk ⟨p,h.mem_iff.1 h1,h2⟩]
theorem qn9 {α β:Type} {xs:List (α×β)} (hn:(xs.map (·.1)).Nodup) (k:α) (v:β):((qmI xs k v).map (·.1)).Nodup:=by
 rw [qhN]
 by_cases h:qeT xs k<xs.length
 ·rw [if_pos h]
  unfold qq1
  rw [List.getElem?_eq_getElem h]
  have e:(xs.set (qeT xs k) (xs[qeT xs k].1,v)).map (·.1)=xs.map (·.1):=by
   refine List.ext_getElem (by simp) fun i h1 h2=> ?_
   simp only [List.getElem_map,List.getElem_set]
   split
   ·rename_i e; simp [e]
   ·rfl
  simp only
  rw [e]; exact hn
 ·rw [if_neg h,List.map_append,List.nodup_append]
  refine ⟨hn,by simp,fun a ha b hb e=> ?_⟩
  have hb:b=k:=by simpa using hb
  obtain ⟨p,hp,e2⟩:=List.mem_map.1 ha
  exact h (qnD.2 ⟨p,hp,by rw [e2,e,hb]⟩)
theorem qsU {α β:Type} {xs:List (α×β)} (hn:(xs.map (·.1)).Nodup) (k:α):((quR xs k).map (·.1)).Nodup:=by
 rw [qi6]
 exact hn.sublist ((List.eraseIdx_sublist _ _).map _)
theorem qjH {α:Type} :(xs:List α)→(j:Nat)→(hj:j<xs.length)→(xs[j]::xs.eraseIdx j).Perm xs
 |a::r,0,_=>by simp
 |a::r,j+1,hj=>by
  have:=qjH r j (by simpa using hj)
  simp only [List.getElem_cons_succ,List.eraseIdx_cons_succ]
  exact (List.Perm.swap _ _ _).trans (this.cons a)
theorem qve {α:Type} {xs ys:List α} (h:ys.Perm xs) (j:Nat) (hj:j<ys.length):∃(i:Nat) (hi:i<xs.length),xs[i]=ys[j]∧(ys.eraseIdx j).Perm (xs.eraseIdx i):=by
 obtain ⟨i,hi,e⟩:=List.getElem_of_mem (h.mem_iff.1 (List.getElem_mem hj))
 refine ⟨i,hi,e,?_⟩
 have h1:=(qjH ys j hj).trans (h.trans (qjH xs i hi).symm)
 rw [e] at h1
 exact List.Perm.cons_inv h1
end Go.Vi
namespace Go.Vi
noncomputable section
inductive Ty where
 |int (k:IntKind)
 |bool
 |str
 |unit
 |pair (a b:Ty)
 |slice (e:Ty)
 |arr (n:Nat) (e:Ty)
 |err
 |opt (e:Ty)
 |map (k v:Ty)
 deriving DecidableEq,Inhabited
@[reducible] def Ty.den:Ty→Type
 | .int _=>Int
 | .bool=>Bool
 | .str=>List UInt8
 | .unit=>Unit
 | .pair a b=>a.den×b.den
 | .slice e=>List e.den
 | .arr _ e=>List e.den
 | .err=>Bool
 | .opt e=>Option e.den
 | .map k v=>List (k.den×v.den)
def Ty.dflt:(t:Ty)→t.den
 | .int _=>(0:Int)
 | .bool=>false
 | .str=>([]:List UInt8)
 | .unit=>()
 | .pair a b=>(a.dflt,b.dflt)
 | .slice _=>[]
 | .arr n e=>List.replicate n e.dflt
 | .err=>true
 | .opt _=>none
 | .map _ _=>[]
def Ty.size:Ty→Nat
 | .unit=>0
 | .pair a b=>a.size+b.size
 | .arr n e=>n * e.size
 |_=>1
def Ty.agg:Ty→Bool
 | .unit=>true
 | .pair _ _=>true
 | .arr _ _=>true
 |_=>false
def Ty.flat:Ty→Bool
 | .pair a b=>a.flat&&b.flat
 | .slice _=>false
 | .opt _=>false
 | .map _ _=>false
 | .arr _ e=>e.flat
 |_=>true
def Ty.noArr:Ty→Bool
 | .pair a b=>a.noArr&&b.noArr
 | .arr _ _=>false
 |_=>true
def Ty.as {t:Ty} (u:Ty) (x:t.den):Option u.den:=if h:t=u then some (h ▸ x) else none
def Ty.whole {t:Ty} (u:Ty) (x:t.den) (off:Nat):Option u.den:=if off=0 then Ty.as u x else none
def Ty.sub:(t:Ty)→t.den→Nat→(u:Ty)→Option u.den
 | .pair a b,x,off,u=>match Ty.whole (t:= .pair a b) u x off with
  |some y=>some y
  |none=>if off<a.size then a.sub x.1 off u else b.sub x.2 (off - a.size) u
 | .arr n e,x,off,u=>match Ty.whole (t:= .arr n e) u x off with
  |some y=>some y
  |none=>if off<n * e.size then e.sub (qk x (Int.ofNat (off / e.size)) e.dflt) (off % e.size) u else none
 | .int k,x,off,u=>Ty.whole (t:= .int k) u x off
 | .bool,x,off,u=>Ty.whole (t:= .bool) u x off
 | .str,x,off,u=>Ty.whole (t:= .str) u x off
 | .unit,x,off,u=>Ty.whole (t:= .unit) u x off
 | .slice e,x,off,u=>Ty.whole (t:= .slice e) u x off
 | .err,x,off,u=>Ty.whole (t:= .err) u x off
 | .opt e,x,off,u=>Ty.whole (t:= .opt e) u x off
 | .map k v,x,off,u=>Ty.whole (t:= .map k v) u x off
def Ty.upd:(t:Ty)→t.den→Nat→(u:Ty)→u.den→Option t.den
 | .pair a b,x,off,u,y=>match Ty.whole (t:=u) (.pair a b) y off with
  |some z=>some z
  |none=>if off<a.size then (match a.upd x.1 off u y with
    |some z=>some (z,x.2)
    |none=>none) else (match b.upd x.2 (off - a.size) u y with
    |some z=>some (x.1,z)
    |none=>none)
 | .arr n e,x,off,u,y=>match Ty.whole (t:=u) (.arr n e) y off with
  |some z=>some z
  |none=>if off<n * e.size then (match e.upd (qk x (Int.ofNat (off / e.size)) e.dflt) (off % e.size) u y with
    |some z=>some (qbG x (Int.ofNat (off / e.size)) z)
    |none=>none) else none
 | .int k,_,off,u,y=>Ty.whole (t:=u) (.int k) y off
 | .bool,_,off,u,y=>Ty.whole (t:=u) .bool y off
 | .str,_,off,u,y=>Ty.whole (t:=u) .str y off
 | .unit,_,off,u,y=>Ty.whole (t:=u) .unit y off
 | .slice e,_,off,u,y=>Ty.whole (t:=u) (.slice e) y off
 | .err,_,off,u,y=>Ty.whole (t:=u) .err y off
 | .opt e,_,off,u,y=>Ty.whole (t:=u) (.opt e) y off
 | .map k v,_,off,u,y=>Ty.whole (t:=u) (.map k v) y off
def Ty.eqb:(t:Ty)→t.den→t.den→Bool
 | .int _,(x:Int),(y:Int)=>eqI x y
 | .bool,(x:Bool),(y:Bool)=>eqB x y
 | .str,(x:List UInt8),(y:List UInt8)=>eqS x y
 | .pair a .unit,x,y=>a.eqb x.1 y.1
 | .pair a b,x,y=>a.eqb x.1 y.1&&b.eqb x.2 y.2
 |_,_,_=>true
def Ty.comparable:Ty→Bool
 | .int _=>true
 | .bool=>true
 | .str=>true
 | .unit=>true
 | .pair a b=>a.comparable&&b.comparable
 |_=>false
inductive BC where
 |val (t:Ty) (x:t.den)
 |own (et:Nat) (e:Ty) (xs:List e.den)
 |pair (a b:BC)
 |hole (n:Nat)
def BC.size:BC→Nat
 | .val t _=>t.size
 | .own _ _ _=>1
 | .pair a b=>a.size+b.size
 | .hole n=>n
def BC.freeze:BC→BC
 | .own _ e xs=> .val (.slice e) xs
 | .pair a b=> .pair a.freeze b.freeze
 |c=>c
def BC.get:BC→Nat→(u:Ty)→Option (u.den×Bool)
 | .val t x,off,u=>(t.sub x off u).map fun y=>(y,false)
 | .own _ e xs,off,u=>if off=0 then (Ty.as (t:= .slice e) u xs).map fun y=>(y,true) else none
 | .pair a b,off,u=>
  match off,u with
  |0,.pair ua ub=>if a.size=ua.size then (match a.get 0 ua,b.get 0 ub with
    |some (x,f),some (y,g)=>some ((x,y),f||g)
    |_,_=>none) else a.get 0 (.pair ua ub)
  |off,u=>if off<a.size then a.get off u else b.get (off - a.size) u
 | .hole _,_,_=>none
def Ty.isPair:Ty→Bool
 | .pair _ _=>true
 |_=>false
def BC.isPair:BC→Bool
 | .pair _ _=>true
 | .val t _=>t.isPair
 |_=>false
def BC.putVal:(t:Ty)→t.den→Nat→BC→Option BC
 | .pair a b,x,off,new=>
  if off<a.size then (if off=0∧a.size=new.size∧a.isPair=new.isPair then some (.pair new (.val b x.2)) else (BC.putVal a x.1 off new).map (fun z=> .pair z (.val b x.2)))
  else (if off=a.size∧b.size=new.size∧b.isPair=new.isPair then some (.pair (.val a x.1) new) else (BC.putVal b x.2 (off - a.size) new).map (fun z=> .pair (.val a x.1) z))
 |_,_,_,_=>none
def BC.put:BC→Nat→BC→Option BC
 | .val t x,off,new=>
  match new with
  | .val u y=>(t.upd x off u y).map (.val t)
  |new=>if off=0∧t.size=new.size∧t.isPair=new.isPair then some new else BC.putVal t x off new
 | .own _ _ _,off,new=>if off=0∧new.size=1 then some new else none
 | .pair a b,off,new=>
  if off=0∧a.size+b.size=new.size∧(b.size≠0∨new.isPair=true) then some new
  else if off<a.size then (a.put off new).map (fun z=> .pair z b) else (b.put (off - a.size) new).map (fun z=> .pair a z)
 | .hole n,off,new=>if off=0∧n=new.size then some new else none
def BC.row:BC→Nat→Option (Nat×((e:Ty)×List e.den))
 | .own et e xs,off=>if off=0 then some (et,⟨e,xs⟩) else none
 | .pair a b,off=>if off<a.size then a.row off else b.row (off - a.size)
 |_,_=>none
def BC.swap:BC→Nat→BC→Option BC
 | .own _ _ _,off,n=>if off=0 then some n else none
 | .pair a b,off,n=>if off<a.size then (a.swap off n).map (fun z=> .pair z b) else (b.swap (off - a.size) n).map (fun z=> .pair a z)
 |_,_,_=>none
abbrev Msk:=List (Nat×Nat)
def Msk.at (m:Msk) (off:Nat):Option Nat:=(m.find? (fun p=>p.1 == off)).map (fun p=>p.2)
def Msk.hits (m:Msk) (lo hi:Nat):Bool:=m.any fun p=>decide (lo≤p.1)&&decide (p.1<hi)
def mskGo:Nat→Nat→Msk
 |0,_=>[]
 |k+1,n=>match Nat.beq n 0 with
  |true=>[]
  |false=>(n % 256 - 1,n / 256 % 65536)::mskGo k (n / 16777216)
def etM (et:Nat):Msk:=mskGo 4 (et / 65536)
def etB (et:Nat):Nat:=match etM et with
 |[]=>et
 |_=>et % 65536
def qlU:List Nat→Nat→Nat
 |e::m::r,et=>if e=et then m else qlU r et
 |_,et=>et
def BC.remask (l:List Nat):BC→BC
 | .own et e xs=>match xs with
  |[]=> .own (qlU l et) e []
  |x::r=> .own et e (x::r)
 | .pair a b=> .pair (a.remask l) (b.remask l)
 | .val t x=> .val t x
 | .hole n=> .hole n
def BC.flat0 (t:Ty) (c:BC):Option t.den:=match c.get 0 t with
 |some (x,false)=>some x
 |_=>none
def BC.toM (m:Msk):(t:Ty)→Nat→BC→Option t.den
 | .pair a b,off,c=>match m.hits off (off+(a.size+b.size)) with
  |true=>(match c with
   | .pair ca cb=>(match BC.toM m a off ca,BC.toM m b (off+a.size) cb with
    |some x,some y=>if ca.size=a.size then some (x,y) else none
    |_,_=>none)
   |_=>none)
  |false=>BC.flat0 (.pair a b) c
 | .slice e,off,c=>match m.at off with
  |some et=>(match c with
   | .own et' e' xs=>if et=et'∧etM et=[] then Ty.as (t:= .slice e') (.slice e) xs else none
   |_=>none)
  |none=>BC.flat0 (.slice e) c
 | .int k,_,c=>BC.flat0 (.int k) c
 | .bool,_,c=>BC.flat0 .bool c
 | .str,_,c=>BC.flat0 .str c
 | .unit,_,c=>BC.flat0 .unit c
 | .arr n e,_,c=>BC.flat0 (.arr n e) c
 | .err,_,c=>BC.flat0 .err c
 | .opt e,_,c=>BC.flat0 (.opt e) c
 | .map k v,_,c=>BC.flat0 (.map k v) c
def qps (k:Nat×Nat) (off:Nat):Bool:=decide (k.1≤off)&&decide (off<k.2)
def bcM (m:Msk) (k0:Nat×Nat):(t:Ty)→t.den→Nat→BC
 | .pair a b,x,off=>if m.hits off (off+(a.size+b.size)) then .pair (bcM m k0 a x.1 off) (bcM m k0 b x.2 (off+a.size)) else .val (.pair a b) x
 | .slice e,xs,off=>match m.at off with
  |some et=>if qps k0 off then .hole 1 else .own et e xs
  |none=> .val (.slice e) xs
 | .int k,x,_=> .val (.int k) x
 | .bool,x,_=> .val .bool x
 | .str,x,_=> .val .str x
 | .unit,x,_=> .val .unit x
 | .arr n e,x,_=> .val (.arr n e) x
 | .err,x,_=> .val .err x
 | .opt e,x,_=> .val (.opt e) x
 | .map k v,x,_=> .val (.map k v) x
inductive qcf where
 |val (t:Ty)
 |own (et:Nat) (e:Ty)
 |pair (a b:qcf)
 |hole (n:Nat)
 deriving DecidableEq
@[reducible] def qcf.den:qcf→Type
 | .val t=>t.den
 | .own _ e=>List e.den
 | .pair a b=>a.den×b.den
 | .hole _=>Unit
def qcf.un:(b:qcf)→b.den→BC
 | .val t,x=> .val t x
 | .own et e,xs=> .own et e xs
 | .pair a b,x=> .pair (a.un x.1) (b.un x.2)
 | .hole n,_=> .hole n
def qcf.dflt:(b:qcf)→b.den
 | .val t=>t.dflt
 | .own _ _=>[]
 | .pair a b=>(a.dflt,b.dflt)
 | .hole _=>()
def qcf.flat:qcf→Bool
 | .val t=>t.flat
 | .own _ e=>e.flat
 | .pair a b=>a.flat&&b.flat
 | .hole _=>true
def BC.fit:(b:qcf)→BC→Option b.den
 | .val t,c=>if c.size=t.size then (match c.get 0 t with
  |some r=>some r.1
  |none=>none) else none
 | .own et e,c=>match c with
  | .own et' e' xs=>if et=et' then Ty.as (t:= .slice e') (.slice e) xs else none
  |_=>none
 | .pair a b,c=>match c with
  | .pair c d=>(match BC.fit a c,BC.fit b d with
   |some x,some y=>some (x,y)
   |_,_=>none)
  | .val (.pair ta tb) x=>(match BC.fit a (.val ta x.1),BC.fit b (.val tb x.2) with
   |some x,some y=>some (x,y)
   |_,_=>none)
  |_=>none
 | .hole _,_=>none
@[reducible] def denL:List Ty→Type
 |[]=>Unit
 |t::r=>t.den×denL r
inductive qn1 where
 |val (t:Ty) (x:t.den)
 |own (et:Nat) (e:Ty) (xs:List e.den)
 |gone
 |nz (e:Ty) (xs:List e.den)
 |agg (c:BC)
inductive AV where
 |undef
 |val (t:Ty) (x:t.den)
 |own (et:Nat) (e:Ty) (xs:List e.den)
 |agg (c:BC)
 |box (c:BC)
 |ref (s v:Nat)
 |bref (s v off:Nat) (u:Ty)
 |pbox (s v off:Nat)
 |pip (k off:Nat)
 |prow (s v:Nat) (fo:Option Nat) (sz:Nat) (i:Int) (off:Nat)
 |osl (s v:Nat) (fo:Option Nat) (sz:Nat) (lo hi:Int)
 |view (t:Ty) (x:t.den) (off:Nat)
 |tup (cs:List qn1)
 |grd (s v:Nat) (want:Bool) (a:AV)
 |fn (f:Nat) (caps:List qn1)
 |fnv (ps rs:List Ty) (φ:denL ps→Option (denL rs))
 |amb (w m:Bool)
 |parr (s:Nat) (v:Option Nat) (off n:Nat) (e:Ty) (i:Int) (o2:Nat)
 |nilr (et:Nat) (e:Ty)
 |nz (e:Ty) (xs:List e.den)
 |mp (k v:Ty) (xs:List (k.den×v.den))
 |itr (k v:Ty) (rem:List (k.den×v.den)) (cur:Option (k.den×v.den))
 |hol (a:AV) (fo:Option Nat) (i:Int) (o1:Nat) (t v:Nat)
 |bhl (c:BC) (o:Nat) (t v:Nat)
 |lsw (et:Nat) (e:Ty) (xs:List e.den) (φ:Option (List e.den→Int→Int→Option Bool))
 |lsv (et:Nat) (e:Ty) (k:Nat) (φ:List e.den→Int→Int→Option Bool)
 |lsz (et:Nat) (e:Ty) (k:Nat) (φ:List e.den→Int→Int→Option Bool)
def AV.rowAt (fo:Option Nat):AV→Option (Nat×((e:Ty)×List e.den))
 | .own et e xs=>match fo with
  |none=>some (et,⟨e,xs⟩)
  |some _=>none
 | .box c=>match fo with
  |some o=>c.row o
  |none=>none
 |_=>none
def AV.swapRow (n:BC) (fo:Option Nat):AV→Option AV
 | .own _ _ _=>match fo,n with
  |none,.own et e xs=>some (.own et e xs)
  |none,.hole _=>some .undef
  |_,_=>none
 | .box c=>match fo with
  |some o=>(c.swap o n).map .box
  |none=>none
 |_=>none
abbrev Ent:=Nat×AV
abbrev St:=List Ent
inductive Q (α:Type) where
 |ret (a:α)
 |fail
 |get (s:Nat) (k:Ent→Q α)
def Q.bind {α β:Type} :Q α→(α→Q β)→Q β
 | .ret a,f=>f a
 | .fail,_=> .fail
 | .get s k,f=> .get s fun e=>(k e).bind f
instance:Monad Q where
 pure:=Q.ret
 bind:=Q.bind
def Q.opt {α:Type} :Option α→Q α
 |some a=> .ret a
 |none=> .fail
def Q.run {α:Type} (lk:Nat→Ent):Q α→Option α
 | .ret a=>some a
 | .fail=>none
 | .get s k=>(k (lk s)).run lk
def Q.log {α:Type} (lk:Nat→Ent):Q α→List Nat
 | .ret _=>[]
 | .fail=>[]
 | .get s k=>s::(k (lk s)).log lk
inductive PM where
 |val (t:Ty)
 |own (et:Nat) (e:Ty)
 |io (t:Ty)
 |fn (ps rs:List Ty)
 |nil (et:Nat) (e:Ty)
 |rd (t:Ty)
 |ior (et:Nat) (e:Ty)
 |iob (b:qcf)
 |lsw (et:Nat) (e:Ty)
 deriving DecidableEq
@[reducible] def PM.den:PM→Type
 | .val t=>t.den
 | .own _ e=>List e.den
 | .io t=>t.den
 | .fn ps rs=>denL ps→Option (denL rs)
 | .nil _ _=>Unit
 | .rd t=>t.den
 | .ior _ e=>List e.den
 | .iob b=>b.den
 | .lsw _ e=>List e.den×(List e.den→Int→Int→Option Bool)
@[reducible] def PMs.den:List PM→Type
 |[]=>Unit
 |p::r=>p.den×PMs.den r
@[reducible] def PMs.ioDen:List PM→Type
 |[]=>Unit
 | .io t::r=>t.den×PMs.ioDen r
 | .ior _ e::r=>List e.den×PMs.ioDen r
 | .iob b::r=>b.den×PMs.ioDen r
 | .lsw _ e::r=>List e.den×PMs.ioDen r
 |_::r=>PMs.ioDen r
inductive RM where
 |val (t:Ty)
 |own (et:Nat) (e:Ty)
 |nz (e:Ty)
 |agg (b:qcf)
 deriving DecidableEq
@[reducible] def RM.den:RM→Type
 | .val t=>t.den
 | .own _ e=>List e.den
 | .nz e=>List e.den
 | .agg b=>b.den
@[reducible] def RMs.den:List RM→Type
 |[]=>Unit
 |r::rs=>r.den×RMs.den rs
def RM.dflt:(r:RM)→r.den
 | .val t=>t.dflt
 | .own _ _=>[]
 | .nz _=>[]
 | .agg b=>b.dflt
def RMs.dflt:(rs:List RM)→RMs.den rs
 |[]=>()
 |r::rs=>(r.dflt,RMs.dflt rs)
def PMs.ioDflt:(ps:List PM)→PMs.ioDen ps
 |[]=>()
 | .io t::r=>(t.dflt,PMs.ioDflt r)
 | .val _::r=>PMs.ioDflt r
 | .own _ _::r=>PMs.ioDflt r
 | .fn _ _::r=>PMs.ioDflt r
 | .nil _ _::r=>PMs.ioDflt r
 | .rd _::r=>PMs.ioDflt r
 | .ior _ _::r=>([],PMs.ioDflt r)
 | .iob b::r=>(b.dflt,PMs.ioDflt r)
 | .lsw _ _::r=>([],PMs.ioDflt r)
structure qp where
 ps:List PM
 rs:List RM
 sem:PMs.den ps→Option (RMs.den rs×PMs.ioDen ps)
abbrev qp3:=Nat→Option ((t:Ty)×t.den)
structure Env where
 ty:Nat→Option Ty
 etid:Nat→Nat
 off:Nat→Nat→Option Nat
 fty:Nat→Nat→Nat
 zero:Nat→Option BC
 bytes:Nat→Nat
 eqok:Nat→Bool
 fn:Nat→Option qp
 pins:List Nat
 ownz:Bool
 tabs:qp3
 rf:List Nat
 nzr:Bool:=false
 msk:List Nat:=[]
 tk:List Nat:=[]
 lst:Option (Nat×Nat×Nat):=none
end
end Go.Vi
namespace Go.Vi
noncomputable section
def qs (σ:St) (s:Nat):Ent:=σ.getD s (0,.undef)
abbrev qgA:=List (Nat×Nat×Bool×Bool)
def lit (w b:Bool):Bool:=match w with
 |true=>b
 |false=> !b
def qmk:qgA→Bool
 |[]=>true
 |[(_,_,w,b)]=>lit w b
 |(_,_,w,b)::r=>lit w b&&qmk r
def qd9:Nat→Nat→Bool→Q qgA
 |0,_,_=> .fail
 |n+1,s,want=> .get s fun e=>match e.2 with
  | .val .bool b=> .ret [(s,e.1,want,b)]
  | .grd s2 v2 w2 (.val .bool b)=>(qd9 n s2 w2).bind fun r=>match r with
   |(s3,v3,w3,b3)::r'=>if v3=v2 then .ret ((s,e.1,want,b)::(s3,v3,w3,b3)::r') else .fail
   |[]=> .fail
  |_=> .fail
def qoG (s v:Nat) (w:Bool):qgA→Bool
 |[]=>false
 |(s',v',w',_)::r=>(s == s'&&v == v'&&w == w')||qoG s v w r
def qa6 (p:qgA):AV→AV
 | .grd s v w a=>if qoG s v w p then qa6 p a else .undef
 |a=>a
def qpF (c:Operand) (v:Nat) (w b:Bool) (p:qgA):qgA:=match c with
 | .tmp t=>(t,v,w,b)::p
 |_=>p
structure Op1 where
 s:Option Nat
 v:Nat
 a:AV
def Ty.dec:(t:Ty)→List Value→Option (t.den×List Value)
 | .int k,cs=>match cs with
  | .int k' n::r=>if k=k'∧k.min≤n∧n≤k.max then some (n,r) else none
  |_=>none
 | .bool,cs=>match cs with
  | .bool b::r=>some (b,r)
  |_=>none
 | .str,cs=>match cs with
  | .string s::r=>if s.data.toList.length≤1048576 then some (s.data.toList,r) else none
  |_=>none
 | .unit,r=>some ((),r)
 | .pair a b,cs=>match a.dec cs with
  |some (x,r)=>match b.dec r with
   |some (y,r')=>some ((x,y),r')
   |none=>none
  |none=>none
 | .slice _,cs=>match cs with
  | .slice none 0 0::r=>some ([],r)
  |_=>none
 | .arr _ _,_=>none
 | .err,cs=>match cs with
  | .nilIface::r=>some (true,r)
  |_=>none
 | .opt _,cs=>match cs with
  | .pointer none::r=>some (none,r)
  |_=>none
 | .map _ _,_=>none
def qlt (E:Env) (tid:Nat) (c:Value):Option AV:=
 match c with
 | .int k n=>if k.min≤n∧n≤k.max then some (.val (.int k) n) else none
 | .bool b=>some (.val .bool b)
 | .string s=>if s.data.toList.length≤1048576 then some (.val .str s.data.toList) else none
 | .slice none 0 0=>match E.ty tid with
  |some (.slice e)=>(match E.nzr with
   |true=>some (.nilr (E.etid tid) e)
   |false=>some (.own (qlU E.msk (E.etid tid)) e []))
  |_=>none
 | .nilIface=>match E.ty tid with
  |some .err=>some (.val .err true)
  |_=>none
 | .pointer none=>match E.ty tid with
  |some (.opt e)=>some (.val (.opt e) none)
  |_=>none
 | .map none=>match E.ty tid with
  |some (.map k t)=>some (.val (.map k t) [])
  |_=>none
 | .agg cs=>match E.ty tid with
  |some t=>if t.agg then (match t.dec cs.toList with
   |some (x,[])=>some (.val t x)
   |_=>none) else none
  |none=>none
 |_=>none
def opd (E:Env) (p:qgA) (tid:Nat):Operand→Q Op1
 | .tmp t=> .get t fun e=> .ret ⟨some t,e.1,qa6 p e.2⟩
 | .const c=>match qlt E tid c with
  |some a=> .ret ⟨none,0,a⟩
  |none=> .fail
 | .func f=> .ret ⟨none,0,.fn f []⟩
 | .global g=>match E.tabs g with
  |some r=> .ret ⟨none,0,.view r.1 r.2 0⟩
  |none=> .fail
structure VR where
 t:Ty
 x:t.den
 ow:List Nat
def qmh (o:Op1):Q VR:=
 match o.a with
 | .val t x=> .ret ⟨t,x,[]⟩
 | .own _ e xs=> .ret ⟨.slice e,xs,o.s.toList⟩
 | .nilr _ e=> .ret ⟨.slice e,[],[]⟩
 | .nz e xs=> .ret ⟨.slice e,xs,[]⟩
 | .mp k v xs=> .ret ⟨.map k v,qq9 xs,o.s.toList⟩
 | .ref s v=> .get s fun e=>if e.1=v then (match e.2 with
  | .own _ e xs=> .ret ⟨.slice e,xs,[s]⟩
  | .mp k t xs=> .ret ⟨.map k t,qq9 xs,[s]⟩
  | .val t x=> .ret ⟨t,x,[]⟩
  |_=> .fail) else .fail
 | .bref s v off u=> .get s fun e=>if e.1=v then (match e.2 with
  | .box c=>match c.get off u with
   |some (x,f)=> .ret ⟨u,x,if f then [s] else []⟩
   |none=> .fail
  |_=> .fail) else .fail
 | .osl _ _ _ _ _ _=> .fail
 |_=> .fail
def toVal (u:Ty) (o:Op1):Q (u.den×List Nat):=
 match o.a with
 | .agg c=>if c.size=u.size∧u.agg=true then (match c.get 0 u with
  |some (x,f)=> .ret (x,if f then o.s.toList else [])
  |none=> .fail) else .fail
 | .view t x off=>(match u with
  | .opt e=>if off=0 then (match Ty.as (t:=t) e x with
   |some y=> .ret (some y,[])
   |none=> .fail) else .fail
  |_=> .fail)
 |_=>(qmh o).bind fun r=>match Ty.as u r.x with
  |some x=> .ret (x,r.ow)
  |none=> .fail
def qiP (o:Op1):Q (IntKind×Int):=
 (qmh o).bind fun r=>match r with
  |⟨.int k,n,_⟩=> .ret (k,n)
  |_=> .fail
def qn1.freeze:qn1→qn1
 | .own _ e xs=> .val (.slice e) xs
 | .agg c=> .agg c.freeze
 |c=>c
def AV.freeze:AV→AV
 | .own _ e xs=> .val (.slice e) xs
 | .box c=> .box c.freeze
 | .agg c=> .agg c.freeze
 | .mp k v xs=> .val (.map k v) (qq9 xs)
 | .itr _ _ _ _=> .undef
 | .hol _ _ _ _ _ _=> .undef
 | .bhl _ _ _ _=> .undef
 | .lsw _ _ _ _=> .undef
 | .tup cs=> .tup (cs.map qn1.freeze)
 |a=>a
def AV.unowned:AV→Bool
 | .own _ _ _=>false
 | .agg _=>false
 | .box _=>false
 | .tup _=>false
 | .mp _ _ _=>false
 | .itr _ _ _ _=>false
 | .hol _ _ _ _ _ _=>false
 | .bhl _ _ _ _=>false
 | .lsw _ _ _ _=>false
 |_=>true
def AV.mentions:AV→List (Nat×Nat)
 | .ref s v=>[(s,v)]
 | .bref s v _ _=>[(s,v)]
 | .pbox s v _=>[(s,v)]
 | .prow s v _ _ _ _=>[(s,v)]
 | .osl s v _ _ _ _=>[(s,v)]
 | .parr s (some v) _ _ _ _ _=>[(s,v)]
 | .grd s v _ a=>(s,v)::a.mentions
 | .hol _ _ _ _ t v=>[(t,v)]
 | .bhl _ _ t v=>[(t,v)]
 |_=>[]
def AV.isUndef:AV→Bool
 | .undef=>true
 |_=>false
structure U where
 s:Nat
 bump:Bool
 a:AV
structure Eff where
 upd:List U
 chk:List Bool
def qbZ:List Nat→Q (List U)
 |[]=> .ret []
 |s::r=> .get s fun e=>(qbZ r).bind fun us=> .ret (⟨s,false,e.2.freeze⟩::us)
def qbc (o:Oper) (a:AV):List U:=match o.dst with
 |some d=>[⟨d,true,a⟩]
 |none=>[]
def okE (us:List U):Q Eff:= .ret ⟨us,[]⟩
def qpB (op:BinOp) (k:IntKind) (x y:Int):AV×List Bool:=
 match op with
 | .add=>(.val (.int k) (qK k x y),[])
 | .sub=>(.val (.int k) (qG k x y),[])
 | .mul=>(.val (.int k) (qjB k x y),[])
 | .quo=>(.val (.int k) (qoZ k x y),[neI y 0])
 | .rem=>(.val (.int k) (irem x y),[neI y 0])
 | .and=>(.val (.int k) (quA k x y),[])
 | .or=>(.val (.int k) (bor k x y),[])
 | .xor=>(.val (.int k) (qh4 k x y),[])
 | .andNot=>(.val (.int k) (qnC k x y),[])
 | .eql=>(.val .bool (eqI x y),[])
 | .neq=>(.val .bool (neI x y),[])
 | .lss=>(.val .bool (ltI x y),[])
 | .leq=>(.val .bool (leI x y),[])
 | .gtr=>(.val .bool (ltI y x),[])
 | .geq=>(.val .bool (leI y x),[])
 | .shl=>(.val (.int k) (qjL k x y),[leI 0 y])
 | .shr=>(.val (.int k) (qgr k x y),[leI 0 y])
def quS (op:BinOp) (x y:List UInt8):Option (AV×List Bool):=
 match op with
 | .add=>some (.val .str (qe2 x y),[qcX (qt x) (qt y) 1])
 | .eql=>some (.val .bool (eqS x y),[])
 | .neq=>some (.val .bool (!(eqS x y)),[])
 | .lss=>some (.val .bool (qoi x y),[])
 | .leq=>some (.val .bool (qoi x y||eqS x y),[])
 | .gtr=>some (.val .bool (!(qoi x y||eqS x y)),[])
 | .geq=>some (.val .bool (!(qoi x y)),[])
 |_=>none
def qla:BinOp→Bool
 | .shl=>true
 | .shr=>true
 |_=>false
def binE (E:Env) (op:BinOp) (tid:Nat) (x y:VR):Option (AV×List Bool):=
 match x,y with
 |⟨.int k,a,_⟩,⟨.int k',b,_⟩=>if qla op||k=k' then some (qpB op k a b) else none
 |⟨.str,a,_⟩,⟨.str,b,_⟩=>quS op a b
 |⟨.bool,a,_⟩,⟨.bool,b,_⟩=>if E.ty tid=some .bool then (match op with
  | .eql=>some (.val .bool (eqB a b),[])
  | .neq=>some (.val .bool (!(eqB a b)),[])
  |_=>none) else none
 |⟨t,a,_⟩,⟨u,b,_⟩=>if t.agg=true∧E.eqok tid=true∧E.ty tid=some t then (match Ty.as (t:=u) t b with
  |some b=>(match op with
   | .eql=>some (.val .bool (t.eqb a b),[])
   | .neq=>some (.val .bool (!(t.eqb a b)),[])
   |_=>none)
  |none=>none) else none
def unE (op:UnOp) (x:VR):Option AV:=
 match op,x with
 | .neg,⟨.int k,n,_⟩=>some (.val (.int k) (ineg k n))
 | .not,⟨.bool,b,_⟩=>some (.val .bool (!b))
 | .xor,⟨.int k,n,_⟩=>some (.val (.int k) (qh4 k (if k.signed then -1 else k.max) n))
 |_,_=>none
def qiE:List Nat→Bool
 |[]=>true
 |a::r=> !r.contains a&&qiE r
structure qrA (ps:List PM) where
 x:PMs.den ps
 ow:List Nat
 gone:List Nat
 ios:List Nat
@[reducible] def valPs:List Ty→List PM
 |[]=>[]
 |t::r=> .val t::valPs r
@[reducible] def valRs:List Ty→List RM
 |[]=>[]
 |t::r=> .val t::valRs r
def toPs:(ts:List Ty)→denL ts→PMs.den (valPs ts)
 |[],_=>()
 |_::r,x=>(x.1,toPs r x.2)
def qu4:(ts:List Ty)→RMs.den (valRs ts)→denL ts
 |[],_=>()
 |_::r,x=>(x.1,qu4 r x.2)
def qtx:(ts:List Ty)→denL ts→RMs.den (valRs ts)
 |[],_=>()
 |_::r,x=>(x.1,qtx r x.2)
def qu3:(ts:List Ty)→PMs.den (valPs ts)→denL ts
 |[],_=>()
 |_::r,x=>(x.1,qu3 r x.2)
def denL.dflt:(ts:List Ty)→denL ts
 |[]=>()
 |t::r=>(t.dflt,denL.dflt r)
def fnOf (E:Env) (ts us:List Ty):AV→Option (denL ts→Option (denL us))
 | .fnv ts' us' φ=>if h:ts'=ts∧us'=us then some (h.1 ▸ h.2 ▸ φ) else none
 | .fn f []=>(match E.fn f with
  |some C=>if h:C.ps=valPs ts∧C.rs=valRs us then some (fun x=>qgy (fun y=>qu4 us (h.2 ▸ y.1)) (C.sem (h.1 ▸ toPs ts x))) else none
  |none=>none)
 |_=>none
def apart (a b:List Nat):Bool:=a.all fun x=> !b.contains x
@[reducible] def rdPs:List Ty→List PM
 |[]=>[]
 |t::r=> .rd t::rdPs r
def toRd:(us:List Ty)→denL us→PMs.den (rdPs us)
 |[],_=>()
 |_::r,y=>(y.1,toRd r y.2)
def qpq:(ts us:List Ty)→denL ts→denL us→PMs.den (valPs ts++rdPs us)
 |[],us,_,y=>toRd us y
 |_::r,us,x,y=>(x.1,qpq r us x.2 y)
def qo1:List PM→Option (List Ty×List Ty)
 |[]=>some ([],[])
 | .val t::r=>(match qo1 r with
  |some q=>some (t::q.1,q.2)
  |none=>none)
 | .rd t::r=>(match qo1 r with
  |some q=>some (q.1,t::q.2)
  |none=>none)
 |_=>none
def qsJ:List RM→Option (List Ty)
 |[]=>some []
 | .val t::r=>(match qsJ r with
  |some q=>some (t::q)
  |none=>none)
 |_=>none
def qgL:List Operand→List Nat
 |[]=>[]
 | .tmp s::r=>s::qgL r
 |_::r=>qgL r
def qqn:(us:List Ty)→List Operand→Q (denL us×List U)
 |[],[]=> .ret ((),[])
 |u::us,.tmp s::r=> .get s fun e=>(qqn us r).bind fun q=>match e.2 with
  | .box c=>if c.size=u.size then (match c.get 0 u with
   |some (x,_)=> .ret ((x,q.1),⟨s,true,.view u x 0⟩::q.2)
   |none=> .fail) else .fail
  | .view t y off=>(match t.sub y off u with
   |some x=> .ret ((x,q.1),q.2)
   |none=> .fail)
  |_=> .fail
 |_,_=> .fail
def cloE (E:Env) (o:Oper) (f:Nat) (caps:List Operand):Q Eff:=
 match E.fn f with
 |some C=>(match qo1 C.ps,qsJ C.rs with
  |some (ts,us),some vs=>if h:C.ps=valPs ts++rdPs us∧C.rs=valRs vs then (qqn us caps).bind fun q=>
    if qiE (qgL caps)&&apart o.dst.toList (qgL caps) then .ret ⟨q.2++qbc o (.fnv ts vs (fun x=>qgy (fun y=>qu4 vs (h.2 ▸ y.1)) (C.sem (h.1 ▸ qpq ts us x q.1)))),[]⟩ else .fail
   else .fail
  |_,_=> .fail)
 |none=> .fail
def qaD (E:Env):(ps:List PM)→List Op1→Q (qrA ps)
 |[],[]=> .ret ⟨(),[],[],[]⟩
 | .val t::ps,o::os=>(toVal t o).bind fun x=>(qaD E ps os).bind fun r=> .ret ⟨(x.1,r.x),x.2++r.ow,r.gone,r.ios⟩
 | .own et e::ps,o::os=>
  match o.s,o.a with
  |some s,.own et' e' xs=>if et=et' then (match Ty.as (t:= .slice e') (.slice e) xs with
   |some xs=>(qaD E ps os).bind fun r=> .ret ⟨(xs,r.x),r.ow,s::r.gone,r.ios⟩
   |none=> .fail) else .fail
  |none,.own et' e' xs=>if et=et' then (match Ty.as (t:= .slice e') (.slice e) xs with
   |some xs=>(qaD E ps os).bind fun r=> .ret ⟨(xs,r.x),r.ow,r.gone,r.ios⟩
   |none=> .fail) else .fail
  |_,.ref s v=> .get s fun en=>if en.1=v then (match en.2 with
   | .own et' e' xs=>if et=et' then (match Ty.as (t:= .slice e') (.slice e) xs with
    |some xs=>(qaD E ps os).bind fun r=> .ret ⟨(xs,r.x),r.ow,s::r.gone,r.ios⟩
    |none=> .fail) else .fail
   |_=> .fail) else .fail
  |_,_=> .fail
 | .ior et e::ps,o::os=>
  match o.s,o.a with
  |some s,.own et' e' xs=>if et=et'∧etM et=[] then (match Ty.as (t:= .slice e') (.slice e) xs with
   |some xs=>(qaD E ps os).bind fun r=> .ret ⟨(xs,r.x),r.ow,r.gone,s::r.ios⟩
   |none=> .fail) else .fail
  |_,.ref s v=> .get s fun en=>if en.1=v then (match en.2 with
   | .own et' e' xs=>if et=et'∧etM et=[] then (match Ty.as (t:= .slice e') (.slice e) xs with
    |some xs=>(qaD E ps os).bind fun r=> .ret ⟨(xs,r.x),r.ow,r.gone,s::r.ios⟩
    |none=> .fail) else .fail
   |_=> .fail) else .fail
  |_,_=> .fail
 | .io t::ps,o::os=>
  match o.s,o.a with
  |some s,.box c=>(match (if c.size=t.size then c.get 0 t else none) with
   |some (x,_)=>(qaD E ps os).bind fun r=> .ret ⟨(x,r.x),r.ow,r.gone,s::r.ios⟩
   |none=> .fail)
  |_,.pip s 0=> .get s fun en=>(match en.2 with
   | .box c=>(match (if c.size=t.size then c.get 0 t else none) with
    |some (x,_)=>(qaD E ps os).bind fun r=> .ret ⟨(x,r.x),r.ow,r.gone,s::r.ios⟩
    |none=> .fail)
   |_=> .fail)
  |_,.pbox s v 0=> .get s fun en=>if en.1=v then (match en.2 with
   | .box c=>(match (if c.size=t.size then c.get 0 t else none) with
    |some (x,_)=>(qaD E ps os).bind fun r=> .ret ⟨(x,r.x),r.ow,r.gone,s::r.ios⟩
    |none=> .fail)
   |_=> .fail) else .fail
  |_,_=> .fail
 | .iob b::ps,o::os=>
  match o.s,o.a with
  |some s,.box c=>(match c.fit b with
   |some x=>(qaD E ps os).bind fun r=> .ret ⟨(x,r.x),r.ow,r.gone,s::r.ios⟩
   |none=> .fail)
  |_,.pip s 0=> .get s fun en=>(match en.2 with
   | .box c=>(match c.fit b with
    |some x=>(qaD E ps os).bind fun r=> .ret ⟨(x,r.x),r.ow,r.gone,s::r.ios⟩
    |none=> .fail)
   |_=> .fail)
  |_,.pbox s v 0=> .get s fun en=>if en.1=v then (match en.2 with
   | .box c=>(match c.fit b with
    |some x=>(qaD E ps os).bind fun r=> .ret ⟨(x,r.x),r.ow,r.gone,s::r.ios⟩
    |none=> .fail)
   |_=> .fail) else .fail
  |_,_=> .fail
 | .nil et e::ps,o::os=>(match o.s,o.a with
  |_,.nilr et' e'=>if et'=et∧e'=e then (qaD E ps os).bind fun r=> .ret ⟨((),r.x),r.ow,r.gone,r.ios⟩ else .fail
  |none,.own et' e' []=>if et'=et∧e'=e then (qaD E ps os).bind fun r=> .ret ⟨((),r.x),r.ow,r.gone,r.ios⟩ else .fail
  |_,_=> .fail)
 | .rd t::ps,o::os=>(match o.a with
  | .view t' y off=>(match t'.sub y off t with
   |some x=>(qaD E ps os).bind fun r=> .ret ⟨(x,r.x),r.ow,r.gone,r.ios⟩
   |none=> .fail)
  |_=> .fail)
 | .lsw et e::ps,o::os=>(match o.a with
  | .lsv et1 e1 0 φ=> .get 0 fun en=>(match en.2 with
   | .lsw et2 e2 xs _=>if h:et1=et∧et2=et∧e1=e∧e2=e then (qaD E ps os).bind fun r=> .ret ⟨((h.2.2.2 ▸ xs,h.2.2.1 ▸ φ),r.x),r.ow,r.gone,0::r.ios⟩ else .fail
   |_=> .fail)
  |_=> .fail)
 | .fn ts us::ps,o::os=>(match fnOf E ts us o.a with
  |some φ=>(qaD E ps os).bind fun r=> .ret ⟨(φ,r.x),r.ow,r.gone,r.ios⟩
  |none=> .fail)
 |_,_=> .fail
def qc3:(rs:List RM)→RMs.den rs→List qn1
 |[],_=>[]
 | .val t::rs,y=> .val t y.1::qc3 rs y.2
 | .own et e::rs,y=> .own et e y.1::qc3 rs y.2
 | .nz e::rs,y=> .nz e y.1::qc3 rs y.2
 | .agg b::rs,y=> .agg (b.un y.1)::qc3 rs y.2
def qiB (rs:List RM) (y:RMs.den rs):AV:=match rs,y with
 |[.val t],y=> .val t y.1
 |[.own et e],y=> .own et e y.1
 |[.nz e],y=> .nz e y.1
 |[.agg b],y=> .agg (b.un y.1)
 |rs,y=> .tup (qc3 rs y)
def RMs.flat:List RM→Bool
 |[]=>true
 | .val t::r=>t.flat&&RMs.flat r
 | .own _ e::r=>e.flat&&RMs.flat r
 | .nz _::_=>false
 | .agg b::r=>b.flat&&RMs.flat r
def PMs.ioFlat:List PM→Bool
 |[]=>true
 | .io t::r=>t.flat&&PMs.ioFlat r
 | .ior _ e::r=>e.flat&&PMs.ioFlat r
 | .iob b::r=>b.flat&&PMs.ioFlat r
 | .lsw _ e::r=>e.flat&&PMs.ioFlat r
 |_::r=>PMs.ioFlat r
def qej:(ps:List PM)→PMs.ioDen ps→List Nat→List U
 | .io t::ps,y,s::ss=>⟨s,true,.box (.val t y.1)⟩::qej ps y.2 ss
 | .ior et e::ps,y,s::ss=>⟨s,false,.own et e y.1⟩::qej ps y.2 ss
 | .iob b::ps,y,s::ss=>⟨s,true,.box (b.un y.1)⟩::qej ps y.2 ss
 | .lsw et e::ps,y,s::ss=>⟨s,false,.lsw et e y.1 none⟩::qej ps y.2 ss
 | .val _::ps,y,ss=>qej ps y ss
 | .own _ _::ps,y,ss=>qej ps y ss
 | .fn _ _::ps,y,ss=>qej ps y ss
 | .nil _ _::ps,y,ss=>qej ps y ss
 | .rd _::ps,y,ss=>qej ps y ss
 |_,_,_=>[]
def qvk (E:Env) (o:Oper) (C:qp) (os:List Op1):Q Eff:=
 (qaD E C.ps os).bind fun A=>
  if qiE (A.gone++A.ios)&&apart A.ow (A.gone++A.ios)&&apart o.dst.toList (A.gone++A.ios) then
   (if RMs.flat C.rs&&PMs.ioFlat C.ps then Q.ret [] else qbZ A.ow).bind fun fz=>
    let y:=qr (C.sem A.x) (RMs.dflt C.rs,PMs.ioDflt C.ps)
    .ret ⟨fz++(A.gone.map (fun s=>⟨s,true,.undef⟩)++qej C.ps y.2 A.ios++qbc o (qiB C.rs y.1)),[qw (C.sem A.x)]⟩
  else .fail
def qvi (E:Env) (o:Oper) (ts us:List Ty) (φ:denL ts→Option (denL us)) (os:List Op1):Q Eff:=
 (qaD E (valPs ts) os).bind fun A=>
  (if RMs.flat (valRs us) then Q.ret [] else qbZ A.ow).bind fun fz=>
   .ret ⟨fz++qbc o (qiB (valRs us) (qtx us (qr (φ (qu3 ts A.x)) (denL.dflt us)))),[qw (φ (qu3 ts A.x))]⟩
def qrM (o:Oper) (et:Nat) (e:Ty) (k:Nat) (φ:List e.den→Int→Int→Option Bool) (os:List Op1):Q Eff:=
 match os with
 |[x,y]=>(qiP x).bind fun i=>(qiP y).bind fun j=>if i.1= .i64∧j.1= .i64 then .get 0 fun en=>(match en.2 with
  | .lsw et' e' xs _=>if h:et'=et∧e'=e then (match k with
   |1=> .ret ⟨qbc o (.val .bool (qr (φ (h.2 ▸ xs) i.2 j.2) false)),[qw (φ (h.2 ▸ xs) i.2 j.2)]⟩
   |2=>if apart o.dst.toList [0]=true then .ret ⟨⟨0,false,.lsw et e (qmg (h.2 ▸ xs:List e.den) i.2 j.2) none⟩::qbc o .undef,[inB i.2 (qt (h.2 ▸ xs:List e.den)),inB j.2 (qt (h.2 ▸ xs:List e.den))]⟩ else .fail
   |_=> .fail) else .fail
  |_=> .fail) else .fail
 |_=> .fail
def qvB (E:Env) (o:Oper) (t:Nat) (x:Op1):Option (Q Eff):=
 match x.a,E.lst with
 | .lsw et e _ (some φ),some (t0,_,_)=>if t=t0 then some (okE (qbc o (.lsz et e 0 φ))) else none
 |_,_=>none
def qtf (E:Env) (o:Oper) (t f:Nat) (x:Op1):Option (Q Eff):=
 match x.a,E.lst with
 | .lsz et e 0 φ,some (t0,_,_)=>if t=t0∧f≤1 then some (okE (qbc o (.lsz et e f φ))) else none
 |_,_=>none
def qrE (E:Env) (o:Oper) (t:Nat) (x:Op1):Option (Q Eff):=
 match x.a,E.lst with
 | .lsz et e k φ,some (t0,t1,t2)=>if t=t0∧k=0 then some (okE (qbc o (.lsv et e 0 φ))) else if (t=t1∧k=0)∨(t=t2∧k=1) then some (okE (qbc o (.lsv et e (k+1) φ))) else none
 |_,_=>none
def qu0 (E:Env) (p:qgA):List Operand→List Nat→Q (List Op1)
 |[],_=> .ret []
 |x::xs,ts=>(opd E p (ts.headD 0) x).bind fun a=>(qu0 E p xs ts.tail).bind fun r=> .ret (a::r)
def qt1 (o:Op1):Q (((e:Ty)×List e.den)×List Nat):=
 match o.a with
 | .own et e xs=>if (etM et).isEmpty=true then .ret (⟨e,xs⟩,o.s.toList) else .fail
 | .nilr _ e=> .ret (⟨e,[]⟩,[])
 | .nz e xs=> .ret (⟨e,xs⟩,[])
 | .val (.slice e) xs=> .ret (⟨e,xs⟩,[])
 | .ref s v=> .get s fun en=>if en.1=v then (match en.2 with
  | .own et e xs=>if (etM et).isEmpty=true then .ret (⟨e,xs⟩,[s]) else .fail
  | .val (.slice e) xs=> .ret (⟨e,xs⟩,[])
  |_=> .fail) else .fail
 | .bref s v off u=>if u.agg=false then .get s fun en=>if en.1=v then (match en.2.rowAt (some off) with
  |some r=>if (etM r.1).isEmpty=true then .ret (r.2,[s]) else .fail
  |none=> .fail) else .fail else .fail
 |_=> .fail
def qi5 (x:Op1):Q (Option (Nat×AV)×Nat×((e:Ty)×List e.den)):=
 match x.a with
 | .own et e xs=> .ret (x.s.map (fun s=>(s,.undef)),et,⟨e,xs⟩)
 | .nilr et e=> .ret (none,et,⟨e,[]⟩)
 | .ref s v=> .get s fun en=>if en.1=v then (match en.2 with
  | .own et e xs=> .ret (some (s,.undef),et,⟨e,xs⟩)
  |_=> .fail) else .fail
 | .bref s v off u=>if u.agg=false then .get s fun en=>if en.1=v then (match en.2.rowAt (some off),en.2.swapRow (.hole 1) (some off) with
  |some r,some a=> .ret (some (s,a),r.1,r.2)
  |_,_=> .fail) else .fail else .fail
 |_=> .fail
def qkz (r:Option (Nat×AV)):List U:=r.toList.map fun p=>⟨p.1,true,p.2⟩
def qpt (E:Env) (o:Oper) (tid:Nat) (x y:Op1):Q Eff:=
 (qi5 x).bind fun r=>(qt1 y).bind fun q=>match o.dst with
  |some d=>if E.ty tid=some (.slice r.2.2.1)∧r.2.1=E.etid tid∧etM r.2.1=[]∧E.bytes r.2.1≠0∧r.2.2.1.size≠0∧apart q.2 (r.1.map (·.1)).toList=true∧r.1.map (·.1)≠some d then (match Ty.as (t:= .slice q.1.1) (.slice r.2.2.1) q.1.2 with
   |some ys=> .ret ⟨qkz r.1++[⟨d,true,.own r.2.1 r.2.2.1 (qe2 r.2.2.2 ys)⟩],[qcX (qt r.2.2.2) (qt ys) (E.bytes r.2.1)]⟩
   |none=> .fail) else .fail
  |none=> .fail
def qo8 (E:Env) (o:Oper) (tid:Nat) (x y:Op1):Q Eff:=
 (qi5 x).bind fun r=>match o.dst,y.s,y.a with
  |some d,some sy,.own et' e' ys=>if E.ty tid=some (.slice r.2.2.1)∧etB r.2.1=E.etid tid∧r.2.1=et'∧E.bytes (etB r.2.1)≠0∧r.2.2.1.size≠0∧r.1.map (·.1)≠some d∧r.1.map (·.1)≠some sy∧sy≠d then (match Ty.as (t:= .slice e') (.slice r.2.2.1) ys with
   |some ys=> .ret ⟨qkz r.1++[⟨sy,true,.undef⟩,⟨d,true,.own r.2.1 r.2.2.1 (qe2 r.2.2.2 ys)⟩],[qcX (qt r.2.2.2) (qt ys) (E.bytes (etB r.2.1))]⟩
   |none=> .fail) else .fail
  |_,_,_=> .fail
def isMskd (x:Op1):Bool:=match x.a with
 | .own et _ _=> !(etM et).isEmpty
 |_=>false
def qpL (E:Env) (o:Oper) (tid tid':Nat) (x y:Op1):Q Eff:=
 (qi5 x).bind fun r=>(toVal .str y).bind fun q=>match o.dst with
  |some d=>if E.ty tid=some (.slice r.2.2.1)∧r.2.1=E.etid tid∧etM r.2.1=[]∧E.bytes r.2.1=1∧E.ty tid'=some .str∧r.1.map (·.1)≠some d then (match Ty.as (t:= .slice r.2.2.1) (.slice (.int .u8)) r.2.2.2 with
   |some xs=> .ret ⟨qkz r.1++[⟨d,true,.own r.2.1 (.int .u8) (qe2 xs (qlu q.1))⟩],[qcX (qt xs) (qt q.1) 1]⟩
   |none=> .fail) else .fail
  |none=> .fail
def qpP:Option Ty→Bool
 |some (.int _)=>true
 |_=>false
def qpp (E:Env) (o:Oper) (tid tid':Nat) (x y:Op1):Q Eff:=
 match x.a with
 | .nilr et e=>(qiP y).bind fun n=>if E.ty tid=some (.slice e)∧et=E.etid tid∧etM et=[]∧e.size≠0∧E.bytes et≠0∧qpP (E.ty tid')=true then .ret ⟨qbc o (.own et e (qtS n.2 e.dflt)),[ltI 0 n.2,room n.2 (E.bytes et)]⟩ else .fail
 |_=> .fail
def qnB (f:Int→Int→Int) (k:IntKind):Int→List Op1→Q Int
 |n,[]=> .ret n
 |n,o::os=>(qiP o).bind fun m=>if m.1=k then qnB f k (f n m.2) os else .fail
structure MV where
 s:Nat
 k:Ty
 v:Ty
 xs:List (k.den×v.den)
def qpg (o:Op1):Q MV:=
 match o.s,o.a with
 |some s,.mp k v xs=> .ret ⟨s,k,v,xs⟩
 |_,.ref s v=> .get s fun en=>if en.1=v then (match en.2 with
  | .mp k v xs=> .ret ⟨s,k,v,xs⟩
  |_=> .fail) else .fail
 |_,_=> .fail
def qpf (E:Env) (o:Oper) (ts:List Nat) (m k:Op1):Q Eff:=
 (qpg m).bind fun M=>(toVal M.k k).bind fun q=>if E.ty (ts.headD 0)=some (.map M.k M.v)∧o.dst.isSome=false then okE [⟨M.s,false,.mp M.k M.v (quR M.xs q.1)⟩] else .fail
def qvy (E:Env) (o:Oper) (t:Nat) (x y:Op1):Q Eff:=
 match x.a with
 | .osl s v fo sz lo hi=>(qt1 y).bind fun q=> .get s fun en=>if en.1=v then (match en.2.rowAt fo with
  |some (et,⟨e,xs⟩)=>if e.size=sz∧e.size≠0∧E.ty t=some (.slice e)∧etM et=[] then (match Ty.as (t:= .slice q.1.1) (.slice e) q.1.2 with
   |some ys=>(match en.2.swapRow (.own et e (qe2 (qbe xs 0 lo) (qe2 ys (qbe xs (qK .i64 lo (qt ys)) (qt xs))))) fo with
    |some a=> .ret ⟨⟨s,false,a⟩::qbc o (.val (.int .i64) (qt ys)),[leI (qt ys) (qG .i64 hi lo)]⟩
    |none=> .fail)
   |none=> .fail) else .fail
  |none=> .fail) else .fail
 |_=> .fail
def qnk (E:Env) (o:Oper) (b:Builtin) (ts:List Nat) (os:List Op1):Q Eff:=
 match b,os with
 | .len,[x]=>(qmh x).bind fun r=>match r,ts with
  |⟨.slice e,xs,_⟩,t::_=>if E.ty t=some (.slice e) then okE (qbc o (.val (.int .i64) (qt xs))) else .fail
  |⟨.str,xs,_⟩,t::_=>if E.ty t=some .str then okE (qbc o (.val (.int .i64) (qt xs))) else .fail
  |⟨.map k v,xs,_⟩,t::_=>if E.ty t=some (.map k v) then .ret ⟨qbc o (.val (.int .i64) (qt xs)),[leI (qt xs) 1099511627776]⟩ else .fail
  |_,_=> .fail
 | .append,[x,y]=>match ts with
  |[t,t']=>if t=t' then (match isMskd y with
   |true=>qo8 E o t x y
   |false=>qpt E o t x y) else if qpP (E.ty t')=true then qpp E o t t' x y else qpL E o t t' x y
  |_=> .fail
 | .cap,[x]=>(match x.a,ts with
  | .nilr _ e,t::_=>if E.ty t=some (.slice e) then okE (qbc o (.val (.int .i64) 0)) else .fail
  |_,_=> .fail)
 | .clear,[x]=>(match x.a,ts with
  | .osl s v fo sz lo hi,t::_=>if o.dst.isSome then .fail else .get s fun en=>if en.1=v then (match en.2.rowAt fo with
   |some (et,⟨e,xs⟩)=>if e.size=sz∧e.size≠0∧E.ty t=some (.slice e)∧etM et=[] then (match en.2.swapRow (.own et e (qe2 (qbe xs 0 lo) (qe2 (qtS (qG .i64 hi lo) e.dflt) (qbe xs hi (qt xs))))) fo with
    |some a=>okE [⟨s,false,a⟩]
    |none=> .fail) else .fail
   |none=> .fail) else .fail
  |_,_=> .fail)
 | .copy,[x,y]=>(match ts with
  |t::_::_=>qvy E o t x y
  |_=> .fail)
 | .delete,[m,k]=>(match ts with
  |_::_::_=>qpf E o ts m k
  |_=> .fail)
 | .max,x::r=>(qiP x).bind fun m=>(qnB maxI m.1 m.2 r).bind fun n=>okE (qbc o (.val (.int m.1) n))
 | .min,x::r=>(qiP x).bind fun m=>(qnB minI m.1 m.2 r).bind fun n=>okE (qbc o (.val (.int m.1) n))
 |_,_=> .fail
def qgx (o:Op1):Option (Nat×Option Nat×Nat):=match o.s,o.a with
 |some s,.box _=>some (s,some o.v,0)
 |some s,.hol (.box _) (some _) _ _ _ _=>some (s,some o.v,0)
 |_,.pbox s v off=>some (s,some v,off)
 |_,.pip k off=>some (k,none,off)
 |_,_=>none
def vOk (e:Nat):Option Nat→Bool
 |some v=>decide (e=v)
 |none=>true
def qsd (s off:Nat):Option Nat→AV
 |some v=> .pbox s v off
 |none=> .pip s off
def qn8 (pins:List Nat) (o:Oper) (assign:Bool) (x:Op1):Q Eff:=
 match x.s,x.a with
 |some s,.own et e xs=>
  if assign then (match o.dst with
   |some d=>if s=d then .fail else .get d fun en=>okE [⟨d,true,.own et e xs⟩,⟨s,true,.ref d (en.1+1)⟩]
   |none=> .fail)
  else okE (qbc o (.ref s x.v))
 |some s,.mp k v xs=>
  if assign then (match o.dst with
   |some d=>if s=d then .fail else .get d fun en=>okE [⟨d,true,.mp k v xs⟩,⟨s,true,.ref d (en.1+1)⟩]
   |none=> .fail)
  else okE (qbc o (.ref s x.v))
 |some s,.box c=>
  if pins.contains s then okE (qbc o (.pip s 0))
  else if assign then (match o.dst with
   |some d=>if s=d then .fail else .get d fun en=>okE [⟨d,true,.box c⟩,⟨s,true,.pbox d (en.1+1) 0⟩]
   |none=> .fail)
  else okE (qbc o (.pbox s x.v 0))
 |some s,.agg c=>match o.dst with
  |some d=>if s=d then .fail else okE [⟨d,true,.agg c⟩,⟨s,true,.undef⟩]
  |none=> .fail
 |some s,.tup cs=>match o.dst with
  |some d=>if s=d then .fail else okE [⟨d,true,.tup cs⟩,⟨s,true,.undef⟩]
  |none=> .fail
 |some s,.hol _ none _ _ _ _=>if assign then .fail else okE (qbc o (.ref s x.v))
 |none,.own et e xs=>okE (qbc o (.own et e xs))
 |_,.ref s v=>if assign&&o.dst == some s then (.get s fun en=>if en.1=v then okE [] else .fail) else okE (qbc o (.ref s v))
 |_,a=>if a.unowned then okE (qbc o a) else .fail
def BC.sound:BC→Bool
 | .hole _=>false
 | .pair a b=>a.sound&&b.sound
 |_=>true
def qhB (t:Ty) (x:Op1):Q (BC×List Nat×List U):=
 match x.s,x.a with
 |some s,.own et e xs=>if t= .slice e then .ret (.own et e xs,[],[⟨s,true,.undef⟩]) else .fail
 |none,.own et e xs=>if t= .slice e then .ret (.own et e xs,[],[]) else .fail
 |some s,.agg c=>if c.size=t.size∧c.sound=true then .ret (c,[],[⟨s,true,.undef⟩]) else .fail
 |_,_=>(toVal t x).bind fun r=> .ret (.val t r.1,r.2,[])
def boxE (E:Env) (o:Oper) (tid:Nat) (x:Op1):Q Eff:=
 match E.ty tid,o.dst with
 |some t,some d=>(qhB t x).bind fun c=>if c.2.1.isEmpty&& !(c.2.2.map (·.s)).contains d then okE (c.2.2++[⟨d,true,.box c.1⟩]) else .fail
 |_,_=> .fail
def quM (o:Oper) (t:Ty) (s:Nat) (en:Ent) (fo:Option Nat) (sz:Nat) (i:Int) (off:Nat):Q Eff:=
 match t,en.2.rowAt fo,o.dst with
 | .slice e',some (et,⟨e,xs⟩),some d=>if e.size=sz∧d≠s∧e.noArr=true then (match (etM et).at off,e.sub (qk xs i e.dflt) off (.slice e') with
  |some et',some ys=>if etM et'=[] then .get d fun ed=>okE [⟨s,false,.hol en.2 fo i off d (ed.1+1)⟩,⟨d,true,.own et' e' ys⟩] else .fail
  |_,_=> .fail) else .fail
 |_,_,_=> .fail
def qnV (o:Oper) (t:Ty) (fo:Option Nat) (sz:Nat) (i:Int) (off:Nat):AV→Q Eff
 | .hol a fo' i' o1 t0 v0=>if fo=fo' then (if off=o1∧t.agg=false then .get t0 fun e0=>if e0.1=v0 then (match a.rowAt fo with
   |some (_,⟨e,_⟩)=>if e.size=sz then .ret ⟨qbc o (.ref t0 v0),[eqI i i']⟩ else .fail
   |none=> .fail) else .fail
  else match a.rowAt fo with
   |some (et,⟨e,xs⟩)=>if e.size=sz∧(etM et).hits off (off+t.size)=false then (match e.sub (qk xs i e.dflt) off t with
    |some x=>okE (qbc o (.val t x))
    |none=> .fail) else .fail
   |none=> .fail) else .fail
 |_=> .fail
def qvd (E:Env) (o:Oper) (t:Ty) (s:Nat) (c:BC) (off:Nat):Option (Q Eff):=
 match o.dst with
 |some d=>if E.tk.contains d=true∧d≠s∧t.agg=true∧off=0∧c.size=t.size then some (okE [⟨s,true,.undef⟩,⟨d,true,.agg c⟩]) else none
 |none=>none
def qvr (E:Env) (o:Oper) (t:Ty) (s:Nat) (c:BC) (off:Nat):Option (Q Eff):=
 match o.dst,c.row off with
 |some d,some (et,⟨e,xs⟩)=>if E.tk.contains d=true∧d≠s∧t.agg=false then some (.get d fun ed=>okE [⟨s,false,.bhl c off d (ed.1+1)⟩,⟨d,true,.own et e xs⟩]) else none
 |_,_=>none
def qvn (E:Env) (o:Oper) (t:Ty) (s:Nat) (c:BC) (off:Nat):Option (Q Eff):=
 match o.dst,c.row off,c.swap off (.hole 1) with
 |some d,some (et,⟨e,xs⟩),some c'=>if E.tk.contains (d+1000000)=true∧d≠s∧t.agg=false then some (okE [⟨s,false,.box c'⟩,⟨d,true,.own et e xs⟩]) else none
 |_,_,_=>none
def quY (E:Env) (o:Oper) (tid:Nat) (p:Op1):Q Eff:=
 match E.ty tid with
 |none=> .fail
 |some t=>match qgx p with
  |some (s,v,off)=> .get s fun en=>if vOk en.1 v=true then (match en.2 with
   | .box c=>(match c.get off t with
    |some (x,false)=>okE (qbc o (.val t x))
    |some (_,true)=>(match qvd E o t s c off with
     |some q=>q
     |none=>match qvr E o t s c off with
     |some q=>q
     |none=>match qvn E o t s c off with
     |some q=>q
     |none=>okE (qbc o (.bref s en.1 off t)))
    |none=> .fail)
   | .hol (.box _) (some o1) _ _ _ _=>if off=o1∧t.agg=false then okE (qbc o (.bref s en.1 off t)) else .fail
   |_=> .fail) else .fail
  |none=>match p.a with
   | .prow s v fo sz i off=> .get s fun en=>if en.1=v then (match en.2.rowAt fo with
    |some (et,⟨e,xs⟩)=>if e.size=sz∧(etM et).hits off (off+t.size)=false then (match e.sub (qk xs i e.dflt) off t with
     |some x=>okE (qbc o (.val t x))
     |none=> .fail) else quM o t s en fo sz i off
    |none=>qnV o t fo sz i off en.2) else .fail
   | .view t' x off=>(match t'.sub x off t with
    |some y=>okE (qbc o (.val t y))
    |none=> .fail)
   | .parr s v off n e i o2=> .get s fun en=>if vOk en.1 v=true then (match en.2 with
    | .box c=>(match c.get off (.arr n e) with
     |some (xs,false)=>(match e.sub (qk xs i e.dflt) o2 t with
      |some y=>okE (qbc o (.val t y))
      |none=> .fail)
     |_=> .fail)
    |_=> .fail) else .fail
   |_=> .fail
def putE (t:Ty) (x:Op1) (s v:Nat) (fo:Option Nat) (sz:Nat) (i:Int) (off:Nat) (en:Ent) (a:AV) (fo':Option Nat) (i':Int) (o1:Nat):Q Eff:=
 match t,x.s,x.a,a.rowAt fo with
 | .slice e',some sx,.own et' e'' ys,some (et,⟨e,xs⟩)=>if en.1=v∧fo=fo'∧off=o1∧sx≠s∧e.size=sz∧e.noArr=true∧(etM et).at off=some et'∧etM et'=[]∧(e.sub (qk xs i e.dflt) off (.slice e')).isSome=true then (match Ty.as (t:= .slice e'') (.slice e') ys with
  |some ys=>(match e.upd (qk xs i e.dflt) off (.slice e') ys with
   |some y=>(match a.swapRow (.own et e (qbG xs i y)) fo with
    |some a'=> .ret ⟨[⟨s,false,a'⟩,⟨sx,true,.undef⟩],[eqI i i']⟩
    |none=> .fail)
   |none=> .fail)
  |none=> .fail) else .fail
 |_,_,_,_=> .fail
def qsl (E:Env) (tid:Nat) (p x:Op1):Q Eff:=
 match E.ty tid with
 |none=> .fail
 |some t=>match qgx p with
  |some (s,v,off)=>(qhB t x).bind fun n=>if n.2.1.isEmpty&& !(n.2.2.map (·.s)).contains s then (.get s fun en=>if vOk en.1 v=true then (match en.2 with
   | .box c=>(match c.put off n.1 with
    |some c'=>okE (n.2.2++[⟨s,true,.box c'⟩])
    |none=> .fail)
   |_=> .fail) else .fail) else .fail
  |none=>match p.a with
   | .prow s v fo sz i off=> .get s fun en0=>match en0.2 with
    | .hol a fo' i' o1 _ _=>putE t x s v fo sz i off en0 a fo' i' o1
    |_=>(toVal t x).bind fun r=>if r.2.contains s=true then .fail else (qbZ r.2).bind fun fz=>(.get s fun en=>if en.1=v then (match en.2.rowAt fo with
    |some (et,⟨e,xs⟩)=>if e.size=sz∧(etM et).hits off (off+t.size)=false then (match e.upd (qk xs i e.dflt) off t r.1 with
     |some y=>(match en.2.swapRow (.own et e (qbG xs i y)) fo with
      |some a=>okE (fz++[⟨s,false,a⟩])
      |none=> .fail)
     |none=> .fail) else .fail
    |none=> .fail) else .fail)
   | .parr s v off n e i o2=>(toVal t x).bind fun r=>if r.2.isEmpty then (.get s fun en=>if vOk en.1 v=true then (match en.2 with
    | .box c=>(match c.get off (.arr n e) with
     |some (xs,false)=>(match e.upd (qk xs i e.dflt) o2 t r.1 with
      |some y=>(match c.put off (.val (.arr n e) (qbG xs i y)) with
       |some c'=>okE [⟨s,true,.box c'⟩]
       |none=> .fail)
      |none=> .fail)
     |_=> .fail)
    |_=> .fail) else .fail) else .fail
   |_=> .fail
def qvj (o:Oper) (off:Nat) (p:Op1):Q Eff:=
 match qgx p with
 |some (s,v,b)=> .get s fun en=>if vOk en.1 v=true then okE (qbc o (qsd s (b+off) v)) else .fail
 |none=>match p.a with
  | .prow s v fo sz i b=> .get s fun en=>if en.1=v then okE (qbc o (.prow s v fo sz i (b+off))) else .fail
  | .view t x b=>okE (qbc o (.view t x (b+off)))
  | .parr s v b n e i o2=> .get s fun en=>if vOk en.1 v=true then okE (qbc o (.parr s v b n e i (o2+off))) else .fail
  |_=> .fail
def qmM (E:Env) (o:Oper) (tid:Nat) (x ix:Op1):Q Eff:=
 (qiP ix).bind fun i=>match E.ty tid with
  |some (.slice e0)=>match x.s,x.a with
   |some s,.own _ e xs=>if e.size=e0.size then .ret ⟨qbc o (.prow s x.v none e.size i.2 0),[inB i.2 (qt xs)]⟩ else .fail
   |_,.ref s v=> .get s fun en=>if en.1=v then (match en.2 with
    | .own _ e xs=>if e.size=e0.size then .ret ⟨qbc o (.prow s v none e.size i.2 0),[inB i.2 (qt xs)]⟩ else .fail
    | .val (.slice e) xs=>if e.size=e0.size then .ret ⟨qbc o (.view e (qk xs i.2 e.dflt) 0),[inB i.2 (qt xs)]⟩ else .fail
    | .hol b none _ _ _ _=>(match b.rowAt none with
     |some (_,⟨e,xs⟩)=>if e.size=e0.size then .ret ⟨qbc o (.prow s v none e.size i.2 0),[inB i.2 (qt xs)]⟩ else .fail
     |none=> .fail)
    |_=> .fail) else .fail
   |_,.val (.slice e) xs=>if e.size=e0.size then .ret ⟨qbc o (.view e (qk xs i.2 e.dflt) 0),[inB i.2 (qt xs)]⟩ else .fail
   |_,.bref s v off u=>if u.agg=false then .get s fun en=>if en.1=v then (match en.2.rowAt (some off) with
    |some (_,⟨e,xs⟩)=>if e.size=e0.size then .ret ⟨qbc o (.prow s v (some off) e.size i.2 0),[inB i.2 (qt xs)]⟩ else .fail
    |none=>(match en.2 with
     | .hol b (some o1) _ _ _ _=>if o1=off then (match b.rowAt (some o1) with
      |some (_,⟨e,xs⟩)=>if e.size=e0.size then .ret ⟨qbc o (.prow s v (some off) e.size i.2 0),[inB i.2 (qt xs)]⟩ else .fail
      |none=> .fail) else .fail
     |_=> .fail)) else .fail else .fail
   |_,_=> .fail
  |some (.arr n e0)=>if n<2 then .fail else (match qgx x with
   |some (s,v,b)=> .get s fun en=>if vOk en.1 v=true then .ret ⟨qbc o (.parr s v b n e0 i.2 0),[inB i.2 n]⟩ else .fail
   |none=>(match x.a with
    | .view t y off=>(match t.sub y off (.arr n e0) with
     |some ys=> .ret ⟨qbc o (.view e0 (qk ys i.2 e0.dflt) 0),[inB i.2 n]⟩
     |none=> .fail)
    |_=> .fail))
  |_=> .fail
def qgW (b:Option Op1) (d:Int):Q Int:=match b with
 |some b=>(qiP b).bind fun i=> .ret i.2
 |none=> .ret d
structure Site where
 s:Nat
 v:Nat
 fo:Option Nat
 et:Nat
 e:Ty
 xs:List e.den
def qsR (x:Op1):Q Site:=match x.s,x.a with
 |some s,.own et e xs=> .ret ⟨s,x.v,none,et,e,xs⟩
 |_,.ref s v=> .get s fun en=>if en.1=v then (match en.2 with
  | .own et e xs=> .ret ⟨s,v,none,et,e,xs⟩
  |_=> .fail) else .fail
 |_,.bref s v off u=>if u.agg=false then .get s fun en=>if en.1=v then (match en.2.rowAt (some off) with
  |some r=> .ret ⟨s,v,some off,r.1,r.2.1,r.2.2⟩
  |none=> .fail) else .fail else .fail
 |_,_=> .fail
def qlS (E:Env) (o:Oper) (tid:Nat) (x:Op1) (lo hi:Option Op1):Q Eff:=
 (qmh x).bind fun r=>match r with
 |⟨.str,xs,_⟩=>(qgW lo 0).bind fun l=>(qgW hi (qt xs)).bind fun h=>
  if E.ty tid=some .str then .ret ⟨qbc o (.val .str (qbe xs l h)),[inS l h (qt xs)]⟩ else .fail
 |⟨.slice e,xs,[]⟩=>(qgW lo 0).bind fun l=>(qgW hi (qt xs)).bind fun h=>
  if E.ty tid=some (.slice e) then .ret ⟨qbc o (.val (.slice e) (qbe xs l h)),[inS l h (qt xs)]⟩ else .fail
 |⟨.slice _,_,_::_⟩=>(qsR x).bind fun q=>(qgW lo 0).bind fun l=>(qgW hi (qt q.xs)).bind fun h=>
  if E.ty tid=some (.slice q.e) then .ret ⟨qbc o (.osl q.s q.v q.fo q.e.size l h),[inS l h (qt q.xs)]⟩ else .fail
 |_=> .fail
def qrD (E:Env) (o:Oper) (tid:Nat) (x:Op1) (s v d:Nat) (hi:Option Op1):Q Eff:=
 .get s fun en=>if en.1=v then (match en.2 with
  | .own et e xs=>if d≠s∧E.ty tid=some (.slice e)∧etM et=[] then (qgW hi (qt xs)).bind fun h=> .ret ⟨[⟨s,true,.undef⟩,⟨d,true,.own et e (qbe xs 0 h)⟩],[inS 0 h (qt xs)]⟩ else .fail
  |_=>qlS E o tid x none hi) else .fail
def cutE (E:Env) (o:Oper) (tid:Nat) (x:Op1) (hi:Option Op1):Option (Q Eff):=
 match x.s,x.a,o.dst with
 |some s,.own et e xs,some d=>if d≠s∧E.ty tid=some (.slice e)∧etM et=[] then some ((qgW hi (qt xs)).bind fun h=> .ret ⟨[⟨s,true,.undef⟩,⟨d,true,.own et e (qbe xs 0 h)⟩],[inS 0 h (qt xs)]⟩) else none
 |_,.nilr et e,_=>if E.ty tid=some (.slice e) then some ((qgW hi 0).bind fun h=> .ret ⟨qbc o (.nilr et e),[inS 0 h 0]⟩) else none
 |_,.ref s v,some d=>some (qrD E o tid x s v d hi)
 |_,_,_=>none
def qa2:Ty→List Nat
 | .pair a b=>a.size::qa2 b
 |_=>[]
def qqt (a b:Ty):BC→Option (BC×BC)
 | .pair c d=>if c.size=a.size then some (c,d) else none
 | .val (.pair a' b') x=>if a'.size=a.size then some (.val a' x.1,.val b' x.2) else none
 |_=>none
def qhl (z:BC) (t:Ty) (i:Nat):List (Nat×Op1)→Q (BC×List Nat)
 |ps=>match t with
  | .pair a b=>(match qqt a b z with
   |some (za,zb)=>(match ps.find? (fun p=>p.1 == i) with
    |some p=>(qhB a p.2).bind fun c=>if c.2.1.isEmpty then (qhl zb b (i+1) ps).bind fun r=> .ret (pairBC c.1 r.1,c.2.2.map (·.s)++r.2) else .fail
    |none=>(qhl zb b (i+1) ps).bind fun r=> .ret (pairBC za r.1,r.2))
   |none=> .fail)
  | .unit=> .ret (.val .unit (),[])
  |_=> .fail
where
 pairBC:BC→BC→BC
  | .val a x,.val b y=> .val (.pair a b) (x,y)
  |c,d=> .pair c d
def qi9 (e:Ty):Nat→List Op1→Q (List e.den×List Nat)
 |0,[]=> .ret ([],[])
 |n+1,o::os=>(toVal e o).bind fun x=>(qi9 e n os).bind fun r=> .ret (x.1::r.1,x.2++r.2)
 |_,_=> .fail
def qrI (E:Env) (o:Oper) (t n:Nat) (e:Ty):List (Nat×Op1)→Option Eff
 |[(i,x)]=>match o.dst,x.s,x.a with
  |some d,some s,.agg c=>if i=0∧n=1∧s≠d∧c.size=e.size∧e.agg=true∧0<e.size∧e.size≤16777216∧c.sound=true∧etB (qlU E.msk (E.etid t))=E.etid t∧(etM (qlU E.msk (E.etid t))).isEmpty=false then (match c.toM (etM (qlU E.msk (E.etid t))) e 0 with
   |some y=>some ⟨[⟨s,true,.undef⟩,⟨d,true,.own (qlU E.msk (E.etid t)) e [y]⟩],[]⟩
   |none=>none) else none
  |_,_,_=>none
 |_=>none
def qj5:Nat→List (Nat×Op1)→Bool
 |_,[]=>true
 |i,p::ps=>p.1 == i&&qj5 (i+1) ps
def qre (c:BC):AV:=
 match c with
 | .val t x=> .val t x
 |c=> .agg c
def qjo (E:Env) (p:qgA) (tid:Nat→Nat):List (Nat×Operand)→Q (List (Nat×Op1))
 |[]=> .ret []
 |(i,x)::r=>(opd E p (tid i) x).bind fun a=>(qjo E p tid r).bind fun q=> .ret ((i,a)::q)
def convE (E:Env) (o:Oper) (src dst:Nat) (x:Op1):Q Eff:=
 match E.ty src,E.ty dst with
 |some (.int _),some (.int k)=>(qiP x).bind fun n=>okE (qbc o (.val (.int k) (qbs k n.2)))
 |some .str,some .str=>(toVal .str x).bind fun s=>okE (qbc o (.val .str s.1))
 |some (.slice (.int .u8)),some .str=>if E.ty (E.etid src)=some (.int .u8) then ((toVal (.slice (.int .u8)) x).bind fun s=>okE (qbc o (.val .str (qty s.1)))) else .fail
 |some .str,some (.slice (.int .u8))=>if E.ty (E.etid dst)=some (.int .u8) then ((toVal .str x).bind fun s=>okE (qbc o (.val (.slice (.int .u8)) (qlu s.1)))) else .fail
 |some (.slice (.int .u8)),some (.slice (.int .u8))=>(match x.s,x.a,o.dst with
  |some s,.own et e xs,some d=>if src=dst∧s≠d∧(etM et).isEmpty=true∧e= .int .u8∧E.ty (E.etid dst)=some (.int .u8)∧xs.isEmpty=false then okE [⟨s,true,.undef⟩,⟨d,true,.val (.slice e) xs⟩] else .fail
  |_,_,_=> .fail)
 |_,_=> .fail
def qsQ (op:BinOp) (y:Operand):Bool:=match op,y with
 | .eql,.const (.slice none 0 0)=>true
 | .neq,.const (.slice none 0 0)=>true
 |_,_=>false
def qpd (op:BinOp) (y:Operand):Bool:=match op,y with
 | .eql,.const .nilIface=>true
 | .neq,.const .nilIface=>true
 |_,_=>false
def qrC:Option Ty→Bool
 |some .err=>true
 |_=>false
def qo5 (op:BinOp) (y:Operand):Bool:=match op,y with
 | .eql,.const (.pointer none)=>true
 | .neq,.const (.pointer none)=>true
 |_,_=>false
def qr2:Option Ty→Bool
 |some (.opt _)=>true
 |_=>false
def qos:Option Ty→Bool
 |some (.slice _)=>true
 |_=>false
def qfN:BinOp→Bool
 | .eql=>true
 |_=>false
def qrF (E:Env) (o:Oper) (t:Nat) (m k:Op1) (ok:Bool):Q Eff:=
 match m.a with
 | .val (.map kt vt) xs=>(toVal kt k).bind fun q=>if E.ty t=some (.map kt vt) then (match ok with
  |false=>okE (qbc o (.val vt (qkv xs q.1 vt.dflt)))
  |true=>okE (qbc o (.tup [.val vt (qkv xs q.1 vt.dflt),.val .bool (qo0 xs q.1)]))) else .fail
 |_=>(qpg m).bind fun M=>(toVal M.k k).bind fun q=>if E.ty t=some (.map M.k M.v) then (match ok with
  |false=>okE (qbc o (.val M.v (qkv M.xs q.1 M.v.dflt)))
  |true=>okE (qbc o (.tup [.val M.v (qkv M.xs q.1 M.v.dflt),.val .bool (qo0 M.xs q.1)]))) else .fail
def qhV (E:Env) (t:Nat) (m k x:Op1):Q Eff:=
 (qpg m).bind fun M=>(toVal M.k k).bind fun q=>(toVal M.v x).bind fun r=>if E.ty t=some (.map M.k M.v)∧M.s∉r.2 then
  (if M.v.flat then Q.ret [] else qbZ r.2).bind fun fz=>okE (fz++[⟨M.s,false,.mp M.k M.v (qmI M.xs q.1 r.1)⟩]) else .fail
def qqw (E:Env) (o:Oper) (t:Nat):Q Eff:=
 match E.ty t with
 |some (.map k v)=>okE (qbc o (.mp k v []))
 |_=> .fail
def qdS (E:Env) (p:qgA) (o:Oper):Q Eff:=
 match o.op with
 | .move x=>(opd E p o.type x).bind fun x=>qn8 E.pins o false x
 | .assign x=>(opd E p o.type x).bind fun x=>qn8 E.pins o true x
 | .pick c a b=>(opd E p 0 c).bind fun cv=>(qmh cv).bind fun cr=>match cr with
  |⟨.bool,bc,_⟩=>
   (opd E (qpF c cv.v true bc p) o.type a).bind fun a=>(qmh a).bind fun ar=>(opd E (qpF c cv.v false bc p) o.type b).bind fun b=>(qmh b).bind fun br=>
    match Ty.as (t:=br.t) ar.t br.x with
    |some y=>if ar.ow.isEmpty&&br.ow.isEmpty then okE (qbc o (.val ar.t (bif bc then ar.x else y))) else .fail
    |none=> .fail
  |_=> .fail
 | .alloc t=>match E.zero t with
  |some c=>okE (qbc o (.box c))
  |none=> .fail
 | .box t x=>(opd E p t x).bind fun x=>(match qvB E o t x with
  |some q=>q
  |none=>boxE E o t x)
 | .build t parts=>(qjo E p (fun _=>0) parts.toList).bind fun ps=>match E.ty t with
  |some (.arr n e)=>if qj5 0 ps&&(decide (0<n * e.size)&&decide ((E.zero t).map BC.size=some (n * e.size))) then (qi9 e n (ps.map (·.2))).bind fun r=>(if e.flat then Q.ret [] else qbZ r.2).bind fun fz=>okE (fz++qbc o (.val (.arr n e) r.1)) else .fail
  |some T=>(qhl (if E.ownz=true then (E.zero t).getD (.val T T.dflt) else .val T T.dflt) T 0 ps).bind fun r=>(match o.dst with
   |some d=>if qiE (d::r.2)&&qiE (ps.map (·.1))&&ps.all (fun q=>decide (q.1<(qa2 T).length)) then okE (r.2.map (fun s=>⟨s,true,.undef⟩)++[⟨d,true,qre r.1⟩]) else .fail
   |none=> .fail)
  |none=> .fail
 | .buildSlice t n parts=>(qjo E p (fun _=>E.etid t) parts.toList).bind fun ps=>match E.ty t with
  |some (.slice e)=>match qrI E o t n e ps with
   |some f=> .ret f
   |none=>if n=0∧parts.size=0∧etM (E.etid t)=[] then okE (qbc o (.own (E.etid t) e [])) else if qj5 0 ps&&decide (n * e.size≤16777216)&&(decide (0<n * e.size)&&(etM (E.etid t)).isEmpty) then (qi9 e n (ps.map (·.2))).bind fun r=>(if e.flat then Q.ret [] else qbZ r.2).bind fun fz=>okE (fz++qbc o (.own (E.etid t) e r.1)) else .fail
  |_=> .fail
 | .load t a=>(opd E p 0 a).bind fun a=>(match qrE E o t a with
  |some q=>q
  |none=>quY E o t a)
 | .store t a x=>if o.dst.isSome then .fail else (opd E p 0 a).bind fun a=>(opd E p t x).bind fun x=>qsl E t a x
 | .nilCheck x=>(opd E p 0 x).bind fun x=>match qgx x with
  |some (s,v,off)=> .get s fun en=>if vOk en.1 v=true then okE (qbc o (qsd s off v)) else .fail
  |none=>match x.a with
   | .prow s v fo sz i b=> .get s fun en=>if en.1=v then okE (qbc o (.prow s v fo sz i b)) else .fail
   | .view t y b=>okE (qbc o (.view t y b))
   | .val (.opt e) y=> .ret ⟨qbc o (.view e (qr y e.dflt) 0),[qw y]⟩
   |_=> .fail
 | .binOp op t x y _=>if qsQ op y&&qos (E.ty t) then (opd E p t x).bind fun x=>(match x.a with
   | .nz _ xs=>okE (qbc o (.val .bool (bif qfN op then eqI (qt xs) 0 else !(eqI (qt xs) 0))))
   |_=>(qmh x).bind fun x=>(match x with
    |⟨.slice _,xs,_⟩=>okE (qbc o (.amb (qfN op) (eqI (qt xs) 0)))
    |_=> .fail)) else if qpd op y&&qrC (E.ty t) then (opd E p t x).bind fun x=>(qmh x).bind fun x=>(match x with
   |⟨.err,b,_⟩=>okE (qbc o (.val .bool (bif qfN op then b else !b)))
   |_=> .fail) else if qo5 op y&&qr2 (E.ty t) then (opd E p t x).bind fun x=>(qmh x).bind fun x=>(match x with
   |⟨.opt _,z,_⟩=>okE (qbc o (.val .bool (bif qfN op then !(qw z) else qw z)))
   |_=> .fail) else (opd E p t x).bind fun x=>(opd E p t y).bind fun y=>(qmh x).bind fun x=>(qmh y).bind fun y=>match binE E op t x y with
  |some (a,c)=> .ret ⟨qbc o a,c⟩
  |none=> .fail
 | .unOp op _ x=>(opd E p o.type x).bind fun x=>(qmh x).bind fun x=>match unE op x with
  |some a=>okE (qbc o a)
  |none=> .fail
 | .convert s d x=>(opd E p s x).bind fun x=>convE E o s d x
 | .slice t x lo hi none=>(opd E p t x).bind fun x=>match lo,hi with
  |none,none=>(match cutE E o t x none with
   |some q=>q
   |none=>qlS E o t x none none)
  |some l,none=>(opd E p 0 l).bind fun l=>qlS E o t x (some l) none
  |none,some h=>(opd E p 0 h).bind fun h=>(match cutE E o t x (some h) with
   |some q=>q
   |none=>qlS E o t x none (some h))
  |some l,some h=>(opd E p 0 l).bind fun l=>(opd E p 0 h).bind fun h=>qlS E o t x (some l) (some h)
 | .fieldAddr t x f=>(opd E p 0 x).bind fun x=>(match qtf E o t f x with
  |some q=>q
  |none=>match E.off t f with
   |some off=>qvj o off x
   |none=> .fail)
 | .field t x f=>(opd E p t x).bind fun x=>match E.ty t,E.off t f,E.ty (E.fty t f) with
  |some t,some off,some u=>(toVal t x).bind fun r=>match t.sub r.1 off u with
   |some y=>(if u.flat then Q.ret [] else qbZ r.2).bind fun fz=>okE (fz++qbc o (.val u y))
   |none=> .fail
  |_,_,_=> .fail
 | .indexAddr t x ix=>(opd E p t x).bind fun x=>(opd E p 0 ix).bind fun ix=>qmM E o t x ix
 | .index t x ix=>(opd E p t x).bind fun x=>(opd E p 0 ix).bind fun ix=>(qiP ix).bind fun i=>(qmh x).bind fun r=>match r with
  |⟨.str,xs,_⟩=>if E.ty t=some .str then .ret ⟨qbc o (.val (.int .u8) (qms (qk xs i.2 0))),[inB i.2 (qt xs)]⟩ else .fail
  |⟨.arr n e,xs,[]⟩=>if E.ty t=some (.arr n e)∧E.ty (E.etid t)=some e then .ret ⟨qbc o (.val e (qk xs i.2 e.dflt)),[inB i.2 n]⟩ else .fail
  |_=> .fail
 | .extract x i=>match x with
  | .tmp t=> .get t fun en=>match qa6 p en.2 with
   | .tup cs=>match cs[i]? with
    |some (.val t x)=>okE (qbc o (.val t x))
    |some (.own et e xs)=>(match o.dst with
     |some d=>if d=t then .fail else okE [⟨t,true,.tup (cs.set i .gone)⟩,⟨d,true,.own et e xs⟩]
     |none=> .fail)
    |some (.agg c)=>(match o.dst with
     |some d=>if d=t then .fail else okE [⟨t,true,.tup (cs.set i .gone)⟩,⟨d,true,.agg c⟩]
     |none=> .fail)
    |_=> .fail
   |_=> .fail
  |_=> .fail
 | .makeSlice t l c=>(opd E p 0 l).bind fun l=>(opd E p 0 c).bind fun c=>(qiP l).bind fun n=>(qiP c).bind fun m=>match E.ty t with
  |some (.slice e)=>if E.bytes (E.etid t)≠0∧etM (E.etid t)=[] then .ret ⟨qbc o (.own (E.etid t) e (qtS n.2 e.dflt)),[leI 0 n.2,leI n.2 m.2,room m.2 (E.bytes (E.etid t))]⟩ else .fail
  |_=> .fail
 | .makeMap t r=>if r.isNone then qqw E o t else .fail
 | .lookup t m k ok=>(opd E p 0 m).bind fun m=>(opd E p 0 k).bind fun k=>qrF E o t m k ok
 | .mapUpdate t m k x=>if o.dst.isSome then .fail else (opd E p 0 m).bind fun m=>(opd E p 0 k).bind fun k=>(opd E p (E.etid t) x).bind fun x=>qhV E t m k x
 | .insert t m k x=>if o.dst.isSome then .fail else (opd E p 0 m).bind fun m=>(opd E p 0 k).bind fun k=>(opd E p (E.etid t) x).bind fun x=>qhV E t m k x
 | .range t x=>(opd E p t x).bind fun x=>(match x.a with
  | .val (.map k v) xs=>if E.ty t=some (.map k v) then okE (qbc o (.itr k v xs none)) else .fail
  |_=> .fail)
 | .entry x=>(opd E p 0 x).bind fun x=>(match x.a with
  | .itr k v _ (some e)=>okE (qbc o (.tup [.val k e.1,.val v e.2]))
  |_=> .fail)
 | .makeFunc fn first caps=>match fn with
  | .func f=>if first.isEmpty then cloE E o f caps.toList else .fail
  |_=> .fail
 | .call c=>match c.callee with
  | .builtin b=>(qu0 E p c.args.toList c.argTypes.toList).bind fun os=>qnk E o b c.argTypes.toList os
  | .value f=>match f with
   | .func f=>(match E.fn f with
    |some C=>(qu0 E p c.args.toList c.argTypes.toList).bind fun os=>qvk E o C os
    |none=> .fail)
   | .tmp t=> .get t fun e=>(match qa6 p e.2 with
    | .fnv ts us φ=>(qu0 E p c.args.toList c.argTypes.toList).bind fun os=>qvi E o ts us φ os
    | .lsv et e k φ=>(qu0 E p c.args.toList c.argTypes.toList).bind fun os=>qrM o et e k φ os
    |_=> .fail)
   |_=> .fail
  |_=> .fail
 |_=> .fail
def qqb:List (Nat×Nat)→Q Unit
 |[]=> .ret ()
 |m::r=> .get m.1 fun en=>if m.2≤en.1 then qqb r else .fail
def qjW (s:Nat):List U→Nat
 |[]=>0
 |u::r=>match u.s == s&&u.bump with
  |true=>qjW s r+1
  |false=>qjW s r
def qmY (d:List Nat) (u:U):Bool:=match u.a with
 | .box _=> !d.contains u.s
 |_=>false
def qfI (us:List U) (d:List Nat):List Nat→Q (List U)
 |[]=> .ret []
 |t::r=> .get t fun e=>match e.2 with
  | .pbox s v off=>if us.any (fun u=>u.s == s&&qmY d u)&& !us.any (fun u=>u.s == t)&& !d.contains s&& !d.contains t&&s != t then .get s fun e2=>(match e2.2 with
    | .box _=>if e2.1=v then (qfI us d r).bind fun l=> .ret (⟨t,true,.pbox s (v+qjW s us) off⟩::l) else qfI us d r
    |_=>qfI us d r) else qfI us d r
  |_=>qfI us d r
def qkY (E:Env) (o:Oper) (f:Eff):Q Eff:=match E.rf with
 |[]=> .ret f
 |l=>if f.upd.any (qmY o.dst.toList) then (qfI f.upd o.dst.toList l).bind fun us=> .ret ⟨f.upd++us,f.chk⟩ else .ret f
def qdj (E:Env) (g:Option (Nat×Bool)) (o:Oper):Q Eff:=
 match g with
 |none=>(qdS E [] o).bind fun f=>qkY E o f
 |some (s,w)=>(qd9 8 s w).bind fun p=>(qdS E p o).bind fun f=>match f.upd,o.dst,p with
  |[⟨d,true,a⟩],some d',(s',v',w',_)::_=>if d=d'∧a.freeze.unowned=true∧a.freeze.isUndef=false∧p.all (fun q=>q.1 != d)=true then (qqb a.freeze.mentions).bind fun _=> .ret ⟨[⟨d,true,.grd s' v' w' a.freeze⟩],f.chk.map fun c=> !(qmk p)||c⟩ else .fail
  |_,_,_=> .fail
def qR (σ:St) (u:U):St:=σ.set u.s ((if u.bump then (qs σ u.s).1+1 else (qs σ u.s).1),u.a)
def qh (σ:St) (us:List U):St:=us.foldl qR σ
def qbS (ops:Array Oper) (o:Oper):Option (Option (Nat×Bool)):=
 match o.guard with
 |none=>some none
 |some (j,w)=>match (ops[j]?).bind (·.dst) with
  |some d=>some (some (d,w))
  |none=>none
structure qcs where
 rd:List Nat
 us:List U
def qcs.wr (f:qcs):List Nat:=f.us.map (·.s)
def qbP (E:Env) (wr:List Nat) (ops:Array Oper):List Oper→St→List Bool→List qcs→Option (St×List Bool×List qcs)
 |[],σ,c,fs=>some (σ,c,fs)
 |o::r,σ,c,fs=>match qbS ops o with
  |none=>none
  |some g=>match (qdj E g o).run (qs σ) with
   |none=>none
   |some f=>if f.upd.all (fun u=>wr.contains u.s&&decide (u.s<σ.length)) then
     qbP E wr ops r (qh σ f.upd) (c++f.chk) ({ rd:=(qdj E g o).log (qs σ),us:=f.upd } ::fs)
    else none
def qbA (o:Oper):List Nat:=(o.after.toList.filter (Region.binds .any)).map (·.on)
def qhz (ms:List Nat) (es:List Nat):Nat:=es.foldl (fun m j=>m|||(1 <<< j)|||ms.getD j 0) 0
def qfd (f g:qcs):Bool:=apart f.wr (g.rd++g.wr)&&apart g.wr f.rd
def qns (m:Nat) (f:qcs):Nat→List qcs→Bool
 |_,[]=>true
 |j,g::r=>(m.testBit j||qfd f g)&&qns m f (j+1) r
def qfw:List Oper→List qcs→List Nat→List qcs→Bool
 |[],[],_,_=>true
 |o::os,f::fs,ms,done=>(qbA o).all (fun j=>decide (j<ms.length))&&(qns (qhz ms (qbA o)) f 0 done&&qfw os fs (ms++[qhz ms (qbA o)]) (done++[f]))
 |_,_,_,_=>false
def qge:AV→Bool
 | .own _ _ _=>true
 | .hol _ none _ _ _ _=>true
 |_=>false
def qfX (o:Oper):Option Nat:=match o.guard,o.op with
 |none,.move (.tmp s)=>some s
 |_,_=>none
def qn4 (σ:St) (fl:List qcs) (s:Nat):Bool:=qge (qs σ s).2&&fl.all (fun f=>f.us.all (fun u=>u.s != s||(!u.bump&&qge u.a)))
def qgY:AV→Bool
 | .box _=>true
 |_=>false
def qlI (pins:List Nat) (σ:St) (fl:List qcs) (s:Nat):Bool:=pins.contains s&&(qgY (qs σ s).2&&fl.all (fun f=>f.us.all (fun u=>u.s != s||qgY u.a)))
def qgj (pins:List Nat) (σ:St) (fl:List qcs):List Oper→List qcs→List qcs
 |o::os,f::fs=>(match qfX o with
  |some s=>if (qn4 σ fl s||qlI pins σ fl s)=true then { f with rd:=[] } else f
  |none=>f)::qgj pins σ fl os fs
 |_,_=>[]
def quU:AV→AV→Bool
 | .pbox s v off,.pbox s' v' off'=>s == s'&&(v == v'&&off == off')
 | .bref s v off u,.bref s' v' off' u'=>s == s'&&(v == v'&&(off == off'&&decide (u=u')))
 |_,_=>false
def quX:AV→Option Nat
 | .pbox s _ _=>some s
 | .bref s _ _ _=>some s
 |_=>none
def qvw (lk:Nat→Ent) (s:Nat) (a:AV):Nat→Ent:=fun x=>bif x == s then ((lk s).1,a) else lk x
def qpK (f:Eff) (g:Option Eff):Bool:=match f.upd,f.chk,g with
 |[u],[],some h=>(match h.upd,h.chk with
  |[u'],[]=>u.s == u'.s&&(u.bump&&(u'.bump&&quU u.a u'.a))
  |_,_=>false)
 |_,_,_=>false
def qrb (s:Nat) (σ:St) (fl:List qcs):List AV:=(qs σ s).2::fl.flatMap fun f=>(f.us.filter fun u=>u.s == s).map (·.a)
def qko (E:Env) (σ0:St) (fl:List qcs) (lk:Nat→Ent) (o:Oper):Option (List Nat):=
 match o.guard with
 |some _=>none
 |none=>match (qdj E none o).run lk with
  |none=>none
  |some f=>match f.upd with
   |[u]=>(match quX u.a with
    |none=>none
    |some s=>if fl.all (fun f=>f.us.all (fun u=>u.s != s|| !u.bump))&&(qrb s σ0 fl).all (fun b=>qpK f ((qdj E none o).run (qvw lk s b))) then some ((qrb s σ0 fl).flatMap fun b=>((qdj E none o).log (qvw lk s b)).filter (fun x=>x != s)) else none)
   |_=>none
def qpE (E:Env) (σ0:St) (fl:List qcs):St→List Oper→List qcs→List qcs
 |σ,o::os,f::fs=>⟨(qko E σ0 fl (qs σ) o).getD f.rd,f.us⟩::qpE E σ0 fl (qh σ f.us) os fs
 |_,_,_=>[]
def qik (E:Env) (σ:St) (os:List Oper) (fl:List qcs):List qcs:=qpE E σ fl σ os (qgj E.pins σ fl os fl)
def qeu (E:Env) (wr:List Nat) (ops:Array Oper) (draw:Bool) (σ:St):Option (St×List Bool×List Nat):=
 match qbP E wr ops ops.toList σ [] [] with
 |some (σ',c,fs)=>if !draw||qfw ops.toList (qik E σ ops.toList fs.reverse) [] [] then some (σ',c,fs.flatMap (·.wr)) else none
 |none=>none
def qry (E:Env) (s:Nat) (v:Bool) (g:Option (Nat×Bool)) (o:Oper):Q Eff:=match g with
 |some (s',want)=>if s'=s then (if want=v then qdj E none o else okE (qbc o .undef)) else qdj E (some (s',want)) o
 |none=>(match o.op,o.guard with
  | .pick (.tmp c) a b,none=>if c=s then (opd E [] o.type (bif v then a else b)).bind fun x=>qn8 E.pins o false x else qdj E none o
  |_,_=>qdj E none o)
def qju (E:Env) (wr:List Nat) (ops:Array Oper) (s:Nat) (v:Bool):List Oper→St→List Bool→List Nat→Option (St×List Bool×List Nat)
 |[],σ,c,ds=>some (σ,c,ds)
 |o::r,σ,c,ds=>if o.dst=some s then none else match qbS ops o with
  |none=>none
  |some g=>match (qry E s v g o).run (qs σ) with
   |none=>none
   |some f=>if f.upd.all (fun u=>wr.contains u.s&&decide (u.s<σ.length)) then
     qju E wr ops s v r (qh σ f.upd) (c++f.chk) (ds++f.upd.map (·.s))
    else none
inductive qem where
 |val (t:Ty)
 |own (et:Nat) (e:Ty)
 |box (b:qcf)
 |mp (k v:Ty)
 |lsw (et:Nat) (e:Ty)
@[reducible] def qem.den:qem→Type
 | .val t=>t.den
 | .own _ e=>List e.den
 | .box b=>b.den
 | .mp k v=>List (k.den×v.den)
 | .lsw _ e=>List e.den
def qem.un:(s:qem)→s.den→AV
 | .val t,x=> .val t x
 | .own et e,xs=> .own et e xs
 | .box b,x=> .box (b.un x)
 | .mp k v,xs=> .mp k v xs
 | .lsw et e,xs=> .lsw et e xs none
def BC.toVal:(t:Ty)→BC→Option t.den
 |t,.val u x=>Ty.as (t:=u) t x
 | .pair a b,.pair c d=>match BC.toVal a c,BC.toVal b d with
  |some x,some y=>some (x,y)
  |_,_=>none
 |_,_=>none
def BC.toShape:(b:qcf)→BC→Option b.den
 | .val t,c=>c.toVal t
 | .own et e,.own et' e' xs=>if et=et' then Ty.as (t:= .slice e') (.slice e) xs else none
 | .pair a b,.pair c d=>match BC.toShape a c,BC.toShape b d with
  |some x,some y=>some (x,y)
  |_,_=>none
 | .hole n,.hole m=>if n=m then some () else none
 |_,_=>none
def AV.toShape:(s:qem)→AV→Option s.den
 | .val t,.val u x=>Ty.as (t:=u) t x
 | .own et e,.own et' e' xs=>if et=et' then Ty.as (t:= .slice e') (.slice e) xs else none
 | .box b,.box c=>c.toShape b
 | .mp k v,.mp k' v' xs=>if h:k'=k∧v'=v then some (h.1 ▸ h.2 ▸ xs) else none
 | .lsw et e,.lsw et' e' xs _=>if h:et'=et∧e'=e then some (h.2 ▸ xs) else none
 |_,_=>none
structure qhk where
 id:Nat
 wr:List Nat
 live:List (Nat×qem)
structure qrw where
 loops:List qhk
 lets:List (Nat×List Nat)
 frz:List (Nat×List Nat)
@[reducible] def liveDen:List (Nat×qem)→Type
 |[]=>Unit
 |p::r=>p.2.den×liveDen r
def qmr:(l:List (Nat×qem))→St→Option (liveDen l)
 |[],_=>some ()
 |p::r,σ=>match (qs σ p.1).2.toShape p.2,qmr r σ with
  |some x,some y=>some (x,y)
  |_,_=>none
def qfQ:(l:List (Nat×qem))→liveDen l→St→St
 |[],_,σ=>σ
 |p::r,x,σ=>qfQ r x.2 (σ.set p.1 ((qs σ p.1).1,p.2.un x.1))
def qdi (A:qhk) (σ:St) (p:liveDen A.live):St:=
 qfQ A.live p (A.wr.foldl (fun σ s=>σ.set s ((qs σ s).1+1,.undef)) σ)
def qo3 (σ:St) (s:Nat):Option (AV×Nat):=match (qs σ s).2 with
 | .hol a fo i o1 t v0=>(match a.rowAt fo,qs σ t with
  |some (et,⟨e,xs⟩),(v1,.own et' e' ys)=>if v1=v0∧t≠s∧e.noArr=true∧(etM et).at o1=some et'∧etM et'=[]∧(e.sub (qk xs i e.dflt) o1 (.slice e')).isSome=true then (match e.upd (qk xs i e.dflt) o1 (.slice e') ys with
   |some y=>(match a.swapRow (.own et e (qbG xs i y)) fo with
    |some a'=>some (a',t)
    |none=>none)
   |none=>none) else none
  |_,_=>none)
 | .bhl c o t v0=>(match qs σ t with
  |(v1,.own et e xs)=>if v1=v0∧t≠s then (match c.swap o (.own et e xs) with
   |some c'=>some (.box c',t)
   |none=>none) else none
  |_=>none)
 |_=>none
def qq4 (l:List Nat) (σ:St) (s:Nat):St:=match qo3 σ s with
 |some (a,t)=>(match l.contains t with
  |true=>qh σ [⟨s,false,a⟩,⟨t,true,.undef⟩]
  |false=>σ)
 |none=>σ
def quu (l:List Nat) (σ:St):St:=l.foldl (qq4 l) σ
def qhX (l:List Nat) (σ:St):St:=l.foldl (fun σ s=>qR σ ⟨s,false,(qs σ s).2.freeze⟩) σ
def qhg:Code→Option Nat
 | .region id _ _=>some id
 | .seq a b=>(qhg a).orElse fun _=>qhg b
 | .cond _ a b=>(qhg a).orElse fun _=>qhg b
 | .block _ a=>qhg a
 | .loop a=>qhg a
 |_=>none
def calm (ops:Array Oper):Bool:=ops.toList.all fun o=>match o.op with
 | .panic _=>false
 |_=>true
def qmX:Code→Bool
 | .skip=>true
 | .region _ ops _=>calm ops
 | .seq a b=>qmX a&&qmX b
 | .cond _ a b=>qmX a&&qmX b
 |_=>false
def qgq (b:Bool) (x y:AV):AV:=
 match x,y with
 | .val t x,.val u y=>match Ty.as (t:=u) t y with
  |some y=> .val t (bif b then x else y)
  |none=> .undef
 | .own et e xs,.own et' e' ys=>if et=et' then (match Ty.as (t:= .slice e') (.slice e) ys with
  |some ys=> .own et e (bif b then xs else ys)
  |none=> .undef) else .undef
 | .box c,.box d=>match joinB b c d with
  |some r=> .box r
  |none=> .undef
 | .mp k v xs,.mp k' v' ys=>if h:k'=k∧v'=v then .mp k v (bif b then xs else (h.1 ▸ h.2 ▸ ys:List (k.den×v.den))) else .undef
 | .lsw et e xs _,.lsw et' e' ys _=>if h:et'=et∧e'=e then .lsw et e (bif b then xs else (h.2 ▸ ys:List e.den)) none else .undef
 | .nilr et e,.own et' e' ys=>if et=et' then (match Ty.as (t:= .slice e') (.slice e) ys with
  |some ys=> .own et e (bif b then [] else ys)
  |none=> .undef) else .undef
 | .own et e xs,.nilr et' e'=>if et=et'∧e=e' then .own et e (bif b then xs else []) else .undef
 | .nilr et e,.nilr et' e'=>if et=et'∧e=e' then .nilr et e else .undef
 | .nz e xs,.nz e' ys=>(match Ty.as (t:= .slice e') (.slice e) ys with
  |some ys=> .nz e (bif b then xs else ys)
  |none=> .undef)
 | .nz e xs,.val (.slice e') ys=>(match Ty.as (t:= .slice e') (.slice e) ys with
  |some ys=> .val (.slice e) (bif b then xs else ys)
  |none=> .undef)
 | .val (.slice e) xs,.nz e' ys=>(match Ty.as (t:= .slice e') (.slice e) ys with
  |some ys=> .val (.slice e) (bif b then xs else ys)
  |none=> .undef)
 |_,_=> .undef
where
 joinB (b:Bool):BC→BC→Option BC
  | .val t x,.val u y=>match Ty.as (t:=u) t y with
   |some y=>some (.val t (bif b then x else y))
   |none=>none
  | .own et e xs,.own et' e' ys=>if et=et' then (match Ty.as (t:= .slice e') (.slice e) ys with
   |some ys=>some (.own et e (bif b then xs else ys))
   |none=>none) else none
  | .pair a c,.pair a' c'=>match joinB b a a',joinB b c c' with
   |some x,some y=>if a.size=a'.size then some (.pair x y) else none
   |_,_=>none
  | .hole n,.hole m=>if n=m then some (.hole n) else none
  |_,_=>none
def qks (b:Bool) (ds:List Nat) (σ σ1 σ2:St):St:=
 ds.foldl (fun τ s=>τ.set s (max (qs σ1 s).1 (qs σ2 s).1+1,qgq b (qs σ1 s).2 (qs σ2 s).2)) σ
def mism (x y:AV):Bool:=
 match x,y with
 | .own _ _ _,.val _ _=>true
 | .mp _ _ _,.val _ _=>true
 | .box c,.box d=>(qgq.joinB true c d).isNone
 |_,_=>false
def qmo (σ1 σ2:St):List Nat→List Nat
 |[]=>[]
 |s::r=>match mism (qs σ1 s).2 (qs σ2 s).2 with
  |true=>s::qmo σ1 σ2 r
  |false=>qmo σ1 σ2 r
def qrG (b:Bool) (ds:List Nat) (σ σ1 σ2:St):St:=qks b ds σ (qhX (qmo σ1 σ2 ds) σ1) (qhX (qmo σ2 σ1 ds) σ2)
def quL:AV→Bool
 | .hol _ _ _ _ _ _=>true
 | .bhl _ _ _ _=>true
 |_=>false
def qtj (σ1 σ2:St):List Nat→List Nat
 |[]=>[]
 |s::r=>match quL (qs σ1 s).2&& !quL (qs σ2 s).2 with
  |true=>s::qtj σ1 σ2 r
  |false=>qtj σ1 σ2 r
def qlT (b:Bool) (ds:List Nat) (σ σ1 σ2:St):St:=match qtj σ1 σ2 ds,qtj σ2 σ1 ds with
 |[],[]=>qrG b ds σ σ1 σ2
 |l1,l2=>qrG b ds σ (l1.foldl (qq4 ds) σ1) (l2.foldl (qq4 ds) σ2)
def AV.refit (s:qem) (a:AV):AV:=match s,a with
 | .box b,.box c=>(match c.fit b with
  |some x=> .box (b.un x)
  |none=>(AV.box c).freeze)
 |_,a=>a.freeze
def fix1 (p:Nat×qem) (σ:St):St:=match ((qs σ p.1).2.toShape p.2).isNone with
 |true=>qR σ ⟨p.1,false,(qs σ p.1).2.refit p.2⟩
 |false=>σ
def qo4 (wr:List Nat):List (Nat×qem)→St→St
 |[],σ=>σ
 |p::r,σ=>qo4 wr r (fix1 p (qq4 wr σ p.1))
def qvC:List Bool→Bool
 |[]=>true
 |[a]=>a
 |a::r=>a&&qvC r
def qk9 (b:Bool) (c d:List Bool):List Bool:=match c,d with
 |[],[]=>[]
 |c,d=>[bif b then qvC c else qvC d]
def andThen {R:Type} (c:List Bool) (r:Option R):Option R:=match c with
 |[]=>r
 |c=>bif qvC c then r else none
def qca:List (Nat×List Nat)→Option Nat→List Nat
 |_,none=>[]
 |[],_=>[]
 |(i,l)::r,some j=>match decEq i j with
  |isTrue _=>l
  |isFalse _=>qca r (some j)
def qlz (σ:St) (s:Nat):St:=match (qs σ s).2 with
 | .box (.val t x)=>qR σ ⟨s,true,.view t x 0⟩
 |_=>σ
def qkX (l:List Nat) (σ:St):St:=l.foldl qlz σ
def qhC (E:Env) (wr:List Nat) (ops:Array Oper) (i:Nat) (σ:St):Option (St×List Bool×List Nat):=
 match qbP E wr ops (ops.toList.take i) σ [] [] with
 |none=>none
 |some (σ1,c1,fs)=>match (ops[i]?).bind (qbS ops) with
  |some (some (s,_))=>(match (qs σ1 s).2 with
   | .val .bool b=>(match qju E wr ops s true (ops.toList.drop i) σ1 [] [],qju E wr ops s false (ops.toList.drop i) σ1 [] [] with
    |some (σT,cT,dT),some (σF,cF,dF)=>some (qlT b (dT++dF) σ1 σT σF,c1++qk9 b cT cF,fs.flatMap (·.wr)++(dT++dF))
    |_,_=>none)
   |_=>none)
  |_=>none
def qj7 (E:Env) (wr:List Nat) (ops:Array Oper) (s:Nat) (v:Bool):List Oper→St→List Bool→List qcs→Option (St×List Bool×List qcs)
 |[],σ,c,fs=>some (σ,c,fs)
 |o::r,σ,c,fs=>if o.dst=some s then none else match qbS ops o with
  |none=>none
  |some g=>match (qry E s v g o).run (qs σ) with
   |none=>none
   |some f=>if f.upd.all (fun u=>wr.contains u.s&&decide (u.s<σ.length)) then
     qj7 E wr ops s v r (qh σ f.upd) (c++f.chk) (⟨(qry E s v g o).log (qs σ),f.upd⟩::fs)
    else none
def qlJ (n:Nat):Nat→List Oper→Bool
 |_,[]=>true
 |k,o::r=>(qbA o).all (fun j=>decide (j<k))&&((k == 0||(qbA o).any (fun e=>decide (min k n≤e+1)))&&qlJ n (k+1) r)
def qpC (n:Nat):List qcs:=List.replicate n ⟨[],[]⟩
def qf9 (E:Env) (wr:List Nat) (ops:Array Oper) (i:Nat) (σ:St):Option (St×List Bool×List Nat):=
 match qbP E wr ops (ops.toList.take i) σ [] [] with
 |none=>none
 |some (σ1,c1,fs)=>match (ops[i]?).bind (qbS ops) with
  |some (some (s,_))=>(match (qs σ1 s).2 with
   | .val .bool b=>(match qj7 E wr ops s true (ops.toList.drop i) σ1 [] [],qj7 E wr ops s false (ops.toList.drop i) σ1 [] [] with
    |some (σT,cT,fT),some (σF,cF,fF)=>if qlJ i 0 ops.toList&&(qfw ops.toList (qpC i++fT.reverse) [] []&&qfw ops.toList (qpC i++fF.reverse) [] []) then some (qlT b (fT.flatMap (·.wr)++fF.flatMap (·.wr)) σ1 σT σF,c1++qk9 b cT cF,fs.flatMap (·.wr)++(fT.flatMap (·.wr)++fF.flatMap (·.wr))) else none
    |_,_=>none)
   |_=>none)
  |_=>none
def qj2 (E:Env) (wr:List Nat) (sp:List Nat) (ops:Array Oper) (d:Bool) (σ:St):Option (St×List Bool×List Nat):=
 match sp,d with
 |[],d=>qeu E wr ops d σ
 |i::_,false=>qhC E wr ops i σ
 |i::_,true=>qf9 E wr ops i σ
def regE (E:Env) (frz:List (Nat×List Nat)) (wr:List Nat) (id:Nat) (ops:Array Oper) (d:Bool) (σ:St):Option (St×List Bool×List Nat):=
 match qca frz (some (id+3000000000))++qca frz (some id) with
 |[]=>qj2 E wr (qca frz (some (id+4000000000))) ops d σ
 |fz=>if fz.all wr.contains&&(qca frz (some (id+2000000000))).all fz.contains then (match qj2 E wr (qca frz (some (id+4000000000))) ops d (qkX (qca frz (some (id+2000000000))) (qhX (qca frz (some id)) (quu (qca frz (some (id+3000000000))) σ))) with
  |some (σ',c,ds)=>some (σ',c,fz++ds)
  |none=>none) else none
def qqG (E:Env) (frz:List (Nat×List Nat)) (wr:List Nat):Code→St→Option (St×List Bool×List Nat)
 | .skip,σ=>some (σ,[],[])
 | .region id ops d,σ=>regE E frz wr id ops d σ
 | .seq a b,σ=>match qqG E frz wr a σ with
  |some (σ1,c1,d1)=>match qqG E frz wr b σ1 with
   |some (σ2,c2,d2)=>some (σ2,c1++c2,d1++d2)
   |none=>none
  |none=>none
 | .cond c a b,σ=>match Q.run (qs σ) ((opd E [] 0 c).bind qmh) with
  |some ⟨.bool,x,_⟩=>match qqG E frz wr a σ,qqG E frz wr b σ with
   |some (σ1,c1,d1),some (σ2,c2,d2)=>some (qlT x (d1++d2) σ σ1 σ2,qk9 x c1 c2,d1++d2)
   |_,_=>none
  |_=>none
 |_,_=>none
structure K (R:Type) where
 n:St→Option R
 e:Nat→St→Option R
 r:St→Option R
def qfJ {R:Type} :List Nat→St→(St→Option R)→Option R
 |[],σ,k=>k σ
 |s::r,σ,k=>match qs σ s with
  |(v,.val t x)=>q9 x fun y=>qfJ r (σ.set s (v,.val t y)) k
  |(v,.own et e xs)=>q9 xs fun ys=>qfJ r (σ.set s (v,.own et e ys)) k
  |(v,.box (.val t x))=>q9 x fun y=>qfJ r (σ.set s (v,.box (.val t y))) k
  |_=>qfJ r σ k
def qvl (c:Operand) (σ:St):Option (Bool×Bool):=match c with
 | .tmp t=>(match (qs σ t).2 with
  | .amb w m=>some (w,m)
  |_=>none)
 |_=>none
structure ItH where
 it:Nat
 tn:Nat
 tok:Nat
def quO:Code→Option ItH
 | .seq (.region _ ops false) _=>(match ops.toList with
  |[o1,o2]=>(match o1.guard,o1.dst,o1.op,o2.guard,o2.dst,o2.op with
   |none,some tn,.next (.tmp it) false,none,some tok,.extract (.tmp tn') 0=>if tn'=tn∧tn≠tok∧it≠tn∧it≠tok then some ⟨it,tn,tok⟩ else none
   |_,_,_,_,_,_=>none)
  |_=>none)
 |_=>none
def itS (I:ItH) (A:qhk) (σ:St) (p:liveDen A.live) (av:AV) (b:Bool):St:=
 qh (qdi { A with wr:=I.it::A.wr } σ p) [⟨I.it,true,av⟩,⟨I.tn,true,.undef⟩,⟨I.tok,true,.val .bool b⟩]
def itOk (I:ItH) (A:qhk) (wr:List Nat):Bool:=
 A.wr.all wr.contains&&A.live.all (fun p=>A.wr.contains p.1)&&qiE (A.live.map (·.1))&&(A.wr.contains I.tn&&(A.wr.contains I.tok&&(!A.wr.contains I.it&&wr.contains I.it)))
def qmA (E:Env) (N:Nat) (anns:qrw) {R:Type} :Code→List Nat→St→K R→Option R
 | .skip,_,σ,k=>k.n σ
 | .region id ops d,wr,σ,k=>qfJ (qca anns.lets (some id)) σ fun σ=>match regE E anns.frz wr id ops d σ with
  |some (σ',c,_)=>andThen c (k.n σ')
  |none=>none
 | .seq a b,wr,σ,k=>qmA E N anns a wr σ { k with n:=fun σ'=>qmA E N anns b wr σ' k }
 | .cond c a b,wr,σ,k=>qfJ (qca anns.lets ((qhg (.cond c a b)).map (· +1000000))) σ fun σ=>match qvl c σ with
  |some (w,m)=>bif m then qq7 (qmA E N anns a wr σ k) (qmA E N anns b wr σ k) else (match w with
   |true=>qmA E N anns b wr σ k
   |false=>qmA E N anns a wr σ k)
  |none=>match Q.run (qs σ) ((opd E [] 0 c).bind qmh) with
  |some ⟨.bool,x,_⟩=>
   if qmX a&&qmX b then (match qqG E anns.frz wr (.cond c a b) σ with
    |some (σ',ch,_)=>andThen ch (k.n σ')
    |none=>none)
   else bif x then qmA E N anns a wr σ k else qmA E N anns b wr σ k
  |_=>none
 | .block id a,wr,σ,k=>qmA E N anns a wr σ { k with e:=fun i σ'=>if i=id then k.n σ' else k.e i σ' }
 | .exit id,_,σ,k=>k.e id σ
 | .ret,_,σ,k=>k.r σ
 | .loop a,wr,σ,k=>match (qhg a).bind (fun id=>anns.loops.find? (fun A=>A.id == id)) with
  |some A=>(match quO a with
  |some I=>(match qs σ I.it with
   |(_,.itr kt vt rem _)=>(match a with
    | .seq _ b=>if itOk I A wr=true∧I.it<σ.length∧I.tn<σ.length∧I.tok<σ.length then (match qmr A.live (qo4 A.wr A.live σ) with
     |some p=>mapF (fun ih e rem' p=>qmA E N anns b A.wr (itS I A σ p (.itr kt vt rem' (some e)) true) { k with n:=fun σ'=>match qmr A.live (qo4 A.wr A.live σ') with
      |some q=>ih q
      |none=>none }) (fun p=>qmA E N anns b A.wr (itS I A σ p (.itr kt vt [] none) false) { k with n:=fun _=>none }) rem p
     |none=>none) else none
    |_=>none)
   |_=>none)
  |none=>if A.wr.all wr.contains&&A.live.all (fun p=>A.wr.contains p.1)&&qiE (A.live.map (·.1)) then (match qmr A.live (qo4 A.wr A.live σ) with
    |some p=>qab N (fun ih p=>qmA E N anns a A.wr (qdi A σ p) { k with n:=fun σ'=>match qmr A.live (qo4 A.wr A.live σ') with
     |some q=>ih q
     |none=>none }) p
    |none=>none) else none)
  |none=>none
 |_,_,_,_=>none
def qel (pin:List Nat) (l:List Oper):Bool:=l.all fun o=>apart o.dst.toList pin
def qia (pin:List Nat):Code→Bool
 | .region _ ops _=>qel pin ops.toList
 | .seq a b=>qia pin a&&qia pin b
 | .cond _ a b=>qia pin a&&qia pin b
 | .block _ a=>qia pin a
 | .loop a=>qia pin a
 | .skip=>true
 | .exit _=>true
 | .ret=>true
 |_=>false
def qbk:List PM→Nat→List Nat
 |[],_=>[]
 | .io _::r,k=>k::qbk r (k+1)
 | .val _::r,k=>qbk r (k+1)
 | .own _ _::r,k=>qbk r (k+1)
 | .fn _ _::r,k=>qbk r (k+1)
 | .nil _ _::r,k=>qbk r (k+1)
 | .lsw _ _::r,k=>k::qbk r (k+1)
 | .rd _::r,k=>qbk r (k+1)
 | .ior _ _::r,k=>k::qbk r (k+1)
 | .iob _::r,k=>k::qbk r (k+1)
def qcc:List PM→Nat→List Nat
 |[],_=>[]
 | .io _::r,k=>k::qcc r (k+1)
 | .val _::r,k=>qcc r (k+1)
 | .own _ _::r,k=>qcc r (k+1)
 | .fn _ _::r,k=>qcc r (k+1)
 | .nil _ _::r,k=>qcc r (k+1)
 | .lsw _ _::r,k=>qcc r (k+1)
 | .rd _::r,k=>qcc r (k+1)
 | .ior _ _::r,k=>qcc r (k+1)
 | .iob _::r,k=>k::qcc r (k+1)
def qb3:List PM→Nat→List Nat
 |[],_=>[]
 | .ior _ _::r,k=>k::qb3 r (k+1)
 | .iob _::r,k=>k::qb3 r (k+1)
 | .io _::r,k=>qb3 r (k+1)
 | .val _::r,k=>qb3 r (k+1)
 | .own _ _::r,k=>qb3 r (k+1)
 | .fn _ _::r,k=>qb3 r (k+1)
 | .nil _ _::r,k=>qb3 r (k+1)
 | .lsw _ _::r,k=>k::qb3 r (k+1)
 | .rd _::r,k=>qb3 r (k+1)
def qu5:(p:PM)→p.den→AV
 | .val t,x=> .val t x
 | .own et e,xs=> .own et e xs
 | .io t,x=> .box (.val t x)
 | .fn ps rs,φ=> .fnv ps rs φ
 | .nil et e,_=> .nilr et e
 | .rd t,x=> .view t x 0
 | .ior et e,xs=> .own et e xs
 | .iob b,x=> .box (b.un x)
 | .lsw et e,x=> .lsw et e x.1 (some x.2)
def qbF:(ps:List PM)→PMs.den ps→St
 |[],_=>[]
 |p::ps,x=>(0,qu5 p x.1)::qbF ps x.2
def qfo (fn:Func) (ps:List PM) (x:PMs.den ps):St:=qbF ps x++List.replicate (fn.ntmps - ps.length) (0,.undef)
def qkg (E:Env) (r:RM) (v:ResultVar):Q (r.den×List Nat):=
 match r,v with
 | .val u,.cell a t=> .get a fun en=>match en.2 with
  | .box c=>if E.ty t=some u∧c.size=u.size then (match c.get 0 u with
   |some (x,f)=> .ret (x,if f then [a] else [])
   |none=> .fail) else .fail
  |_=> .fail
 | .val t,.tmp s=> .get s fun en=>toVal t ⟨some s,en.1,en.2⟩
 | .own et e,.tmp s=> .get s fun en=>match en.2 with
  | .own et' e' xs=>if et=et' then (match Ty.as (t:= .slice e') (.slice e) xs with
   |some xs=> .ret (xs,[s])
   |none=> .fail) else .fail
  | .ref s' v=> .get s' fun en=>if en.1=v then (match en.2 with
   | .own et' e' xs=>if et=et' then (match Ty.as (t:= .slice e') (.slice e) xs with
    |some xs=> .ret (xs,[s'])
    |none=> .fail) else .fail
   |_=> .fail) else .fail
  |_=> .fail
 | .nz e,.tmp s=> .get s fun en=>match en.2 with
  | .nilr _ _=> .ret ([],[])
  | .nz e' xs=>(match Ty.as (t:= .slice e') (.slice e) xs with
   |some xs=> .ret (xs,[])
   |none=> .fail)
  | .val (.slice e') xs=>(match Ty.as (t:= .slice e') (.slice e) xs with
   |some xs=> .ret (xs,[])
   |none=> .fail)
  |_=> .fail
 | .agg b,.tmp s=> .get s fun en=>match en.2 with
  | .agg c=>(match c.toShape b with
   |some x=> .ret (x,[s])
   |none=> .fail)
  |_=> .fail
 | .agg b,.cell a t=> .get a fun en=>match en.2 with
  | .box c=>(match E.ty t,c.toShape b with
   |some u,some x=>if c.size=u.size∧u.agg=true then .ret (x,[a]) else .fail
   |_,_=> .fail)
  |_=> .fail
 |_,_=> .fail
def nzC:List RM→List ResultVar→Q (List Bool)
 | .nz _::rs,.tmp s::vs=> .get s fun en=>match en.2 with
  | .val (.slice _) xs=>(nzC rs vs).bind fun l=> .ret (neI (qt xs) 0::l)
  |_=>nzC rs vs
 |_::rs,_::vs=>nzC rs vs
 |_,_=> .ret []
def qij (E:Env):(rs:List RM)→List ResultVar→Q (RMs.den rs×List Nat×List Nat)
 |[],[]=> .ret ((),[],[])
 |r::rs,v::vs=>(qkg E r v).bind fun x=>(qij E rs vs).bind fun q=>match r with
  | .own _ _=> .ret ((x.1,q.1),x.2++q.2.1,q.2.2)
  | .val _=> .ret ((x.1,q.1),q.2.1,x.2++q.2.2)
  | .nz _=> .ret ((x.1,q.1),q.2.1,q.2.2)
  | .agg _=> .ret ((x.1,q.1),x.2++q.2.1,q.2.2)
 |_,_=> .fail
def qfg:(ps:List PM)→Nat→Q (PMs.ioDen ps)
 |[],_=> .ret ()
 | .io t::ps,s=> .get s fun en=>match en.2 with
  | .box c=>match (if c.size=t.size then c.get 0 t else none) with
   |some (x,_)=>(qfg ps (s+1)).bind fun r=> .ret (x,r)
   |none=> .fail
  |_=> .fail
 | .val _::ps,s=>qfg ps (s+1)
 | .own _ _::ps,s=>qfg ps (s+1)
 | .fn _ _::ps,s=>qfg ps (s+1)
 | .nil _ _::ps,s=>qfg ps (s+1)
 | .rd _::ps,s=>qfg ps (s+1)
 | .iob b::ps,s=> .get s fun en=>match en.2 with
  | .box c=>(match c.fit b with
   |some x=>(qfg ps (s+1)).bind fun r=> .ret (x,r)
   |none=> .fail)
  |_=> .fail
 | .lsw et e::ps,s=> .get s fun en=>match en.2 with
  | .lsw et' e' xs _=>if h:et'=et∧e'=e then (qfg ps (s+1)).bind fun r=> .ret (h.2 ▸ xs,r) else .fail
  |_=> .fail
 | .ior et e::ps,s=> .get s fun en=>match en.2 with
  | .own et' e' xs=>if et=et'∧etM et=[] then (match Ty.as (t:= .slice e') (.slice e) xs with
   |some x=>(qfg ps (s+1)).bind fun r=> .ret (x,r)
   |none=> .fail) else .fail
  |_=> .fail
def qoO (E:Env) (fn:Func) (ps:List PM) (rs:List RM) (σ:St):Option (RMs.den rs×PMs.ioDen ps):=
 match (qij E rs fn.results.toList).run (qs σ),(qfg ps 0).run (qs σ),(nzC rs fn.results.toList).run (qs σ) with
 |some (y,gone,ow),some z,some c=>if qiE gone&&apart ow gone&&apart (gone++ow) (qb3 ps 0)&&apart gone (qbk ps 0) then andThen c (some (y,z)) else none
 |_,_,_=>none
def kFin (E:Env) (fn:Func) (ps:List PM) (rs:List RM):K (RMs.den rs×PMs.ioDen ps):=
 { n:=qoO E fn ps rs,e:=fun _ _=>none,r:=qoO E fn ps rs }
def Env.at (E:Env) (anns:qrw) (ps:List PM) (rs:List RM):Env:=
 { E with pins:=qcc ps 0,rf:=qca anns.frz (some 1000000007),nzr:=rs.any (fun r=>match r with| .nz _=>true|_=>false),msk:=qca anns.frz (some 1000000008),tk:=qca anns.frz (some 1000000009),zero:=fun t=>(E.zero t).map (BC.remask (qca anns.frz (some 1000000008))) }
def lsOne:List PM→Bool
 |[]=>true
 |_::r=>r.all fun p=>match p with
  | .lsw _ _=>false
  |_=>true
def runF (E:Env) (N:Nat) (anns:qrw) (fn:Func) (ps:List PM) (rs:List RM) (x:PMs.den ps):Option (RMs.den rs×PMs.ioDen ps):=
 match fn.body with
 |some c=>if qia (qbk ps 0) c&&decide (ps.length≤fn.ntmps)&&lsOne ps then qmA (E.at anns ps rs) N anns c (List.range fn.ntmps) (qfo fn ps x) (kFin E fn ps rs) else none
 |none=>none
end
end Go.Vi
namespace Go.Vi
theorem qF (b off n:Nat):(⟨b,off,none⟩:Addr).add n=⟨b,off+n,none⟩:=by
 unfold Addr.add
 split
 ·subst_vars; rfl
 ·rfl
theorem qa5 (a:Addr) (i j:Nat):(a.add i).add j=a.add (i+j):=by
 unfold Addr.add
 by_cases hi:i=0 <;> by_cases hj:j=0 <;> simp [hi,hj,Nat.add_assoc]
theorem qah (a:Addr) (n:Nat):(a.add n).block=a.block:=by unfold Addr.add; split <;> rfl
def qfh (w:World) (a:Addr) (cs:List Value):Prop:=∀j u,cs[j]? =some u→w.cell? (a.add j)=some u
def qdX {α:Type} (w:World) (F:Nat→Prop) (R:α→List Value→Prop) (sz:Nat) (xs:List α) (v:Value):Prop:=
 (v= .slice none 0 0∧xs=[])∨
 ∃a cap,v= .slice (some a) xs.length cap∧xs.length≤cap∧cap≤maxLen∧
  ∀i x,xs[i]? =some x→F a.block∧a.block<w.heap.size∧∃cs,qfh w (a.add (i * sz)) cs∧R x cs
def qrR {α:Type} (w:World) (F:Nat→Prop) (R:α→List Value→Prop) (x:Option α) (v:Value):Prop:=
 (x=none∧v= .pointer none)∨∃y a cs,x=some y∧v= .pointer (some a)∧F a.block∧a.block<w.heap.size∧qfh w a cs∧R y cs
def keyV:(k:Ty)→k.den→Value
 | .int kk,n=> .int kk n
 | .bool,b=> .bool b
 | .str,s=> .string ⟨(s:List UInt8).toArray⟩
 |_,_=>undef
def Ty.key:Ty→Bool
 | .int _=>true
 | .bool=>true
 | .str=>true
 |_=>false
def Ty.keyOk:(k:Ty)→k.den→Prop
 | .int kk,n=>kk.has n
 | .str,s=>List.length (α:=UInt8) s≤maxLen
 |_,_=>True
def qov (w:World) (k:Ty) {β:Type} (R:β→Value→Prop) (xs:List (k.den×β)) (b:Nat):Prop:=
 ∃(es:Array MapEntry) (clock:Nat),w.heap[b]? =some (.map es clock)∧es.size=xs.length∧k.key=true∧(∀(i j:Nat) (e e':MapEntry),i<j→es[i]? =some e→es[j]? =some e'→e.born<e'.born)∧(∀(i:Nat) (e:MapEntry),es[i]? =some e→e.born<clock)∧((∀p∈xs,k.keyOk p.1)∧(xs.map (·.1)).Nodup)∧
  ∀(i:Nat) (e:MapEntry) (p:k.den×β),es[i]? =some e→xs[i]? =some p→e.key=keyV k p.1∧R p.2 e.val
theorem qov.keep {w w':World} {k:Ty} {β:Type} {R R':β→Value→Prop} {xs:List (k.den×β)} {b:Nat} (hb:w'.heap[b]? =w.heap[b]?) (hR:∀x v,R x v→R' x v) (h:qov w k R xs b):qov w' k R' xs b:=by
 obtain ⟨es,clock,h1,h2,h3,h4,h5,hk,h6⟩:=h
 exact ⟨es,clock,hb.trans h1,h2,h3,h4,h5,hk,fun i e p hi hp=>⟨(h6 i e p hi hp).1,hR _ _ (h6 i e p hi hp).2⟩⟩
def qmG (w:World) (k:Ty) {β:Type} (R:β→Value→Prop) (xs:List (k.den×β)) (b:Nat):Prop:=∃ys:List (k.den×β),ys.Perm xs∧qov w k R ys b
theorem qmG.keep {w w':World} {k:Ty} {β:Type} {R R':β→Value→Prop} {xs:List (k.den×β)} {b:Nat} (hb:w'.heap[b]? =w.heap[b]?) (hR:∀x v,R x v→R' x v) (h:qmG w k R xs b):qmG w' k R' xs b:=by
 obtain ⟨ys,h1,h2⟩:=h
 exact ⟨ys,h1,h2.keep hb hR⟩
def Rep (w:World) (F:Nat→Prop):(t:Ty)→t.den→List Value→Prop
 | .int k,n,cs=>cs=[.int k n]∧k.has n
 | .bool,b,cs=>cs=[.bool b]
 | .str,s,cs=>cs=[.string ⟨s.toArray⟩]∧s.length≤maxLen
 | .unit,_,cs=>cs=[]
 | .pair a b,x,cs=>∃c1 c2,cs=c1++c2∧Rep w F a x.1 c1∧Rep w F b x.2 c2
 | .slice e,xs,cs=>∃v,cs=[v]∧qdX w F (Rep w F e) e.size xs v
 | .opt e,x,cs=>∃v,cs=[v]∧qrR w F (Rep w F e) x v
 | .map k t,xs,cs=>∃v,cs=[v]∧((v= .map none∧xs=[])∨∃b,v= .map (some b)∧F b∧b<w.heap.size∧qmG w k (fun x v=>Rep w F t x v.cells.toList∧(t.agg=true→∃cs,v= .agg cs)∧(t.agg=false→∀cs,v≠ .agg cs)) xs b)
 | .err,b,cs=>∃v,cs=[v]∧((b=true∧v= .nilIface)∨(b=false∧∃t x,v= .iface t x))
 | .arr n e,xs,cs=>xs.length=n∧∃css:List (List Value),css.length=n∧cs=css.flatten∧∀(i:Nat) (x:e.den) (c:List Value),xs[i]? =some x→css[i]? =some c→Rep w F e x c
theorem qey {css:List (List Value)} {sz:Nat} (h:∀c∈css,c.length=sz):css.flatten.length=css.length * sz:=by
 induction css with
 |nil=>simp
 |cons c r ih=>
  rw [List.flatten_cons,List.length_append,h c (by simp),ih (fun c hc=>h c (by simp [hc])),List.length_cons,Nat.add_mul,Nat.one_mul,Nat.add_comm]
theorem Rep.length {w:World} {F:Nat→Prop} : {t:Ty} → {x:t.den} → {cs:List Value} →Rep w F t x cs→cs.length=t.size
 | .int _,_,_,h=>by rw [h.1]; rfl
 | .bool,_,_,h=>by rw [show _=_ from h]; rfl
 | .str,_,_,h=>by rw [h.1]; rfl
 | .unit,_,_,h=>by rw [show _=_ from h]; rfl
 | .pair a b,_,_,⟨c1,c2,hc,h1,h2⟩=>by rw [hc,List.length_append,h1.length,h2.length]; rfl
 | .slice _,_,_,⟨v,hc,_⟩=>by rw [hc]; rfl
 | .err,_,_,⟨v,hc,_⟩=>by rw [hc]; rfl
 | .opt _,_,_,⟨v,hc,_⟩=>by rw [hc]; rfl
 | .map _ _,_,_,⟨v,hc,_⟩=>by rw [hc]; rfl
 | .arr n e,xs,_,⟨hl,css,hcl,hc,hx⟩=>by
  rw [hc,qey (sz:=e.size),hcl]
  ·rfl
  ·intro c hm
   obtain ⟨i,hi,rfl⟩:=List.getElem_of_mem hm
   have hix:i<xs.length:=by omega
   exact (hx i xs[i] css[i] (List.getElem?_eq_getElem hix) (List.getElem?_eq_getElem hi)).length
theorem Rep.keep {w w':World} {F F':Nat→Prop} (hF:∀b,F b→b<w.heap.size→F' b∧b<w'.heap.size∧w'.heap[b]? =w.heap[b]?):
  {t:Ty} → {x:t.den} → {cs:List Value} →Rep w F t x cs→Rep w' F' t x cs
 | .int _,_,_,h=>h
 | .bool,_,_,h=>h
 | .str,_,_,h=>h
 | .err,_,_,h=>h
 | .unit,_,_,h=>h
 | .map k t,xs,_,⟨v,hc,h⟩=>⟨v,hc,by
   rcases h with h|⟨b,h1,h2,h3,h4⟩
   ·exact .inl h
   ·obtain ⟨g1,g2,g3⟩:=hF _ h2 h3
    exact .inr ⟨b,h1,g1,g2,h4.keep g3 fun x v h=>⟨h.1.keep hF,h.2⟩⟩⟩
 | .opt e,x,_,⟨v,hc,h⟩=>⟨v,hc,by
   rcases h with h|⟨y,a,cs,h1,h2,h3,h4,h5,h6⟩
   ·exact .inl h
   ·obtain ⟨g1,g2,g3⟩:=hF _ h3 h4
    exact .inr ⟨y,a,cs,h1,h2,g1,g2,fun j u hu=>by
     rw [←h5 j u hu]
     exact World.cell?_of_block (by rw [qah]; exact g3),h6.keep hF⟩⟩
 | .pair a b,_,_,⟨c1,c2,hc,h1,h2⟩=>⟨c1,c2,hc,h1.keep hF,h2.keep hF⟩
 | .slice e,xs,_,⟨v,hc,h⟩=>⟨v,hc,by
   rcases h with h|⟨a,cap,hv,hl,hm,hx⟩
   ·exact .inl h
   ·refine .inr ⟨a,cap,hv,hl,hm,fun i x hi=> ?_⟩
    obtain ⟨h1,h2,cs,h3,h4⟩:=hx i x hi
    obtain ⟨g1,g2,g3⟩:=hF _ h1 h2
    refine ⟨g1,g2,cs,fun j u hu=> ?_,h4.keep hF⟩
    rw [←h3 j u hu]
    exact World.cell?_of_block (by rw [qah,qah]; exact g3)⟩
 | .arr n e,xs,_,⟨hl,css,hcl,hc,hx⟩=>⟨hl,css,hcl,hc,fun i x c hi hci=>(hx i x c hi hci).keep hF⟩
theorem Rep.flat {w w':World} {F F':Nat→Prop} : {t:Ty} → {x:t.den} → {cs:List Value} →t.flat=true→Rep w F t x cs→Rep w' F' t x cs
 | .int _,_,_,_,h=>h
 | .bool,_,_,_,h=>h
 | .str,_,_,_,h=>h
 | .err,_,_,_,h=>h
 | .unit,_,_,_,h=>h
 | .pair a b,_,_,hf,⟨c1,c2,hc,h1,h2⟩=>by
  have hf:a.flat=true∧b.flat=true:=by simpa [Ty.flat] using hf
  exact ⟨c1,c2,hc,h1.flat hf.1,h2.flat hf.2⟩
 | .slice _,_,_,hf,_=>by simp [Ty.flat] at hf
 | .opt _,_,_,hf,_=>by simp [Ty.flat] at hf
 | .map _ _,_,_,hf,_=>by simp [Ty.flat] at hf
 | .arr n e,xs,_,hf,⟨hl,css,hcl,hc,hx⟩=>⟨hl,css,hcl,hc,fun i x c hi hci=>(hx i x c hi hci).flat hf⟩
theorem Ty.as_some {t u:Ty} {x:t.den} {y:u.den} (h:Ty.as u x=some y):∃e:t=u,e ▸ x=y:=by
 unfold Ty.as at h
 split at h
 ·rename_i e
  exact ⟨e,by injection h⟩
 ·cases h
theorem Rep.as {w:World} {F:Nat→Prop} {t u:Ty} {x:t.den} {y:u.den} {cs:List Value} (h:Ty.as u x=some y) (hr:Rep w F t x cs):Rep w F u y cs:=by
 obtain ⟨rfl,rfl⟩:=Ty.as_some h
 exact hr
theorem qbC {css:List (List Value)} {sz i:Nat} {c:List Value} (h:∀c∈css,c.length=sz) (hi:css[i]? =some c):
  (css.flatten.drop (i * sz)).take sz=c∧i * sz+sz≤css.flatten.length:=by
 induction css generalizing i with
 |nil=>simp at hi
 |cons d r ih=>
  have hd:d.length=sz:=h d (by simp)
  cases i with
  |zero=>
   simp at hi
   subst hi
   simp [hd]
  |succ i=>
   simp at hi
   have:=ih (fun c hc=>h c (by simp [hc])) hi
   rw [List.flatten_cons,Nat.add_mul,Nat.one_mul]
   refine ⟨?_,?_⟩
   ·rw [show i * sz+sz=d.length+i * sz from by omega,List.drop_append]
    simp only [List.drop_of_length_le (show d.length≤d.length+i * sz by omega),List.nil_append,show d.length+i * sz - d.length=i * sz by omega]
    exact this.1
   ·rw [List.length_append,hd]
    omega
theorem qco {c1 c2:List Value} {off n:Nat} (h:off+n≤c1.length):((c1++c2).drop off).take n=(c1.drop off).take n:=by
 rw [List.drop_append,List.take_append]
 simp only [List.length_drop]
 rw [show n - (c1.length - off)=0 by omega]
 simp
theorem qb8 {c1 c2:List Value} {off n:Nat} (h:c1.length≤off):((c1++c2).drop off).take n=(c2.drop (off - c1.length)).take n:=by
 rw [List.drop_append,List.drop_of_length_le h,List.nil_append]
theorem qev {α:Type} {xs:List α} {i:Int} {d x:α} (h:xs[i.toNat]? =some x):qk xs i d=x:=by simp [qhT,List.getD,h]
theorem Ty.whole_some {t u:Ty} {x:t.den} {off:Nat} {y:u.den} (h:Ty.whole u x off=some y):off=0∧Ty.as u x=some y:=by
 unfold Ty.whole at h
 split at h
 ·exact ⟨by assumption,h⟩
 ·cases h
theorem Ty.whole_self (t:Ty) (x:t.den):Ty.whole (t:=t) t x 0=some x:=by simp [Ty.whole,Ty.as]
theorem Ty.sub_self:(t:Ty)→(x:t.den)→t.sub x 0 t=some x
 | .int k,x=>Ty.whole_self (.int k) x
 | .bool,x=>Ty.whole_self .bool x
 | .str,x=>Ty.whole_self .str x
 | .unit,x=>Ty.whole_self .unit x
 | .slice e,x=>Ty.whole_self (.slice e) x
 | .err,x=>Ty.whole_self .err x
 | .opt e,x=>Ty.whole_self (.opt e) x
 | .map k v,x=>Ty.whole_self (.map k v) x
 | .pair a b,x=>by simp only [Ty.sub,Ty.whole_self]
 | .arr n e,x=>by simp only [Ty.sub,Ty.whole_self]
theorem Rep.whole {w:World} {F:Nat→Prop} {t u:Ty} {x:t.den} {off:Nat} {y:u.den} {cs:List Value} (hr:Rep w F t x cs) (h:Ty.whole u x off=some y):
  off+u.size≤cs.length∧Rep w F u y ((cs.drop off).take u.size):=by
 obtain ⟨rfl,h⟩:=Ty.whole_some h
 have hr:=Rep.as h hr
 have:=hr.length
 exact ⟨by omega,by rw [List.drop_zero,List.take_of_length_le (by omega)]; exact hr⟩
theorem qp5 {α:Type} {xs:List α} {k n:Nat} (hk:k<n) (hl:xs.length=n) (d:α):qk xs (Int.ofNat k) d=xs[k]'(by omega):=by
 have:xs[(Int.ofNat k).toNat]? =some (xs[k]'(by omega)):=by
  rw [show (Int.ofNat k).toNat=k from rfl]
  exact List.getElem?_eq_getElem (by omega)
 exact qev this
theorem qkQ {w:World} {F:Nat→Prop} {e:Ty} {xs:List e.den} {css:List (List Value)} (hl:xs.length=css.length)
  (hx:∀(i:Nat) (x:e.den) (c:List Value),xs[i]? =some x→css[i]? =some c→Rep w F e x c):∀c∈css,c.length=e.size:=by
 intro c hm
 obtain ⟨i,hi,rfl⟩:=List.getElem_of_mem hm
 exact (hx i (xs[i]'(by omega)) css[i] (List.getElem?_eq_getElem (by omega)) (List.getElem?_eq_getElem hi)).length
theorem Rep.sub {w:World} {F:Nat→Prop} : {t:Ty} → {x:t.den} → {cs:List Value} → {off:Nat} → {u:Ty} → {y:u.den} →Rep w F t x cs→t.sub x off u=some y→
  off+u.size≤cs.length∧Rep w F u y ((cs.drop off).take u.size)
 | .int _,_,_,_,_,_,h,hs=>h.whole hs
 | .bool,_,_,_,_,_,h,hs=>h.whole hs
 | .str,_,_,_,_,_,h,hs=>h.whole hs
 | .unit,_,_,_,_,_,h,hs=>h.whole hs
 | .slice e,_,_,_,_,_,h,hs=>h.whole hs
 | .err,_,_,_,_,_,h,hs=>Rep.whole (t:= .err) h hs
 | .opt e,_,_,_,_,_,h,hs=>Rep.whole (t:= .opt e) h hs
 | .map k v,_,_,_,_,_,h,hs=>Rep.whole (t:= .map k v) h hs
 | .pair a b,x,cs,off,u,y,h,hs=>by
  simp only [Ty.sub] at hs
  cases hz:Ty.whole (t:= .pair a b) u x off with
  |some z=>
   rw [hz] at hs
   injection hs with hs; subst hs
   exact Rep.whole h hz
  |none=>
   rw [hz] at hs
   obtain ⟨c1,c2,rfl,h1,h2⟩:=h
   simp only at hs
   split at hs
   ·obtain ⟨g1,g2⟩:=h1.sub hs
    exact ⟨by rw [List.length_append]; omega,by rw [qco g1]; exact g2⟩
   ·obtain ⟨g1,g2⟩:=h2.sub hs
    have hl:=h1.length
    exact ⟨by rw [List.length_append]; omega,by rw [qb8 (by omega),hl]; exact g2⟩
 | .arr n e,xs,cs,off,u,y,h,hs=>by
  simp only [Ty.sub] at hs
  cases hz:Ty.whole (t:= .arr n e) u xs off with
  |some z=>
   rw [hz] at hs
   injection hs with hs; subst hs
   exact Rep.whole h hz
  |none=>
   rw [hz] at hs
   simp only at hs
   split at hs
   ·rename_i hlt
    obtain ⟨hl,css,hcl,rfl,hx⟩:=h
    have hpos:0<e.size:=by
     rcases Nat.eq_zero_or_pos e.size with h0|h0
     ·rw [h0,Nat.mul_zero] at hlt; omega
     ·exact h0
    have hidx:off / e.size<n:=by rw [Nat.div_lt_iff_lt_mul hpos]; exact hlt
    rw [qp5 hidx hl] at hs
    have hc:css[off / e.size]? =some (css[off / e.size]'(by omega)):=List.getElem?_eq_getElem (by omega)
    have hre:=hx (off / e.size) _ _ (List.getElem?_eq_getElem (by omega)) hc
    obtain ⟨g1,g2⟩:=hre.sub hs
    have hall:=qkQ (by omega) hx
    obtain ⟨k1,k2⟩:=qbC hall hc
    have hdm:off=off / e.size * e.size+off % e.size:=by rw [Nat.mul_comm]; exact (Nat.div_add_mod off e.size).symm
    have hcl':(css[off / e.size]'(by omega)).length=e.size:=hall _ (List.getElem_mem _)
    rw [hcl'] at g1
    refine ⟨by omega,?_⟩
    have:(css.flatten.drop off).take u.size=(((css.flatten.drop (off / e.size * e.size)).take e.size).drop (off % e.size)).take u.size:=by
     rw [List.drop_take,List.drop_drop,List.take_take,←hdm,Nat.min_eq_left (by omega)]
    rw [this,k1]
    exact g2
   ·cases hs
theorem qkL {c1 c2 ds:List Value} {off n:Nat} (h:off+n≤c1.length) (hd:ds.length=n):
  (c1++c2).take off++ds++(c1++c2).drop (off+n)=(c1.take off++ds++c1.drop (off+n))++c2:=by
 rw [List.take_append_of_le_length (by omega),List.drop_append_of_le_length (by omega)]
 simp [List.append_assoc]
theorem qiY {c1 c2 ds:List Value} {off n:Nat} (h:c1.length≤off):
  (c1++c2).take off++ds++(c1++c2).drop (off+n)=c1++(c2.take (off - c1.length)++ds++c2.drop (off - c1.length+n)):=by
 rw [List.take_append,List.drop_append,List.take_of_length_le h,List.drop_of_length_le (by omega)]
 simp only [List.nil_append,List.append_assoc]
 rw [show off+n - c1.length=off - c1.length+n by omega]
theorem qsS {l ds:List Value} {q r n sz:Nat} (h:q+sz≤l.length) (hn:r+n≤sz) (hd:ds.length=n):
  l.take (q+r)++ds++l.drop (q+r+n)=l.take q++(((l.drop q).take sz).take r++ds++((l.drop q).take sz).drop (r+n))++l.drop (q+sz):=by
 have hA:(l.take q).length=q:=by rw [List.length_take]; omega
 have hB:((l.drop q).take sz).length=sz:=by rw [List.length_take,List.length_drop]; omega
 have hl:l=l.take q++((l.drop q).take sz++l.drop (q+sz)):=by
  rw [←List.drop_drop,List.take_append_drop,List.take_append_drop]
 have e1:= @qiY (l.take q) ((l.drop q).take sz++l.drop (q+sz)) ds (q+r) n (by omega)
 have e2:= @qkL ((l.drop q).take sz) (l.drop (q+sz)) ds r n (by omega) hd
 rw [←hl,hA,show q+r - q=r by omega,e2] at e1
 rw [e1]
 simp [List.append_assoc]
theorem Rep.putWhole {w:World} {F:Nat→Prop} {t u:Ty} {x:t.den} {off:Nat} {y:u.den} {z:t.den} {cs ds:List Value} (hr:Rep w F t x cs) (hy:Rep w F u y ds) (h:Ty.whole (t:=u) t y off=some z):
  off+u.size≤cs.length∧Rep w F t z (cs.take off++ds++cs.drop (off+u.size)):=by
 obtain ⟨rfl,h⟩:=Ty.whole_some h
 obtain ⟨rfl,rfl⟩:=Ty.as_some h
 have:=hr.length
 exact ⟨by omega,by rw [List.take_zero,List.nil_append,List.drop_of_length_le (by omega),List.append_nil]; exact hy⟩
theorem qlX {css:List (List Value)} {sz i:Nat} {d:List Value} (h:∀c∈css,c.length=sz) (hi:i<css.length):
  (css.set i d).flatten=css.flatten.take (i * sz)++d++css.flatten.drop (i * sz+sz):=by
 induction css generalizing i with
 |nil=>simp at hi
 |cons c r ih=>
  have hc:c.length=sz:=h c (by simp)
  cases i with
  |zero=>simp [hc]
  |succ i=>
   rw [List.set_cons_succ,List.flatten_cons,ih (fun c hc=>h c (by simp [hc])) (by simpa using hi),List.flatten_cons]
   rw [show (i+1) * sz=c.length+i * sz by rw [Nat.add_mul]; omega,List.take_append,List.drop_append]
   simp only [List.take_of_length_le (show c.length≤c.length+i * sz by omega),List.drop_of_length_le (show c.length≤c.length+i * sz+sz by omega),List.append_assoc,List.nil_append]
   rw [show c.length+i * sz - c.length=i * sz by omega,show c.length+i * sz+sz - c.length=i * sz+sz by omega]
theorem Rep.upd {w:World} {F:Nat→Prop} : {t:Ty} → {x:t.den} → {cs:List Value} → {off:Nat} → {u:Ty} → {y:u.den} → {z:t.den} → {ds:List Value} →Rep w F t x cs→Rep w F u y ds→t.upd x off u y=some z→
  off+u.size≤cs.length∧Rep w F t z (cs.take off++ds++cs.drop (off+u.size))
 | .int _,_,_,_,_,_,_,_,h,hy,hs=>h.putWhole hy hs
 | .bool,_,_,_,_,_,_,_,h,hy,hs=>h.putWhole hy hs
 | .str,_,_,_,_,_,_,_,h,hy,hs=>h.putWhole hy hs
 | .unit,_,_,_,_,_,_,_,h,hy,hs=>h.putWhole hy hs
 | .slice e,_,_,_,_,_,_,_,h,hy,hs=>h.putWhole hy hs
 | .err,_,_,_,_,_,_,_,h,hy,hs=>Rep.putWhole (t:= .err) h hy hs
 | .opt e,_,_,_,_,_,_,_,h,hy,hs=>Rep.putWhole (t:= .opt e) h hy hs
 | .map k v,_,_,_,_,_,_,_,h,hy,hs=>Rep.putWhole (t:= .map k v) h hy hs
 | .pair a b,x,cs,off,u,y,z,ds,h,hy,hs=>by
  simp only [Ty.upd] at hs
  cases hz:Ty.whole (t:=u) (.pair a b) y off with
  |some z'=>
   rw [hz] at hs
   injection hs with hs; subst hs
   exact Rep.putWhole h hy hz
  |none=>
   rw [hz] at hs
   obtain ⟨c1,c2,rfl,h1,h2⟩:=h
   simp only at hs
   have hdl:=hy.length
   split at hs
   ·split at hs
    ·rename_i z' hz'
     injection hs with hs; subst hs
     obtain ⟨g1,g2⟩:=h1.upd hy hz'
     exact ⟨by rw [List.length_append]; omega,_,c2,qkL g1 hdl,g2,h2⟩
    ·cases hs
   ·split at hs
    ·rename_i z' hz'
     injection hs with hs; subst hs
     obtain ⟨g1,g2⟩:=h2.upd hy hz'
     have hl:=h1.length
     rw [←hl] at g1 g2
     exact ⟨by rw [List.length_append]; omega,c1,_,qiY (by omega),h1,g2⟩
    ·cases hs
 | .arr n e,xs,cs,off,u,y,z,ds,h,hy,hs=>by
  simp only [Ty.upd] at hs
  cases hz:Ty.whole (t:=u) (.arr n e) y off with
  |some z'=>
   rw [hz] at hs
   injection hs with hs; subst hs
   exact Rep.putWhole h hy hz
  |none=>
   rw [hz] at hs
   simp only at hs
   split at hs
   ·rename_i hlt
    split at hs
    ·rename_i z' hz'
     injection hs with hs; subst hs
     obtain ⟨hl,css,hcl,rfl,hx⟩:=h
     have hpos:0<e.size:=by
      rcases Nat.eq_zero_or_pos e.size with h0|h0
      ·rw [h0,Nat.mul_zero] at hlt; omega
      ·exact h0
     have hidx:off / e.size<n:=by rw [Nat.div_lt_iff_lt_mul hpos]; exact hlt
     rw [qp5 hidx hl] at hz'
     have hc:css[off / e.size]? =some (css[off / e.size]'(by omega)):=List.getElem?_eq_getElem (by omega)
     have hre:=hx (off / e.size) _ _ (List.getElem?_eq_getElem (by omega)) hc
     obtain ⟨g1,g2⟩:=hre.upd hy hz'
     have hall:=qkQ (by omega) hx
     obtain ⟨k1,k2⟩:=qbC hall hc
     have hdm:off=off / e.size * e.size+off % e.size:=by rw [Nat.mul_comm]; exact (Nat.div_add_mod off e.size).symm
     have hcl':(css[off / e.size]'(by omega)).length=e.size:=hall _ (List.getElem_mem _)
     rw [hcl'] at g1
     have hdl:=hy.length
     refine ⟨by omega,by simp [qbK,hl],css.set (off / e.size) ((css[off / e.size]'(by omega)).take (off % e.size)++ds++(css[off / e.size]'(by omega)).drop (off % e.size+u.size)),by simp [hcl],?_,?_⟩
     ·rw [qlX hall (by omega)]
      have:=qsS (l:=css.flatten) (ds:=ds) (q:=off / e.size * e.size) (r:=off % e.size) (n:=u.size) (sz:=e.size) k2 (by omega) hdl
      rw [←hdm,k1] at this
      exact this
     ·intro i x' c' hi hc'
      simp only [qbK] at hi
      rw [show (Int.ofNat (off / e.size)).toNat=off / e.size from rfl] at hi
      by_cases he:off / e.size=i
      ·subst he
       rw [List.getElem?_set_self (by omega)] at hi hc'
       injection hi with hi; injection hc' with hc'
       subst hi; subst hc'
       exact g2
      ·rw [List.getElem?_set_ne he] at hi hc'
       exact hx i x' c' hi hc'
    ·cases hs
   ·cases hs
end Go.Vi
namespace Go.Vi
open Go.RowKit
def qat (w:World) (F:Nat→Prop) (t:Ty) (x:t.den) (v:Value):Prop:=
 Rep w F t x v.cells.toList∧(t.agg=true→∃cs,v= .agg cs)∧(t.agg=false→∀cs,v≠ .agg cs)
def qaq (w:World) (F:Nat→Prop) (et:Nat) (e:Ty) (xs:List e.den) (v:Value) (bs:List Nat):Prop:=
 ∃cells,w.ownsRow 0 et e.size v xs.length cells∧bs=v.ownBlock.toList∧∀(i:Nat) (x:e.den),xs[i]? =some x→Rep w F e x ((cells.drop (i * e.size)).take e.size)
def qb0 (w:World) (F:Nat→Prop) (et:Nat) (e:Ty) (xs:List e.den) (v:Value) (bs:List Nat):Prop:=etM et=[]∧qaq w F et e xs v bs
def qcK (w:World) (F:Nat→Prop):BC→List Value→List Nat→Prop
 | .val t x,cs,bs=>bs=[]∧Rep w F t x cs
 | .own et e xs,cs,bs=>∃v,cs=[v]∧qaq w F et e xs v bs
 | .pair a b,cs,bs=>∃c1 c2 b1 b2,cs=c1++c2∧bs=b1++b2∧qcK w F a c1 b1∧qcK w F b c2 b2
 | .hole n,cs,bs=>bs=[]∧cs.length=n
def qoB (hl:Int×Nat×Nat) (j:Nat):Nat×Nat:=if hl.1=(j:Int) then hl.2 else (0,0)
def qgZ (w:World) (F:Nat→Prop) (et:Nat) (e:Ty) (hl:Int×Nat×Nat) (xs:List e.den) (v:Value) (bs:List Nat):Prop:=
 ∃(cells:List Value) (bss:List (List Nat)),w.ownsRow 0 (etB et) e.size v xs.length cells∧bss.length=xs.length∧bs=v.ownBlock.toList++bss.flatten∧
  ∀(i:Nat) (x:e.den) (b:List Nat),xs[i]? =some x→bss[i]? =some b→qcK w F (bcM (etM et) (qoB hl i) e x 0) ((cells.drop (i * e.size)).take e.size) b
def qV (w:World) (F:Nat→Prop) (et:Nat) (e:Ty) (xs:List e.den) (v:Value) (bs:List Nat):Prop:=qgZ w F et e (-1,0,0) xs v bs
def qaB (w:World) (F:Nat→Prop):BC→List Value→List Nat→Prop
 | .val t x,cs,bs=>bs=[]∧Rep w F t x cs
 | .own et e xs,cs,bs=>∃v,cs=[v]∧qV w F et e xs v bs
 | .pair a b,cs,bs=>∃c1 c2 b1 b2,cs=c1++c2∧bs=b1++b2∧qaB w F a c1 b1∧qaB w F b c2 b2
 | .hole n,cs,bs=>bs=[]∧cs.length=n
def qpH (w:World) (F:Nat→Prop):qn1→Value→List Nat→Prop
 | .val t x,v,bs=>bs=[]∧qat w F t x v
 | .own et e xs,v,bs=>qV w F et e xs v bs
 | .gone,_,bs=>bs=[]
 | .nz e xs,v,bs=>bs=[]∧qat w F (.slice e) xs v∧(xs=[]→v= .slice none 0 0)
 | .agg c,v,bs=>∃cs:List Value,v= .agg cs.toArray∧qaB w F c cs bs
def qaX (w:World) (F:Nat→Prop):List qn1→List Value→List Nat→Prop
 |[],vs,bs=>vs=[]∧bs=[]
 |c::cs,vs,bs=>∃v r b1 b2,vs=v::r∧bs=b1++b2∧qpH w F c v b1∧qaX w F cs r b2
def qeK (w:World) (F:Nat→Prop):(ts:List Ty)→denL ts→List Value→Prop
 |[],_,vs=>vs=[]
 |t::ts,x,vs=>∃v r,vs=v::r∧qat w F t x.1 v∧qeK w F ts x.2 r
def qfk:List Value→Value
 |[v]=>v
 |vs=> .tuple vs.toArray
structure qbd (O:Nat→Prop) (w w':World):Prop where
 os:w'.os=w.os
 tape:w'.tape=w.tape
 output:w'.output=w.output
 size:w.heap.size≤w'.heap.size
 block:∀k,k<w.heap.size→¬O k→w'.heap[k]? =w.heap[k]?
theorem qc0 (w:World) (o:Obj) (k:Nat) (h:k<w.heap.size):(w.alloc o).heap[k]? =w.heap[k]? :=by
 show (w.heap.push o)[k]? =_
 rw [Array.getElem?_push_lt h,Array.getElem?_eq_getElem h]
theorem qbd.refl (O:Nat→Prop) (w:World):qbd O w w:=⟨rfl,rfl,rfl,Nat.le_refl _,fun _ _ _=>rfl⟩
theorem qbd.trans {O:Nat→Prop} {a b c:World} (h:qbd O a b) (k:qbd O b c):qbd O a c:=
 ⟨k.os.trans h.os,k.tape.trans h.tape,k.output.trans h.output,Nat.le_trans h.size k.size,fun i hi ho=>(k.block i (Nat.lt_of_lt_of_le hi h.size) ho).trans (h.block i hi ho)⟩
theorem qbd.mono {O O':Nat→Prop} {a b:World} (h:qbd O a b) (hO:∀k,O k→O' k):qbd O' a b:=⟨h.os,h.tape,h.output,h.size,fun k hk ho=>h.block k hk fun h'=>ho (hO k h')⟩
theorem qbd.alloc (O:Nat→Prop) (w:World) (o:Obj):qbd O w (w.alloc o):=⟨rfl,rfl,rfl,by simp,fun k hk _=>qc0 w o k hk⟩
theorem qbd.drew {O:Nat→Prop} {a b:World} (h:qbd O a b):qbd O a b.drew:=⟨h.os,h.tape,h.output,h.size,h.block⟩
theorem qbd.grown {w w':World} {row:Option Nat} (h:w.grownBy w' row):qbd (fun k=>some k=row) w w':=⟨h.os,h.tape,h.output,h.size,fun k hk ho=>h.block k hk ho⟩
def qnT (P:Program) (w:World) (F:Nat→Prop) (ps rs:List Ty) (φ:denL ps→Option (denL rs)) (v:Value):Prop:=
 ∃(f:Nat) (caps:Array Value),v= .func (.func f) #[] caps∧(∀as w',(callFunc f as).run P w'= .ok (.enter f as) w')∧
  ∀(w':World) (F':Nat→Prop) (x:denL ps) (y:denL rs) (as:List Value),
   (∀b,F b→b<w.heap.size→F' b∧b<w'.heap.size∧w'.heap[b]? =w.heap[b]?)→qeK w' F' ps x as→φ x=some y→
   Calls P f (as.toArray++caps) w' fun e w''=>∃vs,e= .returned (qfk vs)∧qeK w'' (fun b=>F' b∨w'.heap.size≤b) rs y vs∧qbd (fun _=>False) w' w''
structure Pn where
 f:Nat→Option Nat
 ls:Value
instance:CoeFun Pn (fun _=>Nat→Option Nat):=⟨Pn.f⟩
def qdR (v:Value):Value:=match v with
 | .agg cs=>(match cs[1]? with
  |some (Value.func _ _ caps)=>(match caps[0]? with
   |some h=>h
   |none=> .slice none 0 0)
  |_=> .slice none 0 0)
 |_=> .slice none 0 0
def lsC:Nat→Value→Value
 |0,v=>v
 |k+1,.agg cs=>cs.getD k undef
 |_,_=>undef
def qjd (P:Program) (w:World) (F:Nat→Prop) (et:Nat) (e:Ty) (φ:List e.den→Int→Int→Option Bool) (v:Value):Prop:=
 ∃(f:Nat) (caps:Array Value) (f2:Nat) (caps2:Array Value),v= .agg #[.func (.func f) #[] caps,.func (.func f2) #[] caps2]∧(∀as w',(callFunc f as).run P w'= .ok (.enter f as) w')∧
  ∀(w':World) (F':Nat→Prop) (xs:List e.den),
   (∀b,F b→b<w.heap.size→F' b∧b<w'.heap.size∧w'.heap[b]? =w.heap[b]?)→qb0 w' F' et e xs (qdR v) (qdR v).ownBlock.toList→(∀b∈(qdR v).ownBlock.toList,¬F' b)→
   (∀i j r,φ xs i j=some r→Calls P f (#[.int .i64 i,.int .i64 j]++caps) w' fun ev w''=>ev= .returned (.bool r)∧qbd (fun _=>False) w' w'')∧
   (∀i j,inB i (qt xs)=true→inB j (qt xs)=true→∃w'',(callFunc f2 (#[.int .i64 i,.int .i64 j]++caps2)).run P w'= .ok (.value (.tuple #[])) w''∧
    qbd (fun b=>b∈(qdR v).ownBlock.toList) w' w''∧qb0 w'' F' et e (qmg xs i j) (qdR v) (qdR v).ownBlock.toList)
theorem qjd.keep {P:Program} {w w':World} {F F':Nat→Prop} (hF:∀b,F b→b<w.heap.size→F' b∧b<w'.heap.size∧w'.heap[b]? =w.heap[b]?) {et:Nat} {e:Ty} {φ:List e.den→Int→Int→Option Bool} {v:Value}
  (h:qjd P w F et e φ v):qjd P w' F' et e φ v:=by
 obtain ⟨f,caps,f2,caps2,hv,hc,h⟩:=h
 refine ⟨f,caps,f2,caps2,hv,hc,fun w2 F2 xs hk hr hn=>h w2 F2 xs (fun b hb hs=> ?_) hr hn⟩
 obtain ⟨h1,h2,h3⟩:=hF b hb hs
 obtain ⟨g1,g2,g3⟩:=hk b h1 h2
 exact ⟨g1,g2,g3.trans h3⟩
structure Sit where
 P:Program
 ver:Nat→Nat
 tm:Nat→Value
 w:World
 F:Nat→Prop
 own:Nat→List Nat
 pn:Pn
def ptr (b off:Nat):Value:= .pointer (some ⟨b,off,none⟩)
def qcW (X:Sit) (s:Nat) (fo:Option Nat) (v:Value):Prop:=
 match fo with
 |none=>X.tm s=v
 |some o=>∃b,b∈X.own s∧X.tm s=ptr b 0∧X.w.cell? ⟨b,o,none⟩=some v
def qtG (w:World) (b off:Nat) (u:Ty) (v:Value):Prop:=
 (u.agg=true∧∃cs:List Value,v= .agg cs.toArray∧cs.length=u.size∧qfh w ⟨b,off,none⟩ cs)∨(u.agg=false∧w.cell? ⟨b,off,none⟩=some v)
def qfH (w:World) (F:Nat→Prop) (k t:Ty) (xs:List (k.den×t.den)) (v:Value) (bs:List Nat):Prop:=
 ∃b:Nat,v= .map (some b)∧bs=[b]∧qov w k (qat w F t) xs b
theorem qfH.keep {w w':World} {F F':Nat→Prop} (hF:∀b,F b→b<w.heap.size→F' b∧b<w'.heap.size∧w'.heap[b]? =w.heap[b]?) {k t:Ty} {xs:List (k.den×t.den)} {v:Value} {bs:List Nat}
  (hb:∀b∈bs,b<w.heap.size→w'.heap[b]? =w.heap[b]?) (h:qfH w F k t xs v bs):qfH w' F' k t xs v bs:=by
 obtain ⟨b,h1,h2,h3⟩:=h
 refine ⟨b,h1,h2,h3.keep ?_ fun x v h=>⟨h.1.keep hF,h.2⟩⟩
 obtain ⟨es,clock,h4,_⟩:=h3
 exact hb b (by rw [h2]; simp) (Array.getElem?_eq_some_iff.1 h4).1
def quC (w:World) (F:Nat→Prop) (k t:Ty) (e:MapEntry) (p:k.den×t.den):Prop:=e.key=keyV k p.1∧k.key=true∧k.keyOk p.1∧qat w F t p.2 e.val
def qcb (es:Array MapEntry) (seen:Array Nat):Array MapEntry:=es.filter fun e=> !seen.contains e.born
def qeq (w:World) (F:Nat→Prop) (k t:Ty) (rem:List (k.den×t.den)) (cur:Option (k.den×t.den)) (b:Nat):Prop:=
 (∃x s y,w.heap[b]? =some (.mapIter none x s y)∧rem=[]∧cur=none)∨
 ∃(bm:Nat) (es:Array MapEntry) (clock since c0:Nat) (seen:Array Nat),w.heap[b]? =some (.mapIter (some bm) since seen c0)∧F bm∧bm<w.heap.size∧w.heap[bm]? =some (.map es clock)∧(∀(i j:Nat) (e e':MapEntry),i<j→es[i]? =some e→es[j]? =some e'→e.born<e'.born)∧(∀(i:Nat) (e:MapEntry),es[i]? =some e→e.born<since)∧since≤c0∧since≤clock∧
  (∃ys:List (k.den×t.den),ys.Perm rem∧(qcb es seen).size=ys.length∧(∀(i:Nat) (e:MapEntry) (p:k.den×t.den),(qcb es seen)[i]? =some e→ys[i]? =some p→quC w F k t e p))∧
  ∀p,cur=some p→∃e,e∈es.toList∧seen.back?=some e.born∧c0=clock∧quC w F k t e p
theorem qeq.keep {w w':World} {F F':Nat→Prop} (hF:∀b,F b→b<w.heap.size→F' b∧b<w'.heap.size∧w'.heap[b]? =w.heap[b]?) {k t:Ty} {rem:List (k.den×t.den)} {cur:Option (k.den×t.den)} {b:Nat}
  (hb:w'.heap[b]? =w.heap[b]?) (h:qeq w F k t rem cur b):qeq w' F' k t rem cur b:=by
 rcases h with ⟨x,s,y,h1,h2⟩|⟨bm,es,clock,since,c0,seen,h1,h2,h3,h4,h5,h6,h7,h8,⟨ys,h9a,h9,h10⟩,h11⟩
 ·exact .inl ⟨x,s,y,hb.trans h1,h2⟩
 ·obtain ⟨g1,g2,g3⟩:=hF bm h2 h3
  refine .inr ⟨bm,es,clock,since,c0,seen,hb.trans h1,g1,g2,g3.trans h4,h5,h6,h7,h8,⟨ys,h9a,h9,fun i e p hi hp=> ?_⟩,fun p hp=> ?_⟩
  ·obtain ⟨q1,k1,k2,q2⟩:=h10 i e p hi hp
   exact ⟨q1,k1,k2,q2.1.keep hF,q2.2⟩
  ·obtain ⟨e,q1,q2,q2',q3,k1,k2,q4⟩:=h11 p hp
   exact ⟨e,q1,q2,q2',q3,k1,k2,q4.1.keep hF,q4.2⟩
def Fill (w:World) (F:Nat→Prop) (c:BC) (o:Nat) (hv:Value) (cs:List Value) (b1 b3:List Nat):Prop:=
 ∀ {w':World} {F':Nat→Prop} (n c':BC) (b2':List Nat),(∀b,F b→b<w.heap.size→F' b∧b<w'.heap.size∧w'.heap[b]? =w.heap[b]?)→
  (∀b,b∈b1∨b∈b3→b<w.heap.size→w'.heap[b]? =w.heap[b]?)→c.swap o n=some c'→qaB w' F' n [hv] b2'→qaB w' F' c' cs (b1++(b2'++b3))
def qmU (X:Sit) (a:AV) (fo:Option Nat) (i:Int) (o1 t v0:Nat) (v:Value) (bs:List Nat):Prop:=
 ∃(et:Nat) (e:Ty) (xs:List e.den) (g n cap:Nat) (b2:List Nat),a.rowAt fo=some (et,⟨e,xs⟩)∧0≤i∧i<(n:Int)∧qgZ X.w X.F et e (i,o1,o1+1) xs (.slice (some ⟨g,0,none⟩) n cap) b2∧
  (X.ver t=v0→X.w.cell? ⟨g,i.toNat * e.size+o1,none⟩=some (X.tm t))∧
  match a,fo with
  | .own _ _ _,none=>v= .slice (some ⟨g,0,none⟩) n cap∧bs=b2
  | .box c,some o=>∃(b:Nat) (cs:List Value) (te:Nat) (b1 b3:List Nat),v=ptr b 0∧X.w.heap[b]? =some (.cells cs.toArray te (0,0))∧cs[o]? =some (.slice (some ⟨g,0,none⟩) n cap)∧Fill X.w X.F c o (.slice (some ⟨g,0,none⟩) n cap) cs b1 b3∧bs=b::(b1++(b2++b3))
  |_,_=>False
def qn6 (X:Sit) (c:BC) (o t v0:Nat) (v:Value) (bs:List Nat):Prop:=
 ∃(b:Nat) (cs:List Value) (te:Nat) (b1 b3:List Nat) (hv:Value),v=ptr b 0∧X.w.heap[b]? =some (.cells cs.toArray te (0,0))∧cs[o]? =some hv∧Fill X.w X.F c o hv cs b1 b3∧bs=b::(b1++b3)∧(X.ver t=v0→X.tm t=hv)
def qau (X:Sit):AV→Value→List Nat→Prop
 | .undef,_,_=>True
 | .val t x,v,bs=>bs=[]∧qat X.w X.F t x v
 | .own et e xs,v,bs=>qV X.w X.F et e xs v bs
 | .agg c,v,bs=>∃cs:List Value,v= .agg cs.toArray∧qaB X.w X.F c cs bs
 | .box c,v,bs=>∃(b:Nat) (cs:List Value) (bs':List Nat) (te:Nat),v=ptr b 0∧X.w.heap[b]? =some (.cells cs.toArray te (0,0))∧qaB X.w X.F c cs bs'∧bs=b::bs'
 | .ref s v0,v,bs=>bs=[]∧(X.ver s=v0→X.tm s=v)
 | .bref s v0 off u,v,bs=>bs=[]∧(X.ver s=v0→∃b,b∈X.own s∧X.tm s=ptr b 0∧qtG X.w b off u v)
 | .pbox s v0 off,v,bs=>bs=[]∧(X.ver s=v0→∃b,X.tm s=ptr b 0∧v=ptr b off)
 | .pip k off,v,bs=>bs=[]∧∃b,X.pn k=some b∧v=ptr b off
 | .prow s v0 fo sz i off,v,bs=>bs=[]∧(X.ver s=v0→∃g n cap,qcW X s fo (.slice (some ⟨g,0,none⟩) n cap)∧0≤i∧i<(n:Int)∧v=ptr g (i.toNat * sz+off))
 | .osl s v0 fo sz lo hi,v,bs=>bs=[]∧(X.ver s=v0→∃ad n cap,qcW X s fo (.slice ad n cap)∧0≤lo∧lo≤hi∧hi≤(n:Int)∧v=sliced ad lo.toNat hi.toNat cap sz)
 | .view t x off,v,bs=>bs=[]∧∃(a:Addr) (cs:List Value),v= .pointer (some (a.add off))∧X.F a.block∧a.block<X.w.heap.size∧qfh X.w a cs∧Rep X.w X.F t x cs
 | .tup cs,v,bs=>∃vs:List Value,v= .tuple vs.toArray∧qaX X.w X.F cs vs bs
 | .grd s v0 want a,v,bs=>bs=[]∧(X.ver s=v0→(X.tm s= .bool want→qau X a v [])∧(X.tm s≠ .bool want→v=undef))
 | .fn f caps,v,bs=>bs=[]∧∃vs:List Value,v= .func (.func f) #[] vs.toArray∧qaX X.w X.F caps vs []
 | .fnv ps rs φ,v,bs=>bs=[]∧qnT X.P X.w X.F ps rs φ v
 | .nilr _ _,v,bs=>bs=[]∧v= .slice none 0 0
 | .nz e xs,v,bs=>bs=[]∧qat X.w X.F (.slice e) xs v∧(xs=[]→v= .slice none 0 0)
 | .mp k t xs,v,bs=>qfH X.w X.F k t xs v bs
 | .itr k t rem cur,v,bs=>∃b,v=ptr b 0∧bs=[b]∧qeq X.w X.F k t rem cur b
 | .hol a fo i o1 t v0,v,bs=>qmU X a fo i o1 t v0 v bs
 | .bhl c o t v0,v,bs=>qn6 X c o t v0 v bs
 | .lsw et e xs φ,v,bs=>v=X.pn.ls∧qb0 X.w X.F et e xs (qdR v) bs∧∀ψ,φ=some ψ→qjd X.P X.w X.F et e ψ v
 | .lsv et e k φ,v,bs=>bs=[]∧v=lsC k X.pn.ls∧qjd X.P X.w X.F et e φ X.pn.ls
 | .lsz et e k φ,v,bs=>bs=[]∧qjd X.P X.w X.F et e φ X.pn.ls∧∃(b:Nat) (cs:Array Value) (te:Nat),v=ptr b k∧X.F b∧b<X.w.heap.size∧X.w.heap[b]? =some (.cells cs te (0,0))∧X.pn.ls= .agg cs
 | .amb w m,v,bs=>bs=[]∧∃b,v= .bool b∧(b=w→m=true)
 | .parr s v0 off n e i o2,v,bs=>bs=[]∧0≤i∧i<(n:Int)∧(match v0 with
  |some v0=>X.ver s=v0→∃b,X.tm s=ptr b 0∧v=ptr b (off+i.toNat * e.size+o2)
  |none=>∃b,X.pn s=some b∧v=ptr b (off+i.toNat * e.size+o2))
def qea (T:qp3) (w:World) (F:Nat→Prop):Prop:=∀g r,T g=some r→F g∧g<w.heap.size∧∃(cs:List Value) (te:Nat) (fz:Nat×Nat),w.heap[g]? =some (.cells cs.toArray te fz)∧Rep w F r.1 r.2 cs
theorem qea.none {w:World} {F:Nat→Prop} :qea (fun _=>none) w F:=fun _ _ h=>by cases h
structure Ctx where
 P:Program
 w0:World
 O:Nat→Prop
 G:Nat→Prop
 pn:Pn
 T:qp3
 hT:qea T w0 fun b=>G b∧¬O b
class Tabbed (E:Env) (C:Ctx):Prop where
 eq:E.tabs=C.T
def Ctx.base (C:Ctx) (b:Nat):Prop:=C.G b∨C.O b∨C.w0.heap.size≤b
def Ctx.free (C:Ctx) (w:World) (own:Nat→List Nat) (b:Nat):Prop:=C.base b∧b<w.heap.size∧∀s,b∉own s
structure qX (C:Ctx) (σ:St) (tm:Array Value) (w:World) (own:Nat→List Nat):Prop where
 size:tm.size=σ.length
 kept:qbd C.O C.w0 w
 mine:∀s b,b∈own s→(C.O b∨C.w0.heap.size≤b)∧b<w.heap.size
 nodup:∀s,(own s).Nodup
 apart:∀s s' b,b∈own s→b∈own s'→s=s'
 outside:∀s,σ.length≤s→own s=[]
 rep:∀s,s<σ.length→qau { P:=C.P,ver:=fun s=>(qs σ s).1,tm:=fun s=>tm.getD s undef,w,F:=C.free w own,own,pn:=C.pn } (qs σ s).2 (tm.getD s undef) (own s)
 wf:∀s,∀m∈(qs σ s).2.mentions,m.2≤(qs σ m.1).1
theorem qea.keep {T:qp3} {w w':World} {F F':Nat→Prop} (hF:∀b,F b→b<w.heap.size→F' b∧b<w'.heap.size∧w'.heap[b]? =w.heap[b]?) (h:qea T w F):qea T w' F':=fun g r hr=>by
 obtain ⟨h1,h2,cs,te,fz,h3,h4⟩:=h g r hr
 obtain ⟨g1,g2,g3⟩:=hF g h1 h2
 exact ⟨g1,g2,cs,te,fz,by rw [g3]; exact h3,h4.keep hF⟩
theorem qru {T:qp3} {w:World} {F:Nat→Prop} (h:qea T w F) {g:Nat} {r:(t:Ty)×t.den} (hr:T g=some r):F g∧g<w.heap.size∧∃cs:List Value,qfh w ⟨g,0,none⟩ cs∧Rep w F r.1 r.2 cs:=by
 obtain ⟨h1,h2,cs,te,fz,h3,h4⟩:=h g r hr
 refine ⟨h1,h2,cs,fun j u hj=> ?_,h4⟩
 have:(⟨g,0,none⟩:Addr).add j=⟨g,j,none⟩:=by simp [Addr.add]; exact fun h=>h.symm
 rw [this]
 simp [World.cell?,h3]
 simpa using hj
theorem qX.tabs {C:Ctx} {σ:St} {tm:Array Value} {w:World} {own:Nat→List Nat} (h:qX C σ tm w own):qea C.T w (C.free w own):=
 C.hT.keep fun b hb hlt=>⟨⟨.inl hb.1,Nat.lt_of_lt_of_le hlt h.kept.size,fun s hs=>by
  rcases (h.mine s b hs).1 with ho|ho
  ·exact hb.2 ho
  ·omega⟩,Nat.lt_of_lt_of_le hlt h.kept.size,h.kept.block b hlt hb.2⟩
theorem qX.tabsE {C:Ctx} {E:Env} [tb:Tabbed E C] {σ:St} {tm:Array Value} {w:World} {own:Nat→List Nat} (h:qX C σ tm w own):qea E.tabs w (C.free w own):=by
 rw [tb.eq]; exact h.tabs
theorem qat.keep {w w':World} {F F':Nat→Prop} (hF:∀b,F b→b<w.heap.size→F' b∧b<w'.heap.size∧w'.heap[b]? =w.heap[b]?) {t:Ty} {x:t.den} {v:Value} (h:qat w F t x v):qat w' F' t x v:=
 ⟨h.1.keep hF,h.2⟩
theorem qaq.keep {w w':World} {F F':Nat→Prop} (hF:∀b,F b→b<w.heap.size→F' b∧b<w'.heap.size∧w'.heap[b]? =w.heap[b]?) {et:Nat} {e:Ty} {xs:List e.den} {v:Value} {bs:List Nat}
  (hb:∀b∈bs,b<w.heap.size→w'.heap[b]? =w.heap[b]?) (h:qaq w F et e xs v bs):qaq w' F' et e xs v bs:=by
 obtain ⟨cells,ho,hbs,hx⟩:=h
 refine ⟨cells,⟨ho.1,?_⟩,hbs,fun i x hi=>(hx i x hi).keep hF⟩
 rcases ho.2 with h|⟨g,cap,cur,rfl,h1,h2,h3⟩
 ·exact .inl h
 ·refine .inr ⟨g,cap,cur,rfl,h1,?_,h3⟩
  rw [hb g (by rw [hbs]; simp [Value.ownBlock]) (Array.getElem?_eq_some_iff.1 h2).1]
  exact h2
theorem qcK.keep {w w':World} {F F':Nat→Prop} (hF:∀b,F b→b<w.heap.size→F' b∧b<w'.heap.size∧w'.heap[b]? =w.heap[b]?): {c:BC} → {cs:List Value} → {bs:List Nat} →
  (hb:∀b∈bs,b<w.heap.size→w'.heap[b]? =w.heap[b]?)→qcK w F c cs bs→qcK w' F' c cs bs
 | .val _ _,_,_,_,h=>⟨h.1,h.2.keep hF⟩
 | .own _ _ _,_,_,hb,⟨v,h1,h2⟩=>⟨v,h1,h2.keep hF hb⟩
 | .pair _ _,_,_,hb,⟨c1,c2,b1,b2,h1,h2,h3,h4⟩=>⟨c1,c2,b1,b2,h1,h2,h3.keep hF (fun b hm=>hb b (by rw [h2]; exact List.mem_append_left _ hm)),h4.keep hF (fun b hm=>hb b (by rw [h2]; exact List.mem_append_right _ hm))⟩
 | .hole _,_,_,_,h=>h
theorem qgZ.keep {w w':World} {F F':Nat→Prop} (hF:∀b,F b→b<w.heap.size→F' b∧b<w'.heap.size∧w'.heap[b]? =w.heap[b]?) {et:Nat} {e:Ty} {hl:Int×Nat×Nat} {xs:List e.den} {v:Value} {bs:List Nat}
  (hb:∀b∈bs,b<w.heap.size→w'.heap[b]? =w.heap[b]?) (h:qgZ w F et e hl xs v bs):qgZ w' F' et e hl xs v bs:=by
 obtain ⟨cells,bss,ho,hlb,hbs,hx⟩:=h
 refine ⟨cells,bss,⟨ho.1,?_⟩,hlb,hbs,fun i x b hi hj=>(hx i x b hi hj).keep hF fun k hk=>hb k (by rw [hbs]; exact List.mem_append_right _ (List.mem_flatten.2 ⟨b,List.mem_of_getElem? hj,hk⟩))⟩
 rcases ho.2 with h|⟨g,cap,cur,rfl,h1,h2,h3⟩
 ·exact .inl h
 ·refine .inr ⟨g,cap,cur,rfl,h1,?_,h3⟩
  rw [hb g (by rw [hbs]; simp [Value.ownBlock]) (Array.getElem?_eq_some_iff.1 h2).1]
  exact h2
theorem qV.keep {w w':World} {F F':Nat→Prop} (hF:∀b,F b→b<w.heap.size→F' b∧b<w'.heap.size∧w'.heap[b]? =w.heap[b]?) {et:Nat} {e:Ty} {xs:List e.den} {v:Value} {bs:List Nat}
  (hb:∀b∈bs,b<w.heap.size→w'.heap[b]? =w.heap[b]?) (h:qV w F et e xs v bs):qV w' F' et e xs v bs:=qgZ.keep hF hb h
theorem qb0.keep {w w':World} {F F':Nat→Prop} (hF:∀b,F b→b<w.heap.size→F' b∧b<w'.heap.size∧w'.heap[b]? =w.heap[b]?) {et:Nat} {e:Ty} {xs:List e.den} {v:Value} {bs:List Nat}
  (hb:∀b∈bs,b<w.heap.size→w'.heap[b]? =w.heap[b]?) (h:qb0 w F et e xs v bs):qb0 w' F' et e xs v bs:=⟨h.1,h.2.keep hF hb⟩
theorem qgZ.nil_ (w:World) (F:Nat→Prop) (et:Nat) (e:Ty) (hl:Int×Nat×Nat):qgZ w F et e hl [] (.slice none 0 0) []:=
 ⟨[],[],World.ownsRow_nil _ _ _ _,rfl,rfl,fun i x b hi=>by cases hi⟩
theorem qV.nil_ (w:World) (F:Nat→Prop) (et:Nat) (e:Ty):qV w F et e [] (.slice none 0 0) []:=qgZ.nil_ w F et e _
theorem qbX {j:Nat} {p:Nat×Nat} :qoB (-1,p) j=(0,0):=if_neg (by intro h; have h:(-1:Int)=(j:Int):=h; omega)
theorem qe3 (off:Nat):qps (0,0) off=false:=by simp [qps]
theorem qpb (k0:Nat×Nat):(t:Ty)→(x:t.den)→(off:Nat)→bcM [] k0 t x off= .val t x
 | .pair a b,x,off=>by unfold bcM; rw [if_neg (by simp [Msk.hits])]
 | .slice e,xs,off=>rfl
 | .int _,_,_=>rfl
 | .bool,_,_=>rfl
 | .str,_,_=>rfl
 | .unit,_,_=>rfl
 | .arr _ _,_,_=>rfl
 | .err,_,_=>rfl
 | .opt _,_,_=>rfl
 | .map _ _,_,_=>rfl
theorem qrO {et:Nat} (h:etM et=[]):etB et=et:=by unfold etB; rw [h]
theorem qV.to0 {w:World} {F:Nat→Prop} {et:Nat} {e:Ty} {xs:List e.den} {v:Value} {bs:List Nat} (hm:etM et=[]) (h:qV w F et e xs v bs):qaq w F et e xs v bs:=by
 obtain ⟨cells,bss,ho,hl,hbs,hx⟩:=h
 rw [qrO hm] at ho
 rw [hm] at hx
 have hnil:∀b∈bss,b=[]:=fun b hb=>by
  obtain ⟨i,hi,rfl⟩:=List.getElem_of_mem hb
  have:=hx i (xs[i]'(by omega)) _ (List.getElem?_eq_getElem _) (List.getElem?_eq_getElem hi)
  rw [qpb] at this
  exact this.1
 have hfl:bss.flatten=[]:=List.flatten_eq_nil_iff.2 hnil
 refine ⟨cells,ho,by rw [hbs,hfl,List.append_nil],fun i x hi=> ?_⟩
 have hib:i<bss.length:=by rw [hl]; exact (List.getElem?_eq_some_iff.1 hi).1
 have:=hx i x _ hi (List.getElem?_eq_getElem hib)
 rw [qpb] at this
 exact this.2
theorem qaq.to {w:World} {F:Nat→Prop} {et:Nat} {e:Ty} {xs:List e.den} {v:Value} {bs:List Nat} (hm:etM et=[]) (h:qaq w F et e xs v bs):qV w F et e xs v bs:=by
 obtain ⟨cells,ho,hbs,hx⟩:=h
 refine ⟨cells,List.replicate xs.length [],by rw [qrO hm]; exact ho,by simp,by simp [hbs],fun i x b hi hb=> ?_⟩
 rw [hm,qpb]
 rw [List.getElem?_replicate] at hb
 split at hb
 ·injection hb with hb
  subst hb
  exact ⟨rfl,hx i x hi⟩
 ·cases hb
theorem qb0.own {w:World} {F:Nat→Prop} {et:Nat} {e:Ty} {xs:List e.den} {v:Value} {bs:List Nat} (h:qb0 w F et e xs v bs):qV w F et e xs v bs:=h.2.to h.1
theorem qb0.flat {w:World} {F F':Nat→Prop} {et:Nat} {e:Ty} {xs:List e.den} {v:Value} {bs:List Nat} (hf:e.flat=true) (h:qb0 w F et e xs v bs):qb0 w F' et e xs v bs:=by
 obtain ⟨h0,cells,k1,k2,k3⟩:=h
 exact ⟨h0,cells,k1,k2,fun i x hi=>(k3 i x hi).flat hf⟩
theorem qnz {w:World} {F F':Nat→Prop} {m:Msk} {k0:Nat×Nat} :(t:Ty)→ {x:t.den} → {off:Nat} → {cs:List Value} → {bs:List Nat} →t.flat=true→qcK w F (bcM m k0 t x off) cs bs→qcK w F' (bcM m k0 t x off) cs bs
 | .pair a b,x,off,cs,bs,hf,h=>by
  have hf':a.flat=true∧b.flat=true:=by simpa [Ty.flat] using hf
  unfold bcM at h⊢
  split at h
  ·rename_i hh
   rw [if_pos hh]
   obtain ⟨c1,c2,b1,b2,h1,h2,h3,h4⟩:=h
   exact ⟨c1,c2,b1,b2,h1,h2,qnz a hf'.1 h3,qnz b hf'.2 h4⟩
  ·rename_i hh
   rw [if_neg hh]
   exact ⟨h.1,h.2.flat hf⟩
 | .slice _,_,_,_,_,hf,_=>by simp [Ty.flat] at hf
 | .int _,_,_,_,_,hf,h=>⟨h.1,h.2.flat hf⟩
 | .bool,_,_,_,_,hf,h=>⟨h.1,Rep.flat (t:= .bool) hf h.2⟩
 | .str,_,_,_,_,hf,h=>⟨h.1,Rep.flat (t:= .str) hf h.2⟩
 | .unit,_,_,_,_,hf,h=>⟨h.1,Rep.flat (t:= .unit) hf h.2⟩
 | .arr _ _,_,_,_,_,hf,h=>⟨h.1,Rep.flat hf h.2⟩
 | .err,_,_,_,_,hf,h=>⟨h.1,Rep.flat (t:= .err) hf h.2⟩
 | .opt _,_,_,_,_,hf,_=>by simp [Ty.flat] at hf
 | .map _ _,_,_,_,_,hf,_=>by simp [Ty.flat] at hf
theorem qV.flat {w:World} {F F':Nat→Prop} {et:Nat} {e:Ty} {xs:List e.den} {v:Value} {bs:List Nat} (hf:e.flat=true) (h:qV w F et e xs v bs):qV w F' et e xs v bs:=by
 obtain ⟨cells,bss,k1,k2,k3,k4⟩:=h
 exact ⟨cells,bss,k1,k2,k3,fun i x b hi hb=>qnz e hf (k4 i x b hi hb)⟩
theorem qV.toRow {w:World} {F:Nat→Prop} {et:Nat} {e:Ty} {xs:List e.den} {v:Value} {bs:List Nat} (hm:etM et=[]) (h:qV w F et e xs v bs):qb0 w F et e xs v bs:=⟨hm,h.to0 hm⟩
theorem qaB.keep {w w':World} {F F':Nat→Prop} (hF:∀b,F b→b<w.heap.size→F' b∧b<w'.heap.size∧w'.heap[b]? =w.heap[b]?): {c:BC} → {cs:List Value} → {bs:List Nat} →
  (hb:∀b∈bs,b<w.heap.size→w'.heap[b]? =w.heap[b]?)→qaB w F c cs bs→qaB w' F' c cs bs
 | .val _ _,_,_,_,h=>⟨h.1,h.2.keep hF⟩
 | .own _ _ _,_,_,hb,⟨v,h1,h2⟩=>⟨v,h1,h2.keep hF hb⟩
 | .pair _ _,_,_,hb,⟨c1,c2,b1,b2,h1,h2,h3,h4⟩=>⟨c1,c2,b1,b2,h1,h2,h3.keep hF (fun b hm=>hb b (by rw [h2]; exact List.mem_append_left _ hm)),h4.keep hF (fun b hm=>hb b (by rw [h2]; exact List.mem_append_right _ hm))⟩
 | .hole _,_,_,_,h=>h
theorem qaX.keep {w w':World} {F F':Nat→Prop} (hF:∀b,F b→b<w.heap.size→F' b∧b<w'.heap.size∧w'.heap[b]? =w.heap[b]?): {c:List qn1} → {cs:List Value} → {bs:List Nat} →
  (hb:∀b∈bs,b<w.heap.size→w'.heap[b]? =w.heap[b]?)→qaX w F c cs bs→qaX w' F' c cs bs
 |[],_,_,_,h=>h
 |c::_,_,_,hb,⟨v,r,b1,b2,h1,h2,h3,h4⟩=>⟨v,r,b1,b2,h1,h2,(match c,h3 with
   | .val _ _,h3=>⟨h3.1,h3.2.keep hF⟩
   | .own _ _ _,h3=>qV.keep hF (fun b hm=>hb b (by rw [h2]; exact List.mem_append_left _ hm)) h3
   | .gone,h3=>h3
   | .nz _ _,h3=>⟨h3.1,h3.2.1.keep hF,h3.2.2⟩
   | .agg _,⟨cs,g1,g2⟩=>⟨cs,g1,g2.keep hF (fun b hm=>hb b (by rw [h2]; exact List.mem_append_left _ hm))⟩),qaX.keep hF (fun b hm=>hb b (by rw [h2]; exact List.mem_append_right _ hm)) h4⟩
theorem qnT.keep {P:Program} {w w':World} {F F':Nat→Prop} (hF:∀b,F b→b<w.heap.size→F' b∧b<w'.heap.size∧w'.heap[b]? =w.heap[b]?) {ps rs:List Ty} {φ:denL ps→Option (denL rs)} {v:Value}
  (h:qnT P w F ps rs φ v):qnT P w' F' ps rs φ v:=by
 obtain ⟨f,caps,hv,hc,h⟩:=h
 refine ⟨f,caps,hv,hc,fun w2 F2 x y as hk hr hy=>h w2 F2 x y as (fun b hb hs=> ?_) hr hy⟩
 obtain ⟨h1,h2,h3⟩:=hF b hb hs
 obtain ⟨g1,g2,g3⟩:=hk b h1 h2
 exact ⟨g1,g2,g3.trans h3⟩
theorem qmU.keep {X X':Sit} (hF:∀b,X.F b→b<X.w.heap.size→X'.F b∧b<X'.w.heap.size∧X'.w.heap[b]? =X.w.heap[b]?) {a:AV} {fo:Option Nat} {i:Int} {o1 t v0:Nat} {v:Value} {bs:List Nat}
  (hb:∀b∈bs,b<X.w.heap.size→X'.w.heap[b]? =X.w.heap[b]?) (hv:X'.ver t=v0→X.ver t=v0∧X'.tm t=X.tm t) (h:qmU X a fo i o1 t v0 v bs):qmU X' a fo i o1 t v0 v bs:=by
 obtain ⟨et,e,xs,g,n,cap,b2,h1,h2,h3,h4,h5,h6⟩:=h
 have hsub:∀b∈b2,b∈bs:=by
  intro b hb2
  split at h6
  ·rw [h6.2]; exact hb2
  ·obtain ⟨_,_,_,b1,b3,_,_,_,_,rfl⟩:=h6
   exact List.mem_cons_of_mem _ (List.mem_append_right _ (List.mem_append_left _ hb2))
  ·exact h6.elim
 refine ⟨et,e,xs,g,n,cap,b2,h1,h2,h3,h4.keep hF (fun b hm=>hb b (hsub b hm)),fun hver=> ?_,?_⟩
 ·obtain ⟨k1,k2⟩:=hv hver
  have h5:=h5 k1
  rw [k2,←h5]
  refine World.cell?_of_block ?_
  obtain ⟨cells,bss,ho,_,hbs,_⟩:=h4
  rcases ho.2 with ⟨q1,_⟩|⟨g',cap',cur,q1,_,q2,_⟩
  ·cases q1
  ·injection q1 with q1 _ _
   injection q1 with q1
   injection q1 with q1 _ _
   subst q1
   exact hb g (hsub g (by rw [hbs]; simp [Value.ownBlock])) (Array.getElem?_eq_some_iff.1 q2).1
 ·split at h6
  ·exact h6
  ·obtain ⟨b,cs,te,b1,b3,k1,k2,k3,k4,rfl⟩:=h6
   refine ⟨b,cs,te,b1,b3,k1,?_,k3,?_,rfl⟩
   ·rw [hb b List.mem_cons_self (Array.getElem?_eq_some_iff.1 k2).1]; exact k2
   ·intro w2 F2 n' c' b2' f1 f2 f3 f4
    refine k4 n' c' b2' (fun x hx hlt=> ?_) (fun x hx hlt=> ?_) f3 f4
    ·obtain ⟨q1,q2,q3⟩:=hF x hx hlt
     obtain ⟨r1,r2,r3⟩:=f1 x q1 q2
     exact ⟨r1,r2,r3.trans q3⟩
    ·have hmem:x∈b::(b1++(b2++b3)):=by
      rcases hx with hx|hx
      ·exact List.mem_cons_of_mem _ (List.mem_append_left _ hx)
      ·exact List.mem_cons_of_mem _ (List.mem_append_right _ (List.mem_append_right _ hx))
     have q3:=hb x hmem hlt
     have hlt':x<X'.w.heap.size:=by
      have:X.w.heap[x]? ≠none:=by rw [Array.getElem?_eq_getElem hlt]; simp
      rw [←q3] at this
      by_cases hh:x<X'.w.heap.size
      ·exact hh
      ·rw [Array.getElem?_eq_none (by omega)] at this; exact absurd rfl this
     exact (f2 x hx hlt').trans q3
  ·exact h6
theorem Fill.keep {w w':World} {F F':Nat→Prop} (hF:∀b,F b→b<w.heap.size→F' b∧b<w'.heap.size∧w'.heap[b]? =w.heap[b]?) {c:BC} {o:Nat} {hv:Value} {cs:List Value} {b1 b3:List Nat}
  (hb:∀b,b∈b1∨b∈b3→b<w.heap.size→w'.heap[b]? =w.heap[b]?) (h:Fill w F c o hv cs b1 b3):Fill w' F' c o hv cs b1 b3:=by
 intro w2 F2 n' c' b2' f1 f2 f3 f4
 refine h n' c' b2' (fun x hx hlt=> ?_) (fun x hx hlt=> ?_) f3 f4
 ·obtain ⟨q1,q2,q3⟩:=hF x hx hlt
  obtain ⟨r1,r2,r3⟩:=f1 x q1 q2
  exact ⟨r1,r2,r3.trans q3⟩
 ·have q3:=hb x hx hlt
  have hlt':x<w'.heap.size:=by
   have:w.heap[x]? ≠none:=by rw [Array.getElem?_eq_getElem hlt]; simp
   rw [←q3] at this
   by_cases hh:x<w'.heap.size
   ·exact hh
   ·rw [Array.getElem?_eq_none (by omega)] at this; exact absurd rfl this
  exact (f2 x hx hlt').trans q3
theorem qn6.keep {X X':Sit} (hF:∀b,X.F b→b<X.w.heap.size→X'.F b∧b<X'.w.heap.size∧X'.w.heap[b]? =X.w.heap[b]?) {c:BC} {o t v0:Nat} {v:Value} {bs:List Nat}
  (hb:∀b∈bs,b<X.w.heap.size→X'.w.heap[b]? =X.w.heap[b]?) (hv:X'.ver t=v0→X.ver t=v0∧X'.tm t=X.tm t) (h:qn6 X c o t v0 v bs):qn6 X' c o t v0 v bs:=by
 obtain ⟨b,cs,te,b1,b3,h0,h1,h2,h3,h4,rfl,h6⟩:=h
 refine ⟨b,cs,te,b1,b3,h0,h1,?_,h3,h4.keep hF (fun x hx=>hb x ?_),rfl,fun hver=> ?_⟩
 ·rw [hb b List.mem_cons_self (Array.getElem?_eq_some_iff.1 h2).1]; exact h2
 ·rcases hx with hx|hx
  ·exact List.mem_cons_of_mem _ (List.mem_append_left _ hx)
  ·exact List.mem_cons_of_mem _ (List.mem_append_right _ hx)
 ·obtain ⟨k1,k2⟩:=hv hver
  rw [k2]; exact h6 k1
theorem qau.keep {X X':Sit} (hP:X'.P=X.P∧X'.pn=X.pn) (hF:∀b,X.F b→b<X.w.heap.size→X'.F b∧b<X'.w.heap.size∧X'.w.heap[b]? =X.w.heap[b]?):
  {a:AV} → {v:Value} → {bs:List Nat} →(hb:∀b∈bs,b<X.w.heap.size→X'.w.heap[b]? =X.w.heap[b]?)→
  (hm:∀m∈a.mentions,X'.ver m.1=m.2→X.ver m.1=m.2∧X'.tm m.1=X.tm m.1∧(∀b,b∈X.own m.1→X.tm m.1=ptr b 0→b∈X'.own m.1∧X'.w.heap[b]? =X.w.heap[b]?))→
  qau X a v bs→qau X' a v bs
 | .undef,_,_,_,_,_=>trivial
 | .val _ _,_,_,_,_,h=>⟨h.1,h.2.keep hF⟩
 | .own _ _ _,_,_,hb,_,h=>qV.keep hF hb h
 | .agg _,_,_,hb,_,⟨cs,h1,h2⟩=>⟨cs,h1,h2.keep hF hb⟩
 | .box _,_,_,hb,_,⟨b,cs,bs',te,h1,h2,h3,h4⟩=>⟨b,cs,bs',te,h1,by
   rw [hb b (by rw [h4]; exact List.mem_cons_self) (Array.getElem?_eq_some_iff.1 h2).1]; exact h2,h3.keep hF (fun b' hm=>hb b' (by rw [h4]; exact List.mem_cons_of_mem _ hm)),h4⟩
 | .ref s v0,_,_,_,hm,h=>⟨h.1,fun hv=>by
   obtain ⟨h1,h2,_⟩:=hm (s,v0) (by simp [AV.mentions]) hv
   rw [h2]; exact h.2 h1⟩
 | .bref s v0 off u,_,_,_,hm,h=>⟨h.1,fun hv=>by
   obtain ⟨h1,h2,h3⟩:=hm (s,v0) (by simp [AV.mentions]) hv
   obtain ⟨b,hb0,h4,h5⟩:=h.2 h1
   obtain ⟨hb1,hh⟩:=h3 b hb0 h4
   refine ⟨b,hb1,by rw [h2]; exact h4,?_⟩
   rcases h5 with ⟨h5,cs,h6,h7,h8⟩|⟨h5,h6⟩
   ·exact .inl ⟨h5,cs,h6,h7,fun j x hj=>by rw [←h8 j x hj]; exact World.cell?_of_block (by rw [qah]; exact hh)⟩
   ·exact .inr ⟨h5,by rw [←h6]; exact World.cell?_of_block hh⟩⟩
 | .pbox s v0 off,_,_,_,hm,h=>⟨h.1,fun hv=>by
   obtain ⟨h1,h2,_⟩:=hm (s,v0) (by simp [AV.mentions]) hv
   obtain ⟨b,h4,h5⟩:=h.2 h1
   exact ⟨b,by rw [h2]; exact h4,h5⟩⟩
 | .prow s v0 fo sz i off,_,_,_,hm,h=>⟨h.1,fun hv=>by
   obtain ⟨h1,h2,h3⟩:=hm (s,v0) (by simp [AV.mentions]) hv
   obtain ⟨g,n,cap,h4,h5⟩:=h.2 h1
   refine ⟨g,n,cap,?_,h5⟩
   cases fo with
   |none=>exact h2.trans h4
   |some o=>
    obtain ⟨b,hb0,h6,h7⟩:=h4
    obtain ⟨hb1,hh⟩:=h3 b hb0 h6
    exact ⟨b,hb1,h2.trans h6,by rw [←h7]; exact World.cell?_of_block hh⟩⟩
 | .pip _ _,_,_,_,_,⟨h0,b,h1,h2⟩=>⟨h0,b,by rw [hP.2]; exact h1,h2⟩
 | .osl s v0 fo sz lo hi,_,_,_,hm,h=>⟨h.1,fun hv=>by
   obtain ⟨h1,h2,h3⟩:=hm (s,v0) (by simp [AV.mentions]) hv
   obtain ⟨ad,n,cap,h4,h5⟩:=h.2 h1
   refine ⟨ad,n,cap,?_,h5⟩
   cases fo with
   |none=>exact h2.trans h4
   |some o=>
    obtain ⟨b,hb0,h6,h7⟩:=h4
    obtain ⟨hb1,hh⟩:=h3 b hb0 h6
    exact ⟨b,hb1,h2.trans h6,by rw [←h7]; exact World.cell?_of_block hh⟩⟩
 | .view _ _ _,_,_,_,_,⟨h0,a,cs,h1,h2,h3,h4,h5⟩=>by
   obtain ⟨g1,g2,g3⟩:=hF _ h2 h3
   exact ⟨h0,a,cs,h1,g1,g2,fun j x hj=>by rw [←h4 j x hj]; exact World.cell?_of_block (by rw [qah]; exact g3),h5.keep hF⟩
 | .tup _,_,_,hb,_,⟨vs,h1,h2⟩=>⟨vs,h1,h2.keep hF hb⟩
 | .grd s v0 want a,v,_,_,hm,h=>⟨h.1,fun hv=>by
   obtain ⟨h1,h2,_⟩:=hm (s,v0) (by simp [AV.mentions]) hv
   obtain ⟨g1,g2⟩:=h.2 h1
   refine ⟨fun ht=> ?_,fun ht=>g2 (by rw [←h2]; exact ht)⟩
   exact qau.keep hP hF (fun b hb=>by cases hb) (fun m hmm=>hm m (by simp [AV.mentions,hmm])) (g1 (by rw [←h2]; exact ht))⟩
 | .fn _ _,_,_,_,_,⟨h0,vs,h1,h2⟩=>⟨h0,vs,h1,h2.keep hF (fun b hb=>by cases hb)⟩
 | .fnv _ _ _,_,_,_,_,h=>⟨h.1,by rw [hP.1]; exact h.2.keep hF⟩
 | .nilr _ _,_,_,_,_,h=>h
 | .nz _ _,_,_,_,_,h=>⟨h.1,h.2.1.keep hF,h.2.2⟩
 | .mp _ _ _,_,_,hb,_,h=>qfH.keep hF hb h
 | .itr _ _ _ _,_,_,hb,_,⟨b,h1,h2,h3⟩=>⟨b,h1,h2,h3.keep hF (hb b (by rw [h2]; simp) (by
   rcases h3 with ⟨x,s,y,h3,_⟩|⟨bm,es,clock,since,c0,seen,h3,_⟩
   ·exact (Array.getElem?_eq_some_iff.1 h3).1
   ·exact (Array.getElem?_eq_some_iff.1 h3).1))⟩
 | .hol _ _ _ _ t v0,_,_,hb,hm,h=>qmU.keep hF hb (fun hv=>by
   obtain ⟨h1,h2,_⟩:=hm (t,v0) (by simp [AV.mentions]) hv
   exact ⟨h1,h2⟩) h
 | .bhl _ _ t v0,_,_,hb,hm,h=>qn6.keep hF hb (fun hv=>by
   obtain ⟨h1,h2,_⟩:=hm (t,v0) (by simp [AV.mentions]) hv
   exact ⟨h1,h2⟩) h
 | .amb _ _,_,_,_,_,h=>h
 | .lsw _ _ _ _,_,_,hb,_,h=>⟨by rw [hP.2]; exact h.1,h.2.1.keep hF hb,fun ψ hψ=>by rw [hP.1]; exact (h.2.2 ψ hψ).keep hF⟩
 | .lsv _ _ _ _,_,_,_,_,h=>⟨h.1,by rw [hP.2]; exact h.2.1,by rw [hP.1,hP.2]; exact h.2.2.keep hF⟩
 | .lsz _ _ _ _,_,_,_,_,⟨h0,h1,b,cs,te,h2,h3,h4,h5,h6⟩=>by
   obtain ⟨g1,g2,g3⟩:=hF b h3 h4
   exact ⟨h0,by rw [hP.1,hP.2]; exact h1.keep hF,b,cs,te,h2,g1,g2,by rw [g3]; exact h5,by rw [hP.2]; exact h6⟩
 | .parr s (some v0) off n e i o2,_,_,_,hm,⟨h0,h1,h2,h3⟩=>⟨h0,h1,h2,fun hv=>by
   obtain ⟨g1,g2,_⟩:=hm (s,v0) (by simp [AV.mentions]) hv
   obtain ⟨b,h4,h5⟩:=h3 g1
   exact ⟨b,by rw [g2]; exact h4,h5⟩⟩
 | .parr s none off n e i o2,_,_,_,_,⟨h0,h1,h2,b,h4,h5⟩=>⟨h0,h1,h2,b,by rw [hP.2]; exact h4,h5⟩
def sit (C:Ctx) (σ:St) (tm:Array Value) (w:World) (own:Nat→List Nat):Sit:=
 { P:=C.P,ver:=fun s=>(qs σ s).1,tm:=fun s=>tm.getD s undef,w,F:=C.free w own,own,pn:=C.pn }
theorem qX.update {C:Ctx} {σ σ':St} {tm tm':Array Value} {w w':World} {own own':Nat→List Nat} (h:qX C σ tm w own) (D:Nat→Prop)
  (hlen:σ'.length=σ.length) (htm:tm'.size=tm.size)
  (hsame:∀s,¬D s→qs σ' s=qs σ s∧tm'.getD s undef=tm.getD s undef∧own' s=own s)
  (hver:∀s,D s→(qs σ s).1<(qs σ' s).1∨((qs σ' s).1=(qs σ s).1∧tm'.getD s undef=tm.getD s undef∧∀b,b∈own s→tm.getD s undef=ptr b 0→b∈own' s∧w'.heap[b]? =w.heap[b]?))
  (hk:qbd (fun b=>∃s,D s∧b∈own s) w w')
  (hD:∀s,D s→s<σ.length)
  (hown:∀s,D s→(∀b∈own' s,(w.heap.size≤b∧b<w'.heap.size)∨(∃s0,D s0∧b∈own s0))∧(own' s).Nodup)
  (hap:∀s s' b,D s→D s'→b∈own' s→b∈own' s'→s=s')
  (hrep:∀s,D s→qau (sit C σ' tm' w' own') (qs σ' s).2 (tm'.getD s undef) (own' s))
  (hwf:∀s,D s→∀m∈(qs σ' s).2.mentions,m.2≤(qs σ' m.1).1):qX C σ' tm' w' own':=by
 have hN:C.w0.heap.size≤w.heap.size:=h.kept.size
 have keptFree:∀b,C.free w own b→C.free w' own' b∧w'.heap[b]? =w.heap[b]? :=fun b hb=>by
  have hlt:b<w.heap.size:=hb.2.1
  refine ⟨⟨hb.1,Nat.lt_of_lt_of_le hlt hk.size,fun s hs=> ?_⟩,hk.block b hlt fun ⟨s,_,hs⟩=>hb.2.2 s hs⟩
  by_cases hd:D s
  ·rcases (hown s hd).1 b hs with h1|⟨s0,_,h1⟩
   ·omega
   ·exact hb.2.2 s0 h1
  ·rw [(hsame s hd).2.2] at hs
   exact hb.2.2 s hs
 refine ⟨by rw [htm,hlen]; exact h.size,?_,?_,?_,?_,?_,?_,?_⟩
 ·refine ⟨hk.os.trans h.kept.os,hk.tape.trans h.kept.tape,hk.output.trans h.kept.output,Nat.le_trans h.kept.size hk.size,fun k hlt ho=> ?_⟩
  rw [←h.kept.block k hlt ho]
  refine hk.block k (by omega) fun ⟨s,_,hs⟩=> ?_
  rcases (h.mine s k hs).1 with h1|h1
  ·exact ho h1
  ·omega
 ·intro s b hb
  by_cases hd:D s
  ·rcases (hown s hd).1 b hb with ⟨h1,h2⟩|⟨s0,_,h1⟩
   ·exact ⟨.inr (by omega),h2⟩
   ·obtain ⟨h2,h3⟩:=h.mine s0 b h1
    exact ⟨h2,Nat.lt_of_lt_of_le h3 hk.size⟩
  ·rw [(hsame s hd).2.2] at hb
   obtain ⟨h2,h3⟩:=h.mine s b hb
   exact ⟨h2,Nat.lt_of_lt_of_le h3 hk.size⟩
 ·intro s
  by_cases hd:D s
  ·exact (hown s hd).2
  ·rw [(hsame s hd).2.2]; exact h.nodup s
 ·have mixed:∀s s' b,D s→¬D s'→b∈own' s→b∈own' s'→False:=fun s s' b hd hd' hb hb'=>by
   rw [(hsame s' hd').2.2] at hb'
   rcases (hown s hd).1 b hb with ⟨h1,_⟩|⟨s0,h0,h1⟩
   ·have:=(h.mine s' b hb').2; omega
   ·exact hd' (h.apart s0 s' b h1 hb' ▸ h0)
  intro s s' b hb hb'
  by_cases hd:D s <;> by_cases hd':D s'
  ·exact hap s s' b hd hd' hb hb'
  ·exact (mixed s s' b hd hd' hb hb').elim
  ·exact (mixed s' s b hd' hd hb' hb).elim
  ·rw [(hsame s hd).2.2] at hb
   rw [(hsame s' hd').2.2] at hb'
   exact h.apart s s' b hb hb'
 ·intro s hs
  have hd:¬D s:=fun hd=>by have:=hD s hd; omega
  rw [(hsame s hd).2.2]
  exact h.outside s (by omega)
 ·intro s hs
  by_cases hd:D s
  ·exact hrep s hd
  ·obtain ⟨h1,h2,h3⟩:=hsame s hd
   have hr:=h.rep s (by omega)
   rw [h1,h2,h3]
   refine qau.keep (X:=sit C σ tm w own) (X':=sit C σ' tm' w' own') ⟨rfl,rfl⟩ ?_ ?_ ?_ hr
   ·intro b hb _
    obtain ⟨g1,g2⟩:=keptFree b hb
    exact ⟨g1,g1.2.1,g2⟩
   ·intro b hb hlt
    refine hk.block b hlt fun ⟨s0,h0,hs0⟩=>hd (h.apart s0 s b hs0 hb ▸ h0)
   ·intro m hm hv
    have hw:=h.wf s m hm
    have hv':(qs σ' m.1).1=m.2:=hv
    by_cases hdm:D m.1
    ·rcases hver m.1 hdm with h1|⟨h1,h2,h3⟩
     ·omega
     ·refine ⟨?_,h2,fun b hb hp=>h3 b hb hp⟩
      show (qs σ m.1).1=m.2
      rw [←h1]; exact hv'
    ·obtain ⟨e1,e2,e3⟩:=hsame m.1 hdm
     refine ⟨?_,e2,fun b hb _=>⟨?_,?_⟩⟩
     ·show (qs σ m.1).1=m.2
      rw [←e1]; exact hv'
     ·show b∈own' m.1
      rw [e3]; exact hb
     ·exact hk.block b (h.mine _ b hb).2 fun ⟨s0,h0,hs0⟩=>hdm (h.apart s0 m.1 b hs0 hb ▸ h0)
 ·intro s m hm
  by_cases hd:D s
  ·exact hwf s hd m hm
  ·rw [(hsame s hd).1] at hm
   have:=h.wf s m hm
   by_cases hdm:D m.1
   ·rcases hver m.1 hdm with h1|⟨h1,_,_⟩ <;> omega
   ·rw [(hsame m.1 hdm).1]; exact this
end Go.Vi
namespace Go.Vi
section
variable {α β:Type} {lk:Nat→Ent}
theorem Q.run_get (s:Nat) (k:Ent→Q α):(Q.get s k).run lk=(k (lk s)).run lk:=rfl
theorem Q.run_bind (q:Q α) (f:α→Q β):(q.bind f).run lk=(q.run lk).bind fun a=>(f a).run lk:=by
 induction q with
 |ret a=>rfl
 |fail=>rfl
 |get s k ih=>exact ih (lk s)
theorem Q.bind_some {q:Q α} {f:α→Q β} {r:β} (h:(q.bind f).run lk=some r):∃a,q.run lk=some a∧(f a).run lk=some r:=by
 rw [Q.run_bind] at h
 exact Option.bind_eq_some_iff.1 h
theorem Q.ret_some {a r:α} (h:(Q.ret a).run lk=some r):a=r:=by injection h
end
theorem qat.mono {w:World} {F F':Nat→Prop} (hF:∀b,F b→b<w.heap.size→F' b) {t:Ty} {x:t.den} {v:Value} (h:qat w F t x v):qat w F' t x v:=
 h.keep fun b hb hs=>⟨hF b hb hs,hs,rfl⟩
theorem cells_one {v:Value} (h:∀cs,v≠ .agg cs):v.cells= #[v]:=by
 cases v <;> first|rfl|exact absurd rfl (h _)
theorem qat.int {w:World} {F:Nat→Prop} {k:IntKind} {n:Int} {v:Value} (h:qat w F (.int k) n v):v= .int k n∧k.has n:=by
 have h2:=cells_one (h.2.2 rfl)
 have h1:=h.1
 rw [h2] at h1
 exact ⟨by simpa using h1.1,h1.2⟩
theorem qat.bool {w:World} {F:Nat→Prop} {b:Bool} {v:Value} (h:qat w F .bool b v):v= .bool b:=by
 have h2:=cells_one (h.2.2 rfl)
 have h1:=h.1
 rw [h2] at h1
 simpa [Rep] using h1
theorem qat.str {w:World} {F:Nat→Prop} {s:List UInt8} {v:Value} (h:qat w F .str s v):v= .string ⟨s.toArray⟩∧s.length≤maxLen:=by
 have h2:=cells_one (h.2.2 rfl)
 have h1:=h.1
 rw [h2] at h1
 exact ⟨by simpa using h1.1,h1.2⟩
theorem qat.err {w:World} {F:Nat→Prop} {b:Bool} {v:Value} (h:qat w F .err b v):(b=true∧v= .nilIface)∨(b=false∧∃t x,v= .iface t x):=by
 have h2:=cells_one (h.2.2 rfl)
 obtain ⟨u,h1,h3⟩:=h.1
 rw [h2] at h1
 simp at h1
 subst h1
 exact h3
theorem qat.ofErr {w:World} {F:Nat→Prop} {b:Bool} {v:Value} (h:(b=true∧v= .nilIface)∨(b=false∧∃t x,v= .iface t x)):qat w F .err b v:=by
 have hv:∀cs,v≠ .agg cs:=by
  intro cs he
  rcases h with ⟨_,h⟩|⟨_,t,x,h⟩ <;> rw [he] at h <;> cases h
 exact ⟨⟨v,(by rw [cells_one hv]),h⟩,(fun h=>by simp [Ty.agg] at h),fun _=>hv⟩
theorem qat.opt {w:World} {F:Nat→Prop} {e:Ty} {x:Option e.den} {v:Value} (h:qat w F (.opt e) x v):qrR w F (Rep w F e) x v:=by
 have h2:=cells_one (h.2.2 rfl)
 obtain ⟨u,h1,h3⟩:=h.1
 rw [h2] at h1
 simp at h1
 subst h1
 exact h3
theorem qat.ofOpt {w:World} {F:Nat→Prop} {e:Ty} {x:Option e.den} {v:Value} (h:qrR w F (Rep w F e) x v):qat w F (.opt e) x v:=by
 have hv:∀cs,v≠ .agg cs:=by
  intro cs he
  rcases h with ⟨_,h⟩|⟨_,_,_,_,h,_⟩ <;> rw [he] at h <;> cases h
 exact ⟨⟨v,(by rw [cells_one hv]),h⟩,(fun h=>by simp [Ty.agg] at h),fun _=>hv⟩
theorem qat.slice {w:World} {F:Nat→Prop} {e:Ty} {xs:List e.den} {v:Value} (h:qat w F (.slice e) xs v):qdX w F (Rep w F e) e.size xs v:=by
 have h2:=cells_one (h.2.2 rfl)
 have h1:=h.1
 rw [h2] at h1
 obtain ⟨v',hv,hs⟩:=h1
 simp at hv
 subst hv
 exact hs
theorem qat.ofInt (w:World) (F:Nat→Prop) {k:IntKind} {n:Int} (h:k.has n):qat w F (.int k) n (.int k n):=⟨⟨rfl,h⟩,(fun h=>by cases h),(fun _ cs h=>by cases h)⟩
theorem qat.ofBool (w:World) (F:Nat→Prop) (b:Bool):qat w F .bool b (.bool b):=⟨rfl,(fun h=>by cases h),(fun _ cs h=>by cases h)⟩
theorem qat.ofStr (w:World) (F:Nat→Prop) {s:List UInt8} (h:s.length≤maxLen):qat w F .str s (.string ⟨s.toArray⟩):=⟨⟨rfl,h⟩,(fun h=>by cases h),(fun _ cs h=>by cases h)⟩
theorem qat.ofSlice {w:World} {F:Nat→Prop} {e:Ty} {xs:List e.den} {v:Value} (h:qdX w F (Rep w F e) e.size xs v):qat w F (.slice e) xs v:=by
 have hv:∀cs,v≠ .agg cs:=by
  intro cs he
  rcases h with ⟨h,_⟩|⟨a,cap,h,_⟩ <;> rw [he] at h <;> cases h
 exact ⟨⟨v,(by rw [cells_one hv]),h⟩,(fun h=>by simp [Ty.agg] at h),fun _=>hv⟩
def mkV (t:Ty) (cs:List Value):Value:=if t.agg then .agg cs.toArray else cs.headD undef
theorem qat.ofMap {w:World} {F:Nat→Prop} {k t:Ty} {xs:List (k.den×t.den)} {v:Value} (h:(v= .map none∧xs=[])∨∃b,v= .map (some b)∧F b∧b<w.heap.size∧qmG w k (qat w F t) xs b):qat w F (.map k t) xs v:=by
 have hv:∃o,v= .map o:=by
  rcases h with ⟨rfl,_⟩|⟨b,rfl,_⟩
  ·exact ⟨_,rfl⟩
  ·exact ⟨_,rfl⟩
 obtain ⟨o,rfl⟩:=hv
 exact ⟨⟨_,rfl,h⟩,(fun h=>by cases h),(fun _ cs h=>by cases h)⟩
theorem qfH.rep {w:World} {F:Nat→Prop} {k t:Ty} {xs:List (k.den×t.den)} {v:Value} {bs:List Nat} (h:qfH w F k t xs v bs):qat w (fun b=>F b∨b∈bs) (.map k t) (qq9 xs) v:=by
 obtain ⟨b,h1,h2,h3⟩:=h
 have hb:b<w.heap.size:=by
  obtain ⟨es,clock,h4,_⟩:=h3
  exact (Array.getElem?_eq_some_iff.1 h4).1
 refine qat.ofMap (.inr ⟨b,h1,.inr (by rw [h2]; simp),hb,xs,(qoA xs).symm,h3.keep rfl fun x v hx=>hx.mono fun b hb _=> .inl hb⟩)
theorem qat.ofCells {w:World} {F:Nat→Prop} {t:Ty} {x:t.den} {cs:List Value} (h:Rep w F t x cs):qat w F t x (mkV t cs):=by
 cases t with
 |int k=>obtain ⟨rfl,h⟩:=h; exact .ofInt w F h
 |bool=>have h:cs=_:=h; subst h; exact .ofBool w F _
 |str=>obtain ⟨rfl,h⟩:=h; exact .ofStr w F h
 |slice e=>obtain ⟨v,rfl,h⟩:=h; exact .ofSlice h
 |err=>obtain ⟨v,rfl,h⟩:=h; exact .ofErr h
 |opt e=>obtain ⟨v,rfl,h⟩:=h; exact .ofOpt h
 |map k v=>obtain ⟨u,rfl,h⟩:=h; exact qat.ofMap h
 |unit=>exact ⟨(by simpa [mkV,Ty.agg,Value.cells] using h),(fun _=>⟨_,rfl⟩),(fun h=>by simp [Ty.agg] at h)⟩
 |pair a b=>exact ⟨(by simpa [mkV,Ty.agg,Value.cells] using h),(fun _=>⟨_,rfl⟩),(fun h=>by simp [Ty.agg] at h)⟩
 |arr n e=>exact ⟨(by simpa [mkV,Ty.agg,Value.cells] using h),(fun _=>⟨_,rfl⟩),(fun h=>by simp [Ty.agg] at h)⟩
theorem qat.as {w:World} {F:Nat→Prop} {t u:Ty} {x:t.den} {y:u.den} {v:Value} (h:Ty.as u x=some y) (hr:qat w F t x v):qat w F u y v:=by
 obtain ⟨rfl,rfl⟩:=Ty.as_some h
 exact hr
theorem qaq.rep {w:World} {F:Nat→Prop} {et:Nat} {e:Ty} {xs:List e.den} {v:Value} {bs:List Nat} (h:qaq w F et e xs v bs):qat w (fun b=>F b∨b∈bs) (.slice e) xs v:=by
 obtain ⟨cells,ho,hbs,hx⟩:=h
 refine .ofSlice ?_
 rcases ho.2 with ⟨h1,h2⟩|⟨g,cap,cur,hv,_,hg,hnc,hcm,hcs,htake⟩
 ·exact .inl ⟨h1,List.eq_nil_of_length_eq_zero h2⟩
 ·refine .inr ⟨⟨g,0,none⟩,cap,hv,hnc,hcm,fun i x hi=>⟨.inr (by rw [hbs,hv]; simp [Value.ownBlock]),(Array.getElem?_eq_some_iff.1 hg).1,_,?_,(hx i x hi).keep fun b hb hs=>⟨.inl hb,hs,rfl⟩⟩⟩
  intro j u hu
  have hc:=ho.cells (g:=g) (by rw [hv]; rfl)
  rw [qa5]
  refine hc _ _ ?_
  rw [List.getElem?_take] at hu
  split at hu
  ·rwa [List.getElem?_drop] at hu
  ·cases hu
theorem qpo {w:World} {F:Nat→Prop} {m:Msk} :(t:Ty)→ {x:t.den} → {off:Nat} → {cs:List Value} → {bs:List Nat} →qcK w F (bcM m (0,0) t x off) cs bs→Rep w (fun b=>F b∨b∈bs) t x cs
 | .pair a b,x,off,cs,bs,h=>by
  unfold bcM at h
  split at h
  ·obtain ⟨c1,c2,b1,b2,h1,h2,h3,h4⟩:=h
   subst h2
   exact ⟨c1,c2,h1,(qpo a h3).keep fun k hk hs=>⟨hk.imp id fun h=>List.mem_append_left _ h,hs,rfl⟩,(qpo b h4).keep fun k hk hs=>⟨hk.imp id fun h=>List.mem_append_right _ h,hs,rfl⟩⟩
  ·exact h.2.keep fun k hk hs=>⟨.inl hk,hs,rfl⟩
 | .slice e,xs,off,cs,bs,h=>by
  unfold bcM at h
  rw [qe3] at h
  split at h
  ·simp only [Bool.false_eq_true,if_false] at h
   obtain ⟨v,h1,h2⟩:=h
   subst h1
   have:=h2.rep.1
   rw [cells_one (h2.rep.2.2 rfl)] at this
   exact this
  ·exact h.2.keep fun k hk hs=>⟨.inl hk,hs,rfl⟩
 | .int _,_,_,_,_,h=>h.2
 | .bool,_,_,_,_,h=>h.2
 | .str,_,_,_,_,h=>h.2
 | .unit,_,_,_,_,h=>h.2
 | .arr _ _,_,_,_,_,h=>h.2.keep fun k hk hs=>⟨.inl hk,hs,rfl⟩
 | .err,_,_,_,_,h=>h.2
 | .opt _,_,_,_,_,h=>h.2.keep fun k hk hs=>⟨.inl hk,hs,rfl⟩
 | .map _ _,_,_,_,_,h=>h.2.keep fun k hk hs=>⟨.inl hk,hs,rfl⟩
theorem qV.over {w:World} {F:Nat→Prop} {et:Nat} {e:Ty} {xs:List e.den} {v:Value} {bs:List Nat} (h:qV w F et e xs v bs):
  ∃bi,bs=v.ownBlock.toList++bi∧qaq w (fun b=>F b∨b∈bi) (etB et) e xs v v.ownBlock.toList:=by
 obtain ⟨cells,bss,ho,hlb,hbs,hx⟩:=h
 refine ⟨bss.flatten,hbs,cells,ho,rfl,fun i x hi=> ?_⟩
 have hlt:i<bss.length:=by rw [hlb]; exact (List.getElem?_eq_some_iff.1 hi).1
 have:=hx i x _ hi (List.getElem?_eq_getElem hlt)
 rw [qbX] at this
 exact (qpo e this).keep fun b hb hs=>⟨hb.imp id fun h=>List.mem_flatten.2 ⟨_,List.getElem_mem hlt,h⟩,hs,rfl⟩
theorem qV.rep {w:World} {F:Nat→Prop} {et:Nat} {e:Ty} {xs:List e.den} {v:Value} {bs:List Nat} (h:qV w F et e xs v bs):qat w (fun b=>F b∨b∈bs) (.slice e) xs v:=by
 obtain ⟨bi,h1,h2⟩:=h.over
 refine h2.rep.mono fun b hb _=> ?_
 rw [h1]
 rcases hb with (hb|hb)|hb
 ·exact .inl hb
 ·exact .inr (List.mem_append_right _ hb)
 ·exact .inr (List.mem_append_left _ hb)
theorem qgZ.hdr {w:World} {F:Nat→Prop} {et:Nat} {e:Ty} {hl:Int×Nat×Nat} {xs:List e.den} {v:Value} {bs:List Nat} (h:qgZ w F et e hl xs v bs):∃cells,w.ownsRow 0 (etB et) e.size v xs.length cells:=by
 obtain ⟨cells,bss,ho,_⟩:=h
 exact ⟨cells,ho⟩
theorem qV.hdr {w:World} {F:Nat→Prop} {et:Nat} {e:Ty} {xs:List e.den} {v:Value} {bs:List Nat} (h:qV w F et e xs v bs):∃cells,w.ownsRow 0 (etB et) e.size v xs.length cells:=qgZ.hdr h
theorem qtG.rep {w:World} {F:Nat→Prop} {b off:Nat} {u:Ty} {y:u.den} {v:Value} {cs:List Value} (hc:∀j x,cs[j]? =some x→w.cell? ⟨b,j,none⟩=some x)
  (hl:off+u.size≤cs.length) (h:qtG w b off u v) (hr:Rep w F u y ((cs.drop off).take u.size)):qat w F u y v:=by
 have key:v=mkV u ((cs.drop off).take u.size):=by
  rcases h with ⟨h1,cs',rfl,h2,h3⟩|⟨h1,h2⟩
  ·have:cs'=(cs.drop off).take u.size:=by
    apply List.ext_getElem (by rw [h2,List.length_take,List.length_drop]; omega)
    intro j hj hj'
    have e1:=h3 j _ (List.getElem?_eq_getElem hj)
    rw [qF] at e1
    have e2:=hc (off+j) (cs[off+j]'(by rw [h2] at hj; omega)) (List.getElem?_eq_getElem _)
    rw [e1] at e2
    injection e2 with e2
    rw [e2,List.getElem_take,List.getElem_drop]
   rw [mkV,if_pos h1,this]
  ·have hs:u.size=1:=by cases u <;> simp [Ty.agg] at h1 <;> rfl
   have e2:=hc off (cs[off]'(by omega)) (List.getElem?_eq_getElem _)
   rw [h2] at e2
   injection e2 with e2
   rw [mkV,if_neg (by simp [h1]),hs,List.drop_eq_getElem_cons (by omega),e2]
   rfl
 rw [key]
 exact .ofCells hr
theorem qaB.length {w:World} {F:Nat→Prop} : {c:BC} → {cs:List Value} → {bs:List Nat} →qaB w F c cs bs→cs.length=c.size
 | .val _ _,_,_,h=>h.2.length
 | .own _ _ _,_,_,⟨v,h,_⟩=>by rw [h]; rfl
 | .pair _ _,_,_,⟨c1,c2,b1,b2,h1,h2,h3,h4⟩=>by rw [h1,List.length_append,h3.length,h4.length]; rfl
 | .hole _,_,_,h=>h.2
theorem qaB.get {w:World} {F:Nat→Prop} : {c:BC} → {cs:List Value} → {bs:List Nat} → {off:Nat} → {u:Ty} → {y:u.den} → {f:Bool} →qaB w F c cs bs→c.get off u=some (y,f)→
  off+u.size≤cs.length∧Rep w (fun b=>F b∨b∈bs) u y ((cs.drop off).take u.size)∧(f=false→Rep w F u y ((cs.drop off).take u.size))
 | .val t x,cs,bs,off,u,y,f,h,hg=>by
  simp only [BC.get,Option.map_eq_some_iff] at hg
  obtain ⟨z,h1,h2⟩:=hg
  injection h2 with h2 h3
  subst h2; subst h3
  obtain ⟨g1,g2⟩:=h.2.sub h1
  exact ⟨g1,g2.keep (fun b hb hs=>⟨.inl hb,hs,rfl⟩),fun _=>g2⟩
 | .own et e xs,cs,bs,off,u,y,f,h,hg=>by
  simp only [BC.get] at hg
  split at hg
  ·rename_i h0
   subst h0
   simp only [Option.map_eq_some_iff] at hg
   obtain ⟨z,h1,h2⟩:=hg
   injection h2 with h2 h3
   subst h2; subst h3
   obtain ⟨rfl,rfl⟩:=Ty.as_some h1
   obtain ⟨v,rfl,ho⟩:=h
   have hr:=ho.rep.1
   rw [cells_one (ho.rep.2.2 rfl)] at hr
   exact ⟨(by simp [Ty.size]),(by simpa [Ty.size] using hr),(fun h=>by cases h)⟩
  ·cases hg
 | .pair a b,cs,bs,off,u,y,f,h,hg=>by
  obtain ⟨c1,c2,b1,b2,rfl,rfl,h1,h2⟩:=h
  have l1:=h1.length
  have l2:=h2.length
  have mono1:∀(t:Ty) (x:t.den) (l:List Value),Rep w (fun b=>F b∨b∈b1) t x l→Rep w (fun b=>F b∨b∈b1++b2) t x l:=fun t x l hr=>
   hr.keep fun b hb hs=>⟨hb.imp id fun h=>List.mem_append_left _ h,hs,rfl⟩
  have mono2:∀(t:Ty) (x:t.den) (l:List Value),Rep w (fun b=>F b∨b∈b2) t x l→Rep w (fun b=>F b∨b∈b1++b2) t x l:=fun t x l hr=>
   hr.keep fun b hb hs=>⟨hb.imp id fun h=>List.mem_append_right _ h,hs,rfl⟩
  have left:∀(off:Nat) (u:Ty) (y:u.den) (f:Bool),a.get off u=some (y,f)→
    off+u.size≤(c1++c2).length∧Rep w (fun b=>F b∨b∈b1++b2) u y (((c1++c2).drop off).take u.size)∧(f=false→Rep w F u y (((c1++c2).drop off).take u.size)):=fun off u y f hg=>by
   obtain ⟨g1,g2,g3⟩:=h1.get hg
   rw [qco g1]
   exact ⟨by rw [List.length_append]; omega,mono1 _ _ _ g2,g3⟩
  have right:∀(off:Nat) (u:Ty) (y:u.den) (f:Bool),a.size≤off→b.get (off - a.size) u=some (y,f)→
    off+u.size≤(c1++c2).length∧Rep w (fun b=>F b∨b∈b1++b2) u y (((c1++c2).drop off).take u.size)∧(f=false→Rep w F u y (((c1++c2).drop off).take u.size)):=fun off u y f hle hg=>by
   obtain ⟨g1,g2,g3⟩:=h2.get hg
   rw [qb8 (by omega),l1]
   exact ⟨by rw [List.length_append]; omega,mono2 _ _ _ g2,g3⟩
  unfold BC.get at hg
  split at hg
  ·rename_i ua ub
   split at hg
   ·rename_i hsz
    split at hg
    ·rename_i x f1 y' f2 e1 e2
     injection hg with hg
     injection hg with hg1 hg2
     subst hg1; subst hg2
     obtain ⟨g1,g2,g3⟩:=h1.get e1
     obtain ⟨k1,k2,k3⟩:=h2.get e2
     rw [List.drop_zero,←hsz,←l1,List.take_length] at g2 g3
     rw [List.drop_zero] at k2 k3
     have ht:((c1++c2).drop 0).take (Ty.pair ua ub).size=c1++c2.take ub.size:=by
      rw [List.drop_zero,show (Ty.pair ua ub).size=c1.length+ub.size by simp [Ty.size,l1,hsz],List.take_append,List.take_of_length_le (by omega),show c1.length+ub.size - c1.length=ub.size by omega]
     rw [ht]
     refine ⟨by simp [Ty.size]; omega,⟨c1,_,rfl,mono1 _ _ _ g2,mono2 _ _ _ k2⟩,fun hf=> ?_⟩
     simp only [Bool.or_eq_false_iff] at hf
     exact ⟨c1,_,rfl,g3 hf.1,k3 hf.2⟩
    ·cases hg
   ·exact left _ _ _ _ hg
  ·split at hg
   ·exact left _ _ _ _ hg
   ·exact right _ _ _ _ (by omega) hg
 | .hole _,_,_,_,_,_,_,_,hg=>by simp [BC.get] at hg
theorem Ty.dec_rep (w:World) (F:Nat→Prop):(t:Ty)→ {cs:List Value} → {x:t.den} → {r:List Value} →t.dec cs=some (x,r)→∃c,cs=c++r∧Rep w F t x c
 | .int k,cs,x,r,h=>by
  simp only [Ty.dec] at h
  split at h
  ·split at h
   ·rename_i hk
    obtain ⟨rfl,hk⟩:=hk
    injection h with h
    injection h with h1 h2
    subst h1; subst h2
    exact ⟨[_],rfl,rfl,hk⟩
   ·cases h
  ·cases h
 | .bool,cs,x,r,h=>by
  simp only [Ty.dec] at h
  split at h
  ·injection h with h
   injection h with h1 h2
   subst h1; subst h2
   exact ⟨[_],rfl,rfl⟩
  ·cases h
 | .str,cs,x,r,h=>by
  simp only [Ty.dec] at h
  split at h
  ·split at h
   ·rename_i hk
    injection h with h
    injection h with h1 h2
    subst h1; subst h2
    exact ⟨[_],rfl,rfl,by simp only [maxLen]; omega⟩
   ·cases h
  ·cases h
 | .err,cs,x,r,h=>by
  simp only [Ty.dec] at h
  split at h
  ·injection h with h
   injection h with h1 h2
   subst h1; subst h2
   exact ⟨[_],rfl,_,rfl,.inl ⟨rfl,rfl⟩⟩
  ·cases h
 | .opt e,cs,x,r,h=>by
  simp only [Ty.dec] at h
  split at h
  ·injection h with h
   injection h with h1 h2
   subst h1; subst h2
   exact ⟨[_],rfl,_,rfl,.inl ⟨rfl,rfl⟩⟩
  ·cases h
 | .map _ _,cs,x,r,h=>by cases h
 | .unit,cs,x,r,h=>by
  simp only [Ty.dec] at h
  injection h with h
  injection h with h1 h2
  subst h2
  exact ⟨[],rfl,rfl⟩
 | .pair a b,cs,x,r,h=>by
  simp only [Ty.dec] at h
  split at h
  ·rename_i x1 r1 h1
   split at h
   ·rename_i x2 r2 h2
    injection h with h
    injection h with e1 e2
    subst e1; subst e2
    obtain ⟨c1,e1,g1⟩:=Ty.dec_rep w F a h1
    obtain ⟨c2,e2,g2⟩:=Ty.dec_rep w F b h2
    exact ⟨c1++c2,by rw [e1,e2,List.append_assoc],c1,c2,rfl,g1,g2⟩
   ·cases h
  ·cases h
 | .slice e,cs,x,r,h=>by
  simp only [Ty.dec] at h
  split at h
  ·injection h with h
   injection h with h1 h2
   subst h1; subst h2
   exact ⟨[_],rfl,_,rfl,.inl ⟨rfl,rfl⟩⟩
  ·cases h
 | .arr n e,cs,x,r,h=>by
  simp only [Ty.dec] at h
  cases h
theorem qpD {E:Env} {tid:Nat} {c:Value} {a:AV} (X:Sit) (h:qlt E tid c=some a):qau X a c []:=by
 unfold qlt at h
 split at h
 ·split at h
  ·rename_i hk
   injection h with h; subst h
   exact ⟨rfl,.ofInt _ _ hk⟩
  ·cases h
 ·injection h with h; subst h; exact ⟨rfl,.ofBool _ _ _⟩
 ·split at h
  ·rename_i s hs
   injection h with h; subst h
   refine ⟨rfl,?_⟩
   have:=qat.ofStr X.w X.F (s:=s.data.toList) (by simp only [maxLen]; omega)
   simpa using this
  ·cases h
 ·split at h
  ·split at h
   ·injection h with h; subst h
    exact ⟨rfl,rfl⟩
   ·injection h with h; subst h
    exact qV.nil_ _ _ _ _
  ·cases h
 ·split at h
  ·injection h with h; subst h
   exact ⟨rfl,qat.ofErr (.inl ⟨rfl,rfl⟩)⟩
  ·cases h
 ·split at h
  ·injection h with h; subst h
   exact ⟨rfl,qat.ofOpt (.inl ⟨rfl,rfl⟩)⟩
  ·cases h
 ·split at h
  ·injection h with h; subst h
   exact ⟨rfl,qat.ofMap (.inl ⟨rfl,rfl⟩)⟩
  ·cases h
 ·split at h
  ·rename_i t ht
   split at h
   ·rename_i hag
    split at h
    ·rename_i x hx
     injection h with h; subst h
     obtain ⟨c,e,hr⟩:=Ty.dec_rep X.w X.F t hx
     rw [List.append_nil] at e
     subst e
     exact ⟨rfl,hr,(fun _=>⟨_,rfl⟩),(fun h=>by rw [hag] at h; cases h)⟩
    ·cases h
   ·cases h
  ·cases h
 ·cases h
def qtk (X:Sit):Prop:=∀k b,X.pn k=some b→X.tm k=ptr b 0
def qbH (X:Sit) (p:qgA):Prop:=qtk X∧∀q∈p,X.ver q.1=q.2.1∧X.tm q.1= .bool q.2.2.1∧q.2.2.2=q.2.2.1
theorem qm8 {s v:Nat} {w:Bool} : {p:qgA} →qoG s v w p=true→∃b,(s,v,w,b)∈p
 |[],h=>by simp [qoG] at h
 |(s',v',w',b')::r,h=>by
  simp only [qoG,Bool.or_eq_true,Bool.and_eq_true,beq_iff_eq] at h
  rcases h with ⟨⟨rfl,rfl⟩,rfl⟩|h
  ·exact ⟨b',List.mem_cons_self⟩
  ·obtain ⟨b,hb⟩:=qm8 h
   exact ⟨b,List.mem_cons_of_mem _ hb⟩
theorem qlZ {X:Sit} {p:qgA} (hp:qbH X p): {a:AV} → {v:Value} → {bs:List Nat} →qau X a v bs→qau X (qa6 p a) v bs
 | .grd s v0 w a,v,bs,h=>by
  unfold qa6
  split
  ·rename_i ho
   obtain ⟨b,hb⟩:=qm8 ho
   obtain ⟨h1,h2,_⟩:=hp.2 _ hb
   obtain ⟨rfl,h3⟩:=h
   exact qlZ hp ((h3 h1).1 h2)
  ·trivial
 | .undef,_,_,h=>by unfold qa6; exact h
 | .val _ _,_,_,h=>by unfold qa6; exact h
 | .own _ _ _,_,_,h=>by unfold qa6; exact h
 | .agg _,_,_,h=>by unfold qa6; exact h
 | .box _,_,_,h=>by unfold qa6; exact h
 | .ref _ _,_,_,h=>by unfold qa6; exact h
 | .bref _ _ _ _,_,_,h=>by unfold qa6; exact h
 | .pbox _ _ _,_,_,h=>by unfold qa6; exact h
 | .pip _ _,_,_,h=>by unfold qa6; exact h
 | .prow _ _ _ _ _ _,_,_,h=>by unfold qa6; exact h
 | .osl _ _ _ _ _ _,_,_,h=>by unfold qa6; exact h
 | .view _ _ _,_,_,h=>by unfold qa6; exact h
 | .tup _,_,_,h=>by unfold qa6; exact h
 | .fn _ _,_,_,h=>by unfold qa6; exact h
 | .fnv _ _ _,_,_,h=>by unfold qa6; exact h
 | .amb _ _,_,_,h=>by unfold qa6; exact h
 | .nilr _ _,_,_,h=>by unfold qa6; exact h
 | .nz _ _,_,_,h=>by unfold qa6; exact h
 | .mp _ _ _,_,_,h=>by unfold qa6; exact h
 | .itr _ _ _ _,_,_,h=>by unfold qa6; exact h
 | .lsw _ _ _ _,_,_,h=>by unfold qa6; exact h
 | .lsv _ _ _ _,_,_,h=>by unfold qa6; exact h
 | .lsz _ _ _ _,_,_,h=>by unfold qa6; exact h
 | .hol _ _ _ _ _ _,_,_,h=>by unfold qa6; exact h
 | .bhl _ _ _ _,_,_,h=>by unfold qa6; exact h
 | .parr _ _ _ _ _ _ _,_,_,h=>by unfold qa6; exact h
def qbn (X:Sit) (o:Op1) (v:Value):Prop:=
 match o.s with
 |some t=>v=X.tm t∧o.v=X.ver t∧qau X o.a v (X.own t)
 |none=>qau X o.a v []
section
variable {C:Ctx} {σ:St} {tm:Array Value} {w:World} {own:Nat→List Nat} {ds:List Deferred}
theorem qX.at_ (h:qX C σ tm w own) (s:Nat):qau (sit C σ tm w own) (qs σ s).2 (tm.getD s undef) (own s):=by
 by_cases hs:s<σ.length
 ·exact h.rep s hs
 ·have:qs σ s=(0,.undef):=by simp [qs,List.getD,List.getElem?_eq_none (show σ.length≤s by omega)]
  rw [this]
  trivial
theorem opd_ok (h:qX C σ tm w own) {E:Env} [tb:Tabbed E C] {p:qgA} {tid:Nat} {x:Operand} {o:Op1} (hp:qbH (sit C σ tm w own) p) (ho:(opd E p tid x).run (qs σ)=some o):
  qbn (sit C σ tm w own) o ((⟨tm,ds⟩:Act).eval x):=by
 unfold opd at ho
 split at ho
 ·rw [Q.run_get] at ho
  have:=Q.ret_some ho
  subst this
  exact ⟨rfl,rfl,qlZ hp (h.at_ _)⟩
 ·split at ho
  ·rename_i hc
   have:=Q.ret_some ho
   subst this
   exact qpD _ hc
  ·cases ho
 ·have:=Q.ret_some ho
  subst this
  exact ⟨rfl,[],rfl,rfl,rfl⟩
 ·rename_i g
  split at ho
  ·rename_i r hg
   have:=Q.ret_some ho
   subst this
   obtain ⟨h1,h2,cs,h3,h4⟩:=qru h.tabs (g:=g) (r:=r) (by rw [←tb.eq]; exact hg)
   exact ⟨rfl,⟨g,0,none⟩,cs,rfl,h1,h2,h3,h4⟩
  ·cases ho
def FW (X:Sit) (ow:List Nat) (b:Nat):Prop:=X.F b∨∃s∈ow,b∈X.own s∧X.tm s≠ptr b 0
theorem qhS {w:World} {F:Nat→Prop} {et:Nat} {e:Ty} {xs:List e.den} {v:Value} {bs:List Nat} (h:qV w F et e xs v bs) (b:Nat):v≠ptr b 0:=by
 obtain ⟨cells,ho⟩:=h.hdr
 rcases ho.2 with ⟨rfl,_⟩|⟨g,cap,cur,rfl,_⟩ <;> (intro h; cases h)
theorem qmZ {X:Sit} {b:Nat} (h:FW X [] b):X.F b:=by
 rcases h with h|⟨s,h,_⟩
 ·exact h
 ·cases h
theorem qdM (h:qX C σ tm w own) {o:Op1} {v:Value} {r:VR} (ho:qbn (sit C σ tm w own) o v) (hr:(qmh o).run (qs σ)=some r):qat w (FW (sit C σ tm w own) r.ow) r.t r.x v:=by
 obtain ⟨os,ov,oa⟩:=o
 unfold qmh at hr
 split at hr
 ·rename_i t x heq
  have:=Q.ret_some hr
  subst this
  simp only at heq
  subst heq
  have hv:qat w (sit C σ tm w own).F t x v:=by
   unfold qbn at ho
   cases os with
   |some s=>exact ho.2.2.2
   |none=>exact ho.2
  exact hv.mono fun b hb _=> .inl hb
 ·rename_i et e xs heq
  have:=Q.ret_some hr
  subst this
  simp only at heq
  subst heq
  unfold qbn at ho
  cases os with
  |some s=>exact (qV.rep ho.2.2).mono fun b hb _=>hb.imp id fun hb=>⟨s,by simp,hb,by rw [←ho.1]; exact qhS ho.2.2 b⟩
  |none=>exact (qV.rep ho).mono fun b hb _=>hb.imp id fun hb=>by cases hb
 ·rename_i et e heq
  have:=Q.ret_some hr
  subst this
  simp only at heq
  subst heq
  have hv:v= .slice none 0 0:=by
   unfold qbn at ho
   cases os with
   |some s=>exact ho.2.2.2
   |none=>exact ho.2
  rw [hv]
  exact ⟨⟨_,rfl,.inl ⟨rfl,rfl⟩⟩,(fun h=>by cases h),(fun _ cs h=>by cases h)⟩
 ·rename_i e xs heq
  have:=Q.ret_some hr
  subst this
  simp only at heq
  subst heq
  have hv:qat w (sit C σ tm w own).F (.slice e) xs v:=by
   unfold qbn at ho
   cases os with
   |some s=>exact ho.2.2.2.1
   |none=>exact ho.2.1
  exact hv.mono fun b hb _=> .inl hb
 ·rename_i k t xs heq
  have:=Q.ret_some hr
  subst this
  simp only at heq
  subst heq
  unfold qbn at ho
  have hne:∀ {bs},qau (sit C σ tm w own) (.mp k t xs) v bs→∀b,v≠ptr b 0:=fun hm b=>by
   obtain ⟨_,h1,_⟩:=hm
   rw [h1]
   intro e
   cases e
  cases os with
  |some s=>exact (qfH.rep ho.2.2).mono fun b hb _=>hb.imp id fun hb=>⟨s,by simp,hb,by rw [←ho.1]; exact hne ho.2.2 b⟩
  |none=>exact (qfH.rep ho).mono fun b hb _=>hb.imp id fun hb=>by cases hb
 ·rename_i s v0 heq
  simp only at heq
  subst heq
  rw [Q.run_get] at hr
  split at hr
  ·rename_i hv
   have hval:tm.getD s undef=v:=by
    unfold qbn at ho
    cases os with
    |some t=>exact ho.2.2.2 hv
    |none=>exact ho.2 hv
   have hat:=h.at_ s
   rw [hval] at hat
   split at hr
   ·rename_i e xs ha
    have:=Q.ret_some hr
    subst this
    rw [ha] at hat
    exact (qV.rep hat).mono fun b hb _=>hb.imp id fun hb=>⟨s,by simp,hb,by show tm.getD s undef≠_; rw [hval]; exact qhS hat b⟩
   ·rename_i k t xs ha
    have:=Q.ret_some hr
    subst this
    rw [ha] at hat
    exact (qfH.rep hat).mono fun b hb _=>hb.imp id fun hb=>⟨s,by simp,hb,by
     show tm.getD s undef≠_
     obtain ⟨_,h1,_⟩:=hat
     rw [hval,h1]
     intro e
     cases e⟩
   ·rename_i t x ha
    have:=Q.ret_some hr
    subst this
    rw [ha] at hat
    exact hat.2.mono fun b hb _=> .inl hb
   ·cases hr
  ·cases hr
 ·rename_i s v0 off u heq
  simp only at heq
  subst heq
  rw [Q.run_get] at hr
  split at hr
  ·rename_i hv
   split at hr
   ·rename_i c ha
    split at hr
    ·rename_i x f hg
     have:=Q.ret_some hr
     subst this
     have hval:∃b,b∈own s∧tm.getD s undef=ptr b 0∧qtG w b off u v:=by
      unfold qbn at ho
      cases os with
      |some t=>exact ho.2.2.2 hv
      |none=>exact ho.2 hv
     obtain ⟨b,hb,hptr,hva⟩:=hval
     have hat:=h.at_ s
     rw [ha] at hat
     obtain ⟨b',cs,bs',te,h1,h2,h3,h4⟩:=hat
     rw [hptr] at h1
     have hbb:b=b':=by simp [ptr] at h1; exact h1
     subst hbb
     obtain ⟨g1,g2,g3⟩:=h3.get hg
     have hcell:∀j x,cs[j]? =some x→w.cell? ⟨b,j,none⟩=some x:=fun j x hj=>by
      simp [World.cell?,show w.heap[b]? =_ from h2,hj]
     cases f with
     |true=>
      refine (hva.rep hcell g1 g2).mono fun b1 hb1 _=>hb1.imp id fun hb1=>⟨s,by simp,?_,?_⟩
      ·show b1∈own s
       rw [h4]
       exact List.mem_cons_of_mem _ hb1
      ·show tm.getD s undef≠_
       rw [hptr]
       have hn:=h.nodup s
       rw [h4] at hn
       intro he
       have:b=b1:=by simp [ptr] at he; exact he
       subst this
       exact (List.nodup_cons.1 hn).1 hb1
     |false=>exact (hva.rep hcell g1 (g3 rfl)).mono fun b1 hb1 _=> .inl hb1
    ·cases hr
   ·cases hr
  ·cases hr
 ·cases hr
 ·cases hr
theorem qcU (h:qX C σ tm w own) {u:Ty} {o:Op1} {v:Value} {r:u.den×List Nat} (ho:qbn (sit C σ tm w own) o v) (hr:(toVal u o).run (qs σ)=some r):qat w (FW (sit C σ tm w own) r.2) u r.1 v:=by
 have hr0:=hr
 unfold toVal at hr
 split at hr
 ·rename_i c ha
  split at hr
  ·rename_i hsz
   split at hr
   ·rename_i x f hg
    have:=Q.ret_some hr
    subst this
    unfold qbn at ho
    cases hs:o.s with
    |some s=>
     rw [hs] at ho
     obtain ⟨hv,_,h3⟩:=ho
     rw [ha] at h3
     obtain ⟨cs,hcs,hb⟩:=h3
     obtain ⟨g1,g2,g3⟩:=hb.get hg
     have hl:=hb.length
     rw [List.drop_zero,List.take_of_length_le (by omega)] at g2 g3
     have mk:∀F,Rep w F u x cs→qat w F u x v:=fun F hr=>by
      rw [hcs]
      exact ⟨hr,(fun _=>⟨_,rfl⟩),(fun h=>by rw [hsz.2] at h; cases h)⟩
     cases f with
     |true=>exact mk _ (g2.keep fun b hb hlt=>⟨hb.imp id fun hb=>⟨s,by simp,hb,by rw [←hv,hcs]; intro h; cases h⟩,hlt,rfl⟩)
     |false=>exact mk _ ((g3 rfl).keep fun b hb hlt=>⟨.inl hb,hlt,rfl⟩)
    |none=>
     rw [hs] at ho
     rw [ha] at ho
     obtain ⟨cs,hcs,hb⟩:=ho
     obtain ⟨g1,g2,g3⟩:=hb.get hg
     have hl:=hb.length
     rw [List.drop_zero,List.take_of_length_le (by omega)] at g2
     rw [hcs]
     exact ⟨g2.keep fun b hb hlt=>⟨hb.elim .inl (fun hb=>by cases hb),hlt,rfl⟩,(fun _=>⟨_,rfl⟩),(fun h=>by rw [hsz.2] at h; cases h)⟩
   ·cases hr
  ·cases hr
 ·rename_i t x off ha
  split at hr
  case h_2=>cases hr
  split at hr
  case isFalse=>cases hr
  rename_i h0
  split at hr
  ·rename_i y hy
   have:=Q.ret_some hr
   subst this
   subst h0
   have hv:qau (sit C σ tm w own) (.view t x 0) v []:=by
    unfold qbn at ho
    split at ho
    ·obtain ⟨_,_,h3⟩:=ho
     rw [ha] at h3
     exact ⟨rfl,h3.2⟩
    ·rw [ha] at ho
     exact ho
   obtain ⟨_,ad,cs,g1,g2,g3,g4,g5⟩:=hv
   refine qat.ofOpt (.inr ⟨y,ad,cs,rfl,?_,.inl g2,g3,g4,?_⟩)
   ·rw [g1]
    simp [Addr.add]
   ·obtain ⟨rfl,rfl⟩:=Ty.as_some hy
    exact g5.keep fun b hb hlt=>⟨.inl hb,hlt,rfl⟩
  ·cases hr
 ·obtain ⟨q,h1,h2⟩:=Q.bind_some hr
  have hq:=qdM h ho h1
  split at h2
  ·rename_i x hx
   have:=Q.ret_some h2
   subst this
   exact hq.as hx
  ·cases h2
theorem qd1 (h:qX C σ tm w own) {o:Op1} {v:Value} {r:IntKind×Int} (ho:qbn (sit C σ tm w own) o v) (hr:(qiP o).run (qs σ)=some r):v= .int r.1 r.2∧r.1.has r.2:=by
 unfold qiP at hr
 obtain ⟨q,h1,h2⟩:=Q.bind_some hr
 have hq:=qdM h ho h1
 split at h2
 ·have:=Q.ret_some h2
  subst this
  exact hq.int
 ·cases h2
end
end Go.Vi
namespace Go.Vi
open Go.RowKit
theorem qag (σ:St) (u:U):(qR σ u).length=σ.length:=by simp [qR]
theorem qE (us:List U):∀σ:St,(qh σ us).length=σ.length:=by
 induction us with
 |nil=>intro σ; rfl
 |cons u us ih=>intro σ; show (qh (qR σ u) us).length=_; rw [ih,qag]
theorem qu (σ:St) (u:U) {s:Nat} (h:s≠u.s):qs (qR σ u) s=qs σ s:=by
 simp only [qs,qR,List.getD,List.getElem?_set_ne (Ne.symm h)]
theorem qI (σ:St) (u:U) (h:u.s<σ.length):qs (qR σ u) u.s=((if u.bump then (qs σ u.s).1+1 else (qs σ u.s).1),u.a):=by
 simp only [qs,qR,List.getD,List.getElem?_set_self h,Option.getD_some]
theorem qbo (σ:St) (a b:List U):qh σ (a++b)=qh (qh σ a) b:=List.foldl_append
theorem qa4 (tm:Array Value) {d:Nat} (v:Value) (h:d<tm.size):(tm.setIfInBounds d v).getD d undef=v:=by simp [Array.getD,h]
theorem qad (tm:Array Value) {d s:Nat} (v:Value) (h:s≠d):(tm.setIfInBounds d v).getD s undef=tm.getD s undef:=by
 simp only [Array.getD_eq_getD_getElem?,Array.getElem?_setIfInBounds_ne (Ne.symm h)]
section
variable {C:Ctx} {σ:St} {tm:Array Value} {w w':World} {own:Nat→List Nat}
theorem qX.world (h:qX C σ tm w own) (hk:qbd (fun _=>False) w w'):qX C σ tm w' own:=
 h.update (fun _=>False) rfl rfl (fun _ _=>⟨rfl,rfl,rfl⟩) (fun _ hd=>hd.elim) (hk.mono fun _ h=>h.elim) (fun _ hd=>hd.elim) (fun _ hd=>hd.elim) (fun _ _ _ hd=>hd.elim) (fun _ hd=>hd.elim) (fun _ hd=>hd.elim)
def qbu (own:Nat→List Nat) (d:Nat) (bs:List Nat):Nat→List Nat:=fun s=>if s=d then bs else own s
def after (C:Ctx) (σ:St) (tm:Array Value) (w w':World) (own:Nat→List Nat) (bs:List Nat):Sit:=
 { P:=C.P,ver:=fun s=>(qs σ s).1,tm:=fun s=>tm.getD s undef,w:=w',F:=fun b=>(C.free w own b∨w.heap.size≤b)∧b<w'.heap.size∧b∉bs,own,pn:=C.pn }
theorem qX.set (h:qX C σ tm w own) (hk:qbd (fun _=>False) w w') {d:Nat} (hd:d<σ.length) {av:AV} {v:Value} {bs:List Nat} (hb:∀b∈bs,w.heap.size≤b∧b<w'.heap.size) (hn:bs.Nodup)
  (hr:qau (after C σ tm w w' own bs) av v bs) (hw:∀m∈av.mentions,m.2≤(qs σ m.1).1):
  qX C (qR σ ⟨d,true,av⟩) (tm.setIfInBounds d v) w' (qbu own d bs):=by
 have hN:C.w0.heap.size≤w.heap.size:=h.kept.size
 have e1:qs (qR σ ⟨d,true,av⟩) d=((qs σ d).1+1,av):=qI σ ⟨d,true,av⟩ hd
 have e2:(tm.setIfInBounds d v).getD d undef=v:=qa4 tm v (by rw [h.size]; exact hd)
 refine h.update (fun s=>s=d) (qag _ _) (by simp) ?_ ?_ (hk.mono fun _ h=>h.elim) ?_ ?_ ?_ ?_ ?_
 ·intro s hs
  exact ⟨qu _ _ hs,qad tm v hs,by simp [qbu,show s≠d from hs]⟩
 ·rintro s rfl
  rw [e1]
  exact .inl (Nat.lt_succ_self _)
 ·rintro s rfl; exact hd
 ·rintro s rfl
  simp only [qbu,if_true]
  exact ⟨fun b hbm=> .inl (hb b hbm),hn⟩
 ·rintro s s' b rfl rfl _ _
  rfl
 ·rintro s rfl
  rw [e1,e2]
  simp only [qbu,if_true]
  refine qau.keep (X:=after C σ tm w w' own bs) (X':=sit C _ _ w' _) ⟨rfl,rfl⟩ ?_ (fun _ _ _=>rfl) ?_ hr
  ·rintro b ⟨hb1,hb2,hb3⟩ _
   refine ⟨⟨?_,hb2,fun s' hs'=> ?_⟩,hb2,rfl⟩
   ·rcases hb1 with hb1|hb1
    ·exact hb1.1
    ·exact .inr (.inr (by omega))
   ·simp only [qbu] at hs'
    split at hs'
    ·exact hb3 hs'
    ·rcases hb1 with hb1|hb1
     ·exact hb1.2.2 s' hs'
     ·have:=(h.mine s' b hs').2; omega
  ·intro m hm hv
   have hle:=hw m hm
   have hv:(qs (qR σ ⟨s,true,av⟩) m.1).1=m.2:=hv
   by_cases hms:m.1=s
   ·rw [hms,e1] at hv
    rw [hms] at hle
    simp only at hv
    omega
   ·rw [qu _ _ hms] at hv
    refine ⟨hv,qad tm v hms,fun b hb _=>⟨?_,rfl⟩⟩
    show b∈qbu own s bs m.1
    simp only [qbu,if_neg hms]
    exact hb
 ·rintro s rfl m hm
  rw [e1] at hm
  have hle:=hw m hm
  by_cases hms:m.1=s
  ·rw [hms,e1]
   rw [hms] at hle
   simp only
   omega
  ·rw [qu _ _ hms]
   exact hle
theorem qaB.freeze {F:Nat→Prop} : {c:BC} → {cs:List Value} → {bs:List Nat} →qaB w F c cs bs→qaB w (fun b=>F b∨b∈bs) c.freeze cs []
 | .val _ _,_,_,h=>⟨rfl,h.2.keep fun b hb hs=>⟨.inl hb,hs,rfl⟩⟩
 | .own _ _ _,_,_,⟨v,h1,h2⟩=>by
  subst h1
  have:=h2.rep.1
  rw [cells_one (h2.rep.2.2 rfl)] at this
  exact ⟨rfl,this⟩
 | .pair _ _,_,_,⟨c1,c2,b1,b2,h1,h2,h3,h4⟩=>by
  subst h2
  exact ⟨c1,c2,[],[],h1,rfl,h3.freeze.keep (fun b hb hs=>⟨hb.imp id fun h=>List.mem_append_left _ h,hs,rfl⟩) (fun b hb=>by cases hb),h4.freeze.keep (fun b hb hs=>⟨hb.imp id fun h=>List.mem_append_right _ h,hs,rfl⟩) (fun b hb=>by cases hb)⟩
 | .hole _,_,_,h=>⟨rfl,h.2⟩
theorem qaX.freeze {F:Nat→Prop} : {c:List qn1} → {cs:List Value} → {bs:List Nat} →qaX w F c cs bs→qaX w (fun b=>F b∨b∈bs) (c.map qn1.freeze) cs []
 |[],_,_,h=>⟨h.1,rfl⟩
 |c::_,_,_,⟨v,r,b1,b2,h1,h2,h3,h4⟩=>by
  subst h2
  refine ⟨v,r,[],[],h1,rfl,?_,h4.freeze.keep (fun b hb hs=>⟨hb.imp id fun h=>List.mem_append_right _ h,hs,rfl⟩) (fun b hb=>by cases hb)⟩
  cases c with
  |val t x=>exact ⟨rfl,h3.2.mono fun b hb _=> .inl hb⟩
  |own et e xs=>exact ⟨rfl,(qV.rep h3).mono fun b hb _=>hb.imp id fun h=>List.mem_append_left _ h⟩
  |gone=>rfl
  |nz e xs=>exact ⟨rfl,h3.2.1.mono fun b hb _=> .inl hb,h3.2.2⟩
  |agg c=>
   obtain ⟨cs,g1,g2⟩:=h3
   exact ⟨cs,g1,g2.freeze.keep (fun b hb hs=>⟨hb.imp id fun h=>List.mem_append_left _ h,hs,rfl⟩) (fun b hb=>by cases hb)⟩
theorem AV.freeze_mentions (a:AV) {m:Nat×Nat} (h:m∈a.freeze.mentions):m∈a.mentions:=by
 cases a <;> first|exact h|(cases h)
theorem qau.freeze {X X':Sit} (hP:X'.P=X.P∧X'.pn=X.pn) (hw:X'.w=X.w) (hver:∀s,X'.ver s=X.ver s) (htm:∀s,X'.tm s=X.tm s) (hown:∀s b,b∈X.own s→X.tm s=ptr b 0→b∈X'.own s)
  {bs nb:List Nat} {v:Value} (hnd:bs.Nodup) (hnb:∀b,b∈nb↔b∈bs∧v=ptr b 0) (hn2:nb.Nodup) (hF:∀b,X.F b→X'.F b) (hF2:∀b∈bs,b∉nb→X'.F b) {a:AV} (h:qau X a v bs):qau X' a.freeze v nb:=by
 have same:bs=[]→a.freeze=a→qau X' a.freeze v nb:=fun hb ha=>by
  have hn:nb=[]:=by
   cases nb with
   |nil=>rfl
   |cons b r=>have:=((hnb b).1 List.mem_cons_self).1; rw [hb] at this; cases this
  rw [ha,hn]
  rw [hb] at h
  exact qau.keep hP (fun b hb hlt=>⟨hF b hb,by rw [hw]; exact hlt,by rw [hw]⟩) (fun b _ _=>by rw [hw]) (fun m _ hv=>⟨by rw [←hver]; exact hv,htm m.1,fun b hb hp=>⟨hown _ b hb hp,by rw [hw]⟩⟩) h
 have none_:(∀b,v≠ptr b 0)→nb=[]:=fun hv=>by
  cases nb with
  |nil=>rfl
  |cons b r=>exact absurd ((hnb b).1 List.mem_cons_self).2 (hv b)
 cases a with
 |undef=>trivial
 |own et e xs=>
  have hn:=none_ (qhS h)
  subst hn
  have hr:qat X.w _ (.slice e) xs _:=qV.rep h
  exact ⟨rfl,by rw [hw]; exact hr.mono fun b hb _=>hb.elim (hF b) fun hb=>hF2 b hb (by simp)⟩
 |agg c=>
  obtain ⟨cs,hcs,hb⟩:=h
  have hn:=none_ (fun b hp=>by rw [hcs] at hp; cases hp)
  subst hn
  exact ⟨cs,hcs,by rw [hw]; exact hb.freeze.keep (fun b hb hlt=>⟨hb.elim (hF b) fun hb=>hF2 b hb (by simp),hlt,rfl⟩) (fun _ hb=>by cases hb)⟩
 |tup c=>
  obtain ⟨cs,hcs,hb⟩:=h
  have hn:=none_ (fun b hp=>by rw [hcs] at hp; cases hp)
  subst hn
  exact ⟨cs,hcs,by rw [hw]; exact hb.freeze.keep (fun b hb hlt=>⟨hb.elim (hF b) fun hb=>hF2 b hb (by simp),hlt,rfl⟩) (fun _ hb=>by cases hb)⟩
 |box c=>
  obtain ⟨b0,cs,bs',te,h1,h2,h3,h4⟩:=h
  subst h4
  have hne:∀b,v=ptr b 0→b=b0:=fun b hp=>by rw [h1] at hp; simp [ptr] at hp; exact hp.symm
  have hn:nb=[b0]:=by
   have h0:b0∈nb:=(hnb b0).2 ⟨List.mem_cons_self,h1⟩
   cases nb with
   |nil=>cases h0
   |cons b r=>
    have hb:=hne b ((hnb b).1 List.mem_cons_self).2
    subst hb
    cases r with
    |nil=>rfl
    |cons b' r'=>
     have hb':=hne b' ((hnb b').1 (List.mem_cons_of_mem _ List.mem_cons_self)).2
     subst hb'
     exact absurd List.mem_cons_self (List.nodup_cons.1 hn2).1
  subst hn
  refine ⟨b0,cs,[],te,h1,by rw [hw]; exact h2,?_,rfl⟩
  rw [hw]
  refine h3.freeze.keep (fun b hb hlt=>⟨hb.elim (hF b) fun hb=>hF2 b (List.mem_cons_of_mem _ hb) ?_,hlt,rfl⟩) (fun _ hb=>by cases hb)
  intro hb'
  simp at hb'
  subst hb'
  exact (List.nodup_cons.1 hnd).1 hb
 |val t x=>exact same h.1 rfl
 |ref a b=>exact same h.1 rfl
 |bref a b c d=>exact same h.1 rfl
 |pbox a b c=>exact same h.1 rfl
 |pip a b=>exact same h.1 rfl
 |prow a b c d e f=>exact same h.1 rfl
 |osl a b c d e f=>exact same h.1 rfl
 |view a b c=>exact same h.1 rfl
 |grd a b c d=>exact same h.1 rfl
 |fn a b=>exact same h.1 rfl
 |fnv a b c=>exact same h.1 rfl
 |amb a b=>exact same h.1 rfl
 |nilr a b=>exact same h.1 rfl
 |nz a b=>exact same h.1 rfl
 |itr a b c d=>trivial
 |lsw a b c d=>trivial
 |lsv a b c d=>exact same h.1 rfl
 |lsz a b c d=>exact same h.1 rfl
 |mp k t xs=>
  have hn:=none_ (fun b hp=>by obtain ⟨_,h1,_⟩:=h; rw [h1] at hp; cases hp)
  subst hn
  have hr:qat X.w _ (.map k t) (qq9 xs) _:=qfH.rep h
  exact ⟨rfl,by rw [hw]; exact hr.mono fun b hb _=>hb.elim (hF b) fun hb=>hF2 b hb (by simp)⟩
 |hol a b c d e f=>trivial
 |bhl a b c d=>trivial
 |parr a b c d e f g=>exact same h.1 rfl
open Classical in
theorem qX.freeze (h:qX C σ tm w own) (s:Nat):∃own',qX C (qR σ ⟨s,false,(qs σ s).2.freeze⟩) tm w own'∧(∀s',s'≠s→own' s'=own s')∧(∀b∈own' s,b∈own s)∧
  (∀b,FW (sit C σ tm w own) [s] b→C.free w own' b):=by
 by_cases hs:s<σ.length
 case neg=>
  refine ⟨own,?_,fun _ _=>rfl,fun _ hb=>hb,?_⟩
  ·have:qR σ ⟨s,false,(qs σ s).2.freeze⟩=σ:=by simp only [qR]; exact List.set_eq_of_length_le (by omega)
   rw [this]; exact h
  ·rintro b (hb|⟨s',hs',hb,_⟩)
   ·exact hb
   ·simp at hs'; subst hs'
    have hb:b∈own s':=hb
    rw [h.outside s' (by omega)] at hb; cases hb
 have hat:=h.rep s hs
 have eS:qs (qR σ ⟨s,false,(qs σ s).2.freeze⟩) s=((qs σ s).1,(qs σ s).2.freeze):=qI σ ⟨s,false,_⟩ hs
 have eV:∀s',(qs (qR σ ⟨s,false,(qs σ s).2.freeze⟩) s').1=(qs σ s').1:=fun s'=>by
  by_cases he:s'=s
  ·rw [he,eS]
  ·rw [qu _ _ he]
 have eM:∀s',∀m∈(qs (qR σ ⟨s,false,(qs σ s).2.freeze⟩) s').2.mentions,m∈(qs σ s').2.mentions:=fun s' m hm=>by
  by_cases he:s'=s
  ·rw [he] at hm⊢
   rw [eS] at hm
   exact AV.freeze_mentions _ hm
  ·rwa [qu _ _ he] at hm
 obtain ⟨nb,hnb,hnd⟩:∃nb:List Nat,(∀b,b∈nb↔b∈own s∧tm.getD s undef=ptr b 0)∧nb.Nodup:=
  ⟨(own s).filter fun b=>decide (tm.getD s undef=ptr b 0),fun b=>by simp,(h.nodup s).filter _⟩
 have ownSub:∀s' b,b∈qbu own s nb s'→b∈own s':=fun s' b hb=>by
  simp only [qbu] at hb
  split at hb
  ·rename_i e; rw [e]; exact ((hnb b).1 hb).1
  ·exact hb
 have freeMono:∀b,C.free w own b→C.free w (qbu own s nb) b:=fun b hb=>⟨hb.1,hb.2.1,fun s' hs'=>hb.2.2 s' (ownSub s' b hs')⟩
 have freeNew:∀b∈own s,b∉nb→C.free w (qbu own s nb) b:=fun b hb hnb=>⟨.inr (h.mine s b hb).1,(h.mine s b hb).2,fun s' hs'=>by
  simp only [qbu] at hs'
  split at hs'
  ·exact hnb hs'
  ·rename_i hne; exact hne (h.apart s' s b hs' hb)⟩
 have hptr:∀s' b,b∈own s'→tm.getD s' undef=ptr b 0→b∈qbu own s nb s':=fun s' b hb hp=>by
  simp only [qbu]
  split
  ·rename_i e; subst e; exact (hnb b).2 ⟨hb,hp⟩
  ·exact hb
 refine ⟨qbu own s nb,⟨by rw [qag]; exact h.size,h.kept,fun s' b hb=>h.mine s' b (ownSub s' b hb),fun s'=> ?_,fun s' s'' b hb hb'=>h.apart s' s'' b (ownSub _ _ hb) (ownSub _ _ hb'),fun s' hs'=> ?_,?_,?_⟩,fun s' hs'=>by simp [qbu,hs'],fun b hb=>ownSub s b hb,?_⟩
 ·simp only [qbu]
  split
  ·exact hnd
  ·exact h.nodup s'
 ·rw [qag] at hs'
  simp only [qbu]
  split
  ·rename_i e; subst e; omega
  ·exact h.outside s' hs'
 ·intro s' hs'
  rw [qag] at hs'
  by_cases he:s'=s
  ·subst he
   rw [eS]
   simp only [qbu,if_true]
   exact qau.freeze (X:=sit C σ tm w own) (X':=sit C (qR σ ⟨s',false,(qs σ s').2.freeze⟩) tm w (qbu own s' nb)) ⟨rfl,rfl⟩ rfl eV (fun _=>rfl) hptr (h.nodup s') hnb hnd freeMono freeNew hat
  ·rw [qu _ _ he]
   have hr:=h.rep s' hs'
   have e3:qbu own s nb s'=own s':=by simp [qbu,he]
   rw [e3]
   exact qau.keep (X:=sit C σ tm w own) (X':=sit C (qR σ ⟨s,false,(qs σ s).2.freeze⟩) tm w (qbu own s nb)) ⟨rfl,rfl⟩ (fun b hb hlt=>⟨freeMono b hb,hlt,rfl⟩) (fun _ _ _=>rfl) (fun m _ hv=>⟨(eV m.1).symm.trans hv,rfl,fun b hb hp=>⟨hptr m.1 b hb hp,rfl⟩⟩) hr
 ·intro s' m hm
  have hm:=eM s' m hm
  rw [eV]
  exact h.wf s' m hm
 ·rintro b (hb|⟨s',hs',hb,hp⟩)
  ·exact freeMono b hb
  ·simp at hs'; subst hs'
   exact freeNew b hb fun hb'=>hp ((hnb b).1 hb').2
open Classical in
theorem qX.weaken (h:qX C σ tm w own) {s:Nat} (hs:s<σ.length) {a':AV} (hm:∀m∈a'.mentions,m∈(qs σ s).2.mentions) {nb:List Nat} (hsub:∀b∈nb,b∈own s) (hnd:nb.Nodup) (hkeep:∀b∈own s,tm.getD s undef=ptr b 0→b∈nb)
  (hrep:∀X':Sit,X'.P=C.P→X'.pn=C.pn→X'.w=w→(∀s',X'.ver s'=(qs σ s').1)→(∀s',X'.tm s'=tm.getD s' undef)→(∀s' b,b∈own s'→tm.getD s' undef=ptr b 0→b∈X'.own s')→(∀b,C.free w own b→X'.F b)→(∀b∈own s,b∉nb→X'.F b)→qau X' a' (tm.getD s undef) nb):
  qX C (qR σ ⟨s,false,a'⟩) tm w (qbu own s nb):=by
 have eS:qs (qR σ ⟨s,false,a'⟩) s=((qs σ s).1,a'):=qI σ ⟨s,false,_⟩ hs
 have eV:∀s',(qs (qR σ ⟨s,false,a'⟩) s').1=(qs σ s').1:=fun s'=>by
  by_cases he:s'=s
  ·rw [he,eS]
  ·rw [qu _ _ he]
 have ownSub:∀s' b,b∈qbu own s nb s'→b∈own s':=fun s' b hb=>by
  simp only [qbu] at hb
  split at hb
  ·rename_i e; rw [e]; exact hsub b hb
  ·exact hb
 have freeMono:∀b,C.free w own b→C.free w (qbu own s nb) b:=fun b hb=>⟨hb.1,hb.2.1,fun s' hs'=>hb.2.2 s' (ownSub s' b hs')⟩
 have freeNew:∀b∈own s,b∉nb→C.free w (qbu own s nb) b:=fun b hb hnb=>⟨.inr (h.mine s b hb).1,(h.mine s b hb).2,fun s' hs'=>by
  simp only [qbu] at hs'
  split at hs'
  ·exact hnb hs'
  ·rename_i hne; exact hne (h.apart s' s b hs' hb)⟩
 have hptr:∀s' b,b∈own s'→tm.getD s' undef=ptr b 0→b∈qbu own s nb s':=fun s' b hb hp=>by
  simp only [qbu]
  split
  ·rename_i e; subst e; exact hkeep b hb hp
  ·exact hb
 refine ⟨by rw [qag]; exact h.size,h.kept,fun s' b hb=>h.mine s' b (ownSub s' b hb),fun s'=> ?_,fun s' s'' b hb hb'=>h.apart s' s'' b (ownSub _ _ hb) (ownSub _ _ hb'),fun s' hs'=> ?_,?_,?_⟩
 ·simp only [qbu]
  split
  ·exact hnd
  ·exact h.nodup s'
 ·rw [qag] at hs'
  simp only [qbu]
  split
  ·rename_i e; subst e; omega
  ·exact h.outside s' hs'
 ·intro s' hs'
  rw [qag] at hs'
  by_cases he:s'=s
  ·subst he
   rw [eS]
   have e3:qbu own s' nb s'=nb:=by simp [qbu]
   rw [e3]
   exact hrep (sit C (qR σ ⟨s',false,a'⟩) tm w (qbu own s' nb)) rfl rfl rfl eV (fun _=>rfl) hptr freeMono freeNew
  ·rw [qu _ _ he]
   have hr:=h.rep s' hs'
   have e3:qbu own s nb s'=own s':=by simp [qbu,he]
   rw [e3]
   exact qau.keep (X:=sit C σ tm w own) (X':=sit C (qR σ ⟨s,false,a'⟩) tm w (qbu own s nb)) ⟨rfl,rfl⟩ (fun b hb hlt=>⟨freeMono b hb,hlt,rfl⟩) (fun _ _ _=>rfl) (fun m _ hv=>⟨(eV m.1).symm.trans hv,rfl,fun b hb hp=>⟨hptr m.1 b hb hp,rfl⟩⟩) hr
 ·intro s' m hm'
  by_cases he:s'=s
  ·subst he
   rw [eS] at hm'
   rw [eV]
   exact h.wf s' m (hm m hm')
  ·rw [qu _ _ he] at hm'
   rw [eV]
   exact h.wf s' m hm'
theorem qtJ {l1 l2:List Nat} (h:l1.Sublist l2) (hn:l2.Nodup):l2.Perm (l1++l2.filter (fun k=>decide (k∉l1))):=by
 refine (List.perm_ext_iff_of_nodup hn ?_).2 fun a=> ?_
 ·refine List.nodup_append.2 ⟨hn.sublist h,hn.sublist List.filter_sublist,fun b hb b' hb' e=> ?_⟩
  subst e
  have:=(List.mem_filter.1 hb').2
  exact (of_decide_eq_true this) hb
 ·constructor
  ·intro ha
   by_cases hm:a∈l1
   ·exact List.mem_append_left _ hm
   ·exact List.mem_append_right _ (List.mem_filter.2 ⟨ha,by simpa using hm⟩)
  ·intro ha
   rcases List.mem_append.1 ha with ha|ha
   ·exact h.subset ha
   ·exact (List.mem_filter.1 ha).1
theorem qaB.fit {w:World} {F:Nat→Prop} :(b:qcf)→ {c:BC} → {cs:List Value} → {bs:List Nat} → {x:b.den} →qaB w F c cs bs→bs.Nodup→c.fit b=some x→∃b1:List Nat,b1.Sublist bs∧∀F':Nat→Prop,(∀k,F k→F' k)→(∀k∈bs,k∉b1→F' k)→qaB w F' (b.un x) cs b1
 | .val t,c,cs,bs,x,h,hn,hf=>by
  simp only [BC.fit] at hf
  split at hf
  case isFalse=>cases hf
  rename_i hsz
  split at hf
  case h_2=>cases hf
  rename_i r hg
  injection hf with hf
  subst hf
  obtain ⟨g1,g2,_⟩:=h.get (y:=r.1) (f:=r.2) hg
  have hl:=h.length
  rw [List.drop_zero,List.take_of_length_le (by omega)] at g2
  refine ⟨[],List.nil_sublist _,fun F' h1 h2=>⟨rfl,g2.keep fun k hk hlt=>⟨?_,hlt,rfl⟩⟩⟩
  rcases hk with hk|hk
  ·exact h1 k hk
  ·exact h2 k hk (by simp)
 | .own et e,c,cs,bs,x,h,hn,hf=>by
  unfold BC.fit at hf
  split at hf
  case h_2=>cases hf
  rename_i et' e' xs
  split at hf
  case isFalse=>cases hf
  rename_i he
  subst he
  obtain ⟨e1,e2⟩:=Ty.as_some hf
  injection e1 with e1
  subst e1
  have e2:xs=x:=e2
  subst e2
  exact ⟨bs,List.Sublist.refl _,fun F' h1 h2=>qaB.keep (fun k hk hlt=>⟨h1 k hk,hlt,rfl⟩) (fun _ _ _=>rfl) h⟩
 | .pair a b,c,cs,bs,x,h,hn,hf=>by
  unfold BC.fit at hf
  split at hf
  ·rename_i c1 c2
   split at hf
   case h_2=>cases hf
   rename_i x1 x2 hf1 hf2
   injection hf with hf
   subst hf
   obtain ⟨d1,d2,e1,e2,rfl,rfl,k1,k2⟩:=h
   obtain ⟨n1,n2,n3⟩:=List.nodup_append.1 hn
   obtain ⟨p1,q1,r1⟩:=k1.fit a n1 hf1
   obtain ⟨p2,q2,r2⟩:=k2.fit b n2 hf2
   refine ⟨p1++p2,q1.append q2,fun F' h1 h2=>⟨d1,d2,p1,p2,rfl,rfl,r1 F' h1 fun k hk hkn=>h2 k (List.mem_append_left _ hk) fun hm=> ?_,r2 F' h1 fun k hk hkn=>h2 k (List.mem_append_right _ hk) fun hm=> ?_⟩⟩
   ·rcases List.mem_append.1 hm with hm|hm
    ·exact hkn hm
    ·exact n3 k hk k (q2.subset hm) rfl
   ·rcases List.mem_append.1 hm with hm|hm
    ·exact n3 k (q1.subset hm) k hk rfl
    ·exact hkn hm
  ·rename_i ta tb y
   split at hf
   case h_2=>cases hf
   rename_i x1 x2 hf1 hf2
   injection hf with hf
   subst hf
   obtain ⟨h0,d1,d2,rfl,k1,k2⟩:=h
   subst h0
   obtain ⟨p1,q1,r1⟩:=qaB.fit (F:=F) a (c:= .val ta y.1) (bs:=[]) ⟨rfl,k1⟩ List.nodup_nil hf1
   obtain ⟨p2,q2,r2⟩:=qaB.fit (F:=F) b (c:= .val tb y.2) (bs:=[]) ⟨rfl,k2⟩ List.nodup_nil hf2
   have:=List.sublist_nil.1 q1
   subst this
   have:=List.sublist_nil.1 q2
   subst this
   exact ⟨[],List.Sublist.refl _,fun F' h1 h2=>⟨d1,d2,[],[],rfl,rfl,r1 F' h1 fun k hk=>(by cases hk),r2 F' h1 fun k hk=>(by cases hk)⟩⟩
  ·cases hf
 | .hole n,_,_,_,_,_,_,hf=>by cases hf
theorem qX.refit (h:qX C σ tm w own) (sh:qem) (s:Nat):∃own',qX C (qR σ ⟨s,false,(qs σ s).2.refit sh⟩) tm w own':=by
 have fz:∃own',qX C (qR σ ⟨s,false,(qs σ s).2.freeze⟩) tm w own':=by
  obtain ⟨own',h1,_⟩:=h.freeze s
  exact ⟨own',h1⟩
 unfold AV.refit
 split
 ·rename_i b c heq
  split
  ·rename_i x hx
   have hs:s<σ.length:=by
    by_cases hs:s<σ.length
    ·exact hs
    ·have:qs σ s=(0,.undef):=by simp [qs,List.getD,List.getElem?_eq_none (Nat.le_of_not_lt hs)]
     rw [this] at heq
     cases heq
   have hat:=h.rep s hs
   rw [heq] at hat
   obtain ⟨b0,cs,bs',te,h1,h2,h3,h4⟩:=hat
   have hnd:=h.nodup s
   rw [h4] at hnd
   have hnd:=List.nodup_cons.1 hnd
   obtain ⟨b1,q1,q2⟩:=h3.fit b hnd.2 hx
   refine ⟨_,h.weaken hs (nb:=b0::b1) (fun m hm=>by cases hm) (fun k hk=> ?_) (List.nodup_cons.2 ⟨fun hm=>hnd.1 (q1.subset hm),hnd.2.sublist q1⟩) (fun k hk hp=> ?_) ?_⟩
   ·rw [h4]
    rcases List.mem_cons.1 hk with rfl|hk
    ·exact List.mem_cons_self
    ·exact List.mem_cons_of_mem _ (q1.subset hk)
   ·have:k=b0:=by
     rw [h1] at hp
     simp [ptr] at hp
     exact hp.symm
    rw [this]
    exact List.mem_cons_self
   ·intro X' hP hpn hw hver htm hown hF hF2
    refine ⟨b0,cs,b1,te,h1,by rw [hw]; exact h2,?_,rfl⟩
    rw [hw]
    refine q2 X'.F hF fun k hk hkn=>hF2 k (by rw [h4]; exact List.mem_cons_of_mem _ hk) fun hm=> ?_
    rcases List.mem_cons.1 hm with rfl|hm
    ·exact hnd.1 hk
    ·exact hkn hm
  ·rw [heq] at fz
   exact fz
 ·exact fz
end
end Go.Vi
