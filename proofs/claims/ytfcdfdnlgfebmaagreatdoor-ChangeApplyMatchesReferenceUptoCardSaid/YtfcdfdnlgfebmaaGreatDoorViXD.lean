import Derived.Test.YtfcdfdnlgfebmaaGreatDoorViXC
import Derived.Lib.LaidTab
import Derived.Lib.ItoaNum
import Derived.Lib.ItoaLen
import Derived.Lib.AtoiAllCases
import Derived.Lib.ParseIntBTie
import Derived.Lib.AtoiErrMem
import Derived.Lib.AppendIntMem
import Derived.Laws.CopyRow
import Derived.Laws.IdiomCopy
set_option linter.unusedVariables false
set_option linter.unusedSimpArgs false
set_option linter.unnecessarySimpa false
set_option linter.unusedSectionVars false
namespace Go.Vi
open Go.RowKit
theorem qcE.ofBelow {w w':World} (h:Below w.heap.size w w'):qcE (fun _=>False) w w':=⟨h.os,h.tape,h.output,h.size,fun k hk _=>h.block k hk⟩
theorem qwQ {w:World} {F:Nat→Prop} :(ts:List Ty)→ {y:denL ts} → {vs:List Value} →qd3 w F ts y vs→qbh w F (qdR (valRs ts) (qvA ts y)) vs []
 |ts,_,_,h=>qjI ts h
theorem qoh {P:Program} {T:qlR} {f:Nat} {fn:Func} (hf:P.funcs[f]? =some fn) (hb:fn.body.isSome=true) (hname:(fn.name == "runtime.NumGoroutine")=false) (ts us:List Ty) (φ:denL ts→Option (denL us))
  (h:∀(w:World) (F:Nat→Prop) (x:denL ts) (y:denL us) (as:List Value),qdU T w F→qd3 w F ts x as→φ x=some y→
   Calls P f as.toArray w fun e w'=>∃vs,e= .returned (qgt vs)∧qd3 w' (fun b=>F b∨w.heap.size≤b) us y vs∧qcE (fun _=>False) w w'):
  qk.okT P T f ⟨valPs ts,valRs us,fun x=>qf7 (fun y=>(qvA us y,PMs.ioDflt (valPs ts))) (φ (qxz ts x))⟩:=by
 obtain ⟨c,hc⟩:=Option.isSome_iff_exists.1 hb
 refine ⟨fun as w=>qeb hf hc hname as w,fun w F x y as g i hT hp hpre hn hy=> ?_⟩
 simp only [qck,Option.map_eq_some_iff] at hy
 obtain ⟨z,hz,rfl⟩:=hy
 obtain ⟨k1,rfl,rfl⟩:=qks ts hp
 refine (h w F _ z as hT k1 hz).mono ?_
 rintro e w' ⟨vs,rfl,hv,hk⟩
 refine ⟨_,rfl,vs,[],rfl,List.nodup_nil,fun b hb=>(by cases hb),qjI us (hv.mono us fun b hb=> ?_),qjr ts,hk.mono fun _ h=>h.elim⟩
 exact ⟨hb.elim .inl fun h=> .inr (.inr h),by simp,by simp⟩
theorem qrh (k:IntKind):(l:List Int)→(css:List (List Value))→css.length=l.length→(∀(i:Nat) (x:Int) (c:List Value),l[i]? =some x→css[i]? =some c→c=[.int k x])→css.flatten=l.map (fun z=> .int k z)
 |[],[],_,_=>rfl
 |[],_::_,h,_=>by simp at h
 |_::_,[],h,_=>by simp at h
 |x::l,c::css,h,hx=>by
  have h0:=hx 0 x c rfl rfl
  have ih:=qrh k l css (by simpa using h) fun i x c h1 h2=>hx (i+1) x c (by simpa using h1) (by simpa using h2)
  rw [List.flatten_cons,ih,h0]
  rfl
theorem qti {P:Program} {T:qlR} {w:World} {F:Nat→Prop} (hT:qdU T w F) {name:String} {g n:Nat} {k:IntKind} {tab zs:List Int} (hg:P.globalNamed name=some g) (ht:T g=some ⟨.arr n (.int k),tab⟩) (hz:tab=zs):Lib.TabIs P w name k zs:=by
 subst hz
 obtain ⟨_,_,cs,te,fz,h3,hl,css,hcl,rfl,hx⟩:=hT g _ ht
 have e:=qrh k tab css (by rw [hcl]; exact hl.symm) fun i x c h1 h2=>(hx i x c h1 h2).1
 rw [Lib.TabIs,World.var?,hg]
 simp only [Option.bind_some,h3,e]
theorem qlc {T:qlR} {w:World} {F:Nat→Prop} (hT:qdU T w F) {g:Nat} (ht:T g=some ⟨.err,false⟩):∃te pe,w.cell? ⟨g,0,none⟩=some (.iface te pe):=by
 obtain ⟨_,_,cs,te,fz,h3,v,rfl,h4⟩:=hT g _ ht
 rcases h4 with ⟨h,_⟩|⟨_,t,x,rfl⟩
 ·cases h
 ·exact ⟨t,x,by simp [World.cell?,h3]⟩
theorem qfN (s:List UInt8):(⟨s.toArray⟩:ByteArray).data.toList=s:=by simp
theorem qjM (s:List UInt8):(⟨s.toArray⟩:ByteArray).size=s.length:=by
 show s.toArray.size=s.length
 simp
theorem qy2 {P:Program} {T:qlR} {f g:Nat} {fn:Func} {tab:List Int} (hf:P.funcs[f]? =some fn) (hb:fn.body.isSome=true) (hname:(fn.name == "runtime.NumGoroutine")=false)
  (hg:P.globalNamed "internal/strconv.uint64pow10" =some g) (ht:T g=some ⟨.arr 20 (.int .u64),tab⟩) (hz:tab=Lib.pow10Tab)
  (h:∀(n:Int),-9223372036854775808≤n→n≤9223372036854775807→∀(w:World),Lib.TabIs P w "internal/strconv.uint64pow10" .u64 Lib.pow10Tab→
   Calls P f #[.int .i64 n] w fun e w'=>e= .returned (.string ⟨(Lib.itoa n).toArray⟩)∧∃k os,w'=Sort.grow (w.drewN k) os):
  qk.okT P T f ⟨[.val (.int .i64)],[.val .str],fun x=>some ((Lib.itoa x.1,()),())⟩:=by
 have:=qoh (T:=T) hf hb hname [.int .i64] [.str] (fun x=>some (Lib.itoa x.1,())) (fun w F x y as hT hv hy=>by
  obtain ⟨v,r,rfl,h1,rfl⟩:=hv
  obtain ⟨rfl,hn⟩:=qaD.int h1
  injection hy with hy
  subst hy
  have hn': -9223372036854775808≤x.1∧x.1≤9223372036854775807:=by simpa [IntKind.has,IntKind.min,IntKind.max,IntKind.signed,IntKind.bits] using hn
  refine (h x.1 hn'.1 hn'.2 w (qti hT hg ht hz)).mono ?_
  rintro e w' ⟨rfl,k,os,rfl⟩
  refine ⟨[_],rfl,⟨_,[],rfl,qaD.ofStr _ _ ?_,rfl⟩,qcE.ofBelow (Lib.below_grow _ _ (Nat.le_refl _) _ _)⟩
  have:=Lib.itoa_length_le x.1 hn'.1 hn'.2
  simp only [maxLen]
  omega)
 refine ⟨this.1,fun w F x y as g i a b c d e=>this.2 w F x y as g i a b c d ?_⟩
 injection e with e
 subst e
 simp only [qck]
 rfl
def quf (s:List UInt8):Option (Int×Bool):=if s.length≤1000 then (match Lib.atoiAll s with
 | .ok v=>some (v,true)
 | .syntax=>some (0,false)
 | .range=>some (Lib.atoiSat s,false)) else none
theorem qov (s:List UInt8):IntKind.i64.has (Lib.atoiSat s):=by
 unfold Lib.atoiSat
 split <;> exact ⟨by decide,by decide⟩
theorem ok_atoi {P:Program} {T:qlR} {f g1 g2:Nat} {fn:Func} {tE tN:Nat} {nm:List UInt8} {tb:TypeId} (hf:P.funcs[f]? =some fn) (hb:fn.body.isSome=true) (hname:(fn.name == "runtime.NumGoroutine")=false)
  (h1:T g1=some ⟨.err,false⟩) (h2:T g2=some ⟨.err,false⟩)
  (hok:∀(s:ByteArray),s.size≤9223372036854775806→∀v,Lib.atoiAll s.data.toList= .ok v→∀(w:World),Calls P f #[.string s] w fun e w'=>e= .returned (.tuple #[.int .i64 v,.nilIface])∧(w'=w∨∃t,w'=Lib.bytesWorld w tb t))
  (hsy:∀(s:ByteArray),s.size≤281474976710656→Lib.atoiAll s.data.toList= .syntax→∀(ev:Value) (w:World),w.cell? ⟨g1,0,none⟩=some ev→(ev= .nilIface∨∃te pe,ev= .iface te pe)→
   Calls P f #[.string s] w fun e w'=>∃N,e= .returned (.tuple #[.int .i64 0,.iface tE (.pointer (some ⟨N,0,none⟩))])∧w.heap.size≤N∧w'.heap[N]? =some (.cells #[.string ⟨nm.toArray⟩,.string s,ev] tN (0,0))∧Below w.heap.size w w')
  (hra:∀(s:ByteArray),s.size≤281474976710656→Lib.atoiAll s.data.toList= .range→∀(ev:Value) (w:World),w.cell? ⟨g2,0,none⟩=some ev→(ev= .nilIface∨∃te pe,ev= .iface te pe)→
   Calls P f #[.string s] w fun e w'=>∃N,e= .returned (.tuple #[.int .i64 (Lib.atoiSat s.data.toList),.iface tE (.pointer (some ⟨N,0,none⟩))])∧w.heap.size≤N∧w'.heap[N]? =some (.cells #[.string ⟨nm.toArray⟩,.string s,ev] tN (0,0))∧Below w.heap.size w w'):
  qk.okT P T f ⟨[.val .str],[.val (.int .i64),.val .err],fun x=>qf7 (fun y=>((y.1,(y.2,())),())) (quf x.1)⟩:=by
 have:=qoh (T:=T) hf hb hname [.str] [.int .i64,.err] (fun x=>qf7 (fun y=>(y.1,(y.2,()))) (quf x.1)) (fun w F x y as hT hv hy=>by
  obtain ⟨v,r,rfl,k1,rfl⟩:=hv
  obtain ⟨rfl,hn⟩:=qaD.str k1
  simp only [qck,Option.map_eq_some_iff] at hy
  obtain ⟨z,hz,rfl⟩:=hy
  unfold quf at hz
  split at hz
  case isFalse=>cases hz
  rename_i hl
  have hsz:(⟨x.1.toArray⟩:ByteArray).size≤1000:=by rw [qjM]; exact hl
  split at hz
  ·rename_i v hv
   injection hz with hz
   subst hz
   refine (hok _ (by omega) v (by rw [qfN]; exact hv) w).mono ?_
   rintro e w' ⟨rfl,hw⟩
   have hk:qcE (fun _=>False) w w':=by
    rcases hw with rfl|⟨t,rfl⟩
    ·exact qcE.refl _ _
    ·exact qcE.ofBelow (Lib.bytesWorld_below _ _ _)
   refine ⟨[_,_],rfl,⟨_,_,rfl,qaD.ofInt _ _ ?_,_,_,rfl,qaD.ofErr (.inl ⟨rfl,rfl⟩),rfl⟩,hk⟩
   have:=Lib.atoiAll_bounds hv
   simpa [IntKind.has,IntKind.min,IntKind.max,IntKind.signed,IntKind.bits] using this
  ·rename_i hv
   injection hz with hz
   subst hz
   obtain ⟨te,pe,hc⟩:=qlc hT h1
   refine (hsy _ (by omega) (by rw [qfN]; exact hv) _ w hc (.inr ⟨te,pe,rfl⟩)).mono ?_
   rintro e w' ⟨N,rfl,_,_,hw⟩
   exact ⟨[_,_],rfl,⟨_,_,rfl,qaD.ofInt _ _ ⟨by decide,by decide⟩,_,_,rfl,qaD.ofErr (.inr ⟨rfl,_,_,rfl⟩),rfl⟩,qcE.ofBelow hw⟩
  ·rename_i hv
   injection hz with hz
   subst hz
   obtain ⟨te,pe,hc⟩:=qlc hT h2
   refine (hra _ (by omega) (by rw [qfN]; exact hv) _ w hc (.inr ⟨te,pe,rfl⟩)).mono ?_
   rintro e w' ⟨N,rfl,_,_,hw⟩
   exact ⟨[_,_],rfl,⟨_,_,rfl,by rw [qfN]; exact qaD.ofInt _ _ (qov _),_,_,rfl,qaD.ofErr (.inr ⟨rfl,_,_,rfl⟩),rfl⟩,qcE.ofBelow hw⟩)
 refine ⟨this.1,fun w F x y as g i a b c d e=>this.2 w F x y as g i a b c d ?_⟩
 simp only [qck,Option.map_map] at e⊢
 exact e
theorem qyw {P:Program} {T:qlR} {f g1 g2:Nat} {fn:Func} {tE tN:Nat} {nm:List UInt8} {tb:TypeId} (hf:P.funcs[f]? =some fn) (hb:fn.body.isSome=true) (hname:(fn.name == "runtime.NumGoroutine")=false)
  (h1:T g1=some ⟨.err,false⟩) (h2:T g2=some ⟨.err,false⟩)
  (hok:∀(s:ByteArray),s.size≤9223372036854775806→∀v,Lib.parseIntB 64 s.data.toList= .ok v→∀(w:World),Calls P f #[.string s,.int .i64 10,.int .i64 64] w fun e w'=>e= .returned (.tuple #[.int .i64 v,.nilIface])∧(w'=w∨∃t,w'=Lib.bytesWorld w tb t))
  (hsy:∀(s:ByteArray),s.size≤281474976710656→Lib.parseIntB 64 s.data.toList= .syntax→∀(ev:Value) (w:World),w.cell? ⟨g1,0,none⟩=some ev→(ev= .nilIface∨∃te pe,ev= .iface te pe)→
   Calls P f #[.string s,.int .i64 10,.int .i64 64] w fun e w'=>∃N,e= .returned (.tuple #[.int .i64 0,.iface tE (.pointer (some ⟨N,0,none⟩))])∧w.heap.size≤N∧w'.heap[N]? =some (.cells #[.string ⟨nm.toArray⟩,.string s,ev] tN (0,0))∧Below w.heap.size w w')
  (hra:∀(s:ByteArray),s.size≤281474976710656→Lib.parseIntB 64 s.data.toList= .range→∀(ev:Value) (w:World),w.cell? ⟨g2,0,none⟩=some ev→(ev= .nilIface∨∃te pe,ev= .iface te pe)→
   Calls P f #[.string s,.int .i64 10,.int .i64 64] w fun e w'=>∃N,e= .returned (.tuple #[.int .i64 (Lib.intSat 64 s.data.toList),.iface tE (.pointer (some ⟨N,0,none⟩))])∧w.heap.size≤N∧w'.heap[N]? =some (.cells #[.string ⟨nm.toArray⟩,.string s,ev] tN (0,0))∧Below w.heap.size w w'):
  qk.okT P T f ⟨[.val .str,.val (.int .i64),.val (.int .i64)],[.val (.int .i64),.val .err],fun x=>if x.2.1=10∧x.2.2.1=64 then qf7 (fun y=>((y.1,(y.2,())),())) (quf x.1) else none⟩:=by
 have:=qoh (T:=T) hf hb hname [.str,.int .i64,.int .i64] [.int .i64,.err] (fun x=>if x.2.1=10∧x.2.2.1=64 then qf7 (fun y=>(y.1,(y.2,()))) (quf x.1) else none) (fun w F x y as hT hv hy=>by
  split at hy
  case isFalse=>cases hy
  rename_i hx
  obtain ⟨s,b,c,_⟩:=x
  obtain ⟨rfl,rfl⟩:=hx
  obtain ⟨v,r,rfl,k1,v2,r2,rfl,k2,v3,r3,rfl,k3,rfl⟩:=hv
  obtain ⟨rfl,hn⟩:=qaD.str k1
  obtain ⟨rfl,_⟩:=qaD.int k2
  obtain ⟨rfl,_⟩:=qaD.int k3
  simp only [qck,Option.map_eq_some_iff] at hy
  obtain ⟨z,hz,rfl⟩:=hy
  unfold quf at hz
  split at hz
  case isFalse=>cases hz
  rename_i hl
  have hsz:(⟨s.toArray⟩:ByteArray).size≤1000:=by rw [qjM]; exact hl
  split at hz
  ·rename_i v hv
   injection hz with hz
   subst hz
   refine (hok ⟨s.toArray⟩ (by omega) v (by rw [qfN,Lib.parseIntB_64]; exact hv) w).mono ?_
   rintro e w' ⟨rfl,hw⟩
   have hk:qcE (fun _=>False) w w':=by
    rcases hw with rfl|⟨t,rfl⟩
    ·exact qcE.refl _ _
    ·exact qcE.ofBelow (Lib.bytesWorld_below _ _ _)
   refine ⟨[_,_],rfl,⟨_,_,rfl,qaD.ofInt _ _ ?_,_,_,rfl,qaD.ofErr (.inl ⟨rfl,rfl⟩),rfl⟩,hk⟩
   have:=Lib.atoiAll_bounds hv
   simpa [IntKind.has,IntKind.min,IntKind.max,IntKind.signed,IntKind.bits] using this
  ·rename_i hv
   injection hz with hz
   subst hz
   obtain ⟨te,pe,hc⟩:=qlc hT h1
   refine (hsy ⟨s.toArray⟩ (by omega) (by rw [qfN,Lib.parseIntB_64]; exact hv) _ w hc (.inr ⟨te,pe,rfl⟩)).mono ?_
   rintro e w' ⟨N,rfl,_,_,hw⟩
   exact ⟨[_,_],rfl,⟨_,_,rfl,qaD.ofInt _ _ ⟨by decide,by decide⟩,_,_,rfl,qaD.ofErr (.inr ⟨rfl,_,_,rfl⟩),rfl⟩,qcE.ofBelow hw⟩
  ·rename_i hv
   injection hz with hz
   subst hz
   obtain ⟨te,pe,hc⟩:=qlc hT h2
   refine (hra ⟨s.toArray⟩ (by omega) (by rw [qfN,Lib.parseIntB_64]; exact hv) _ w hc (.inr ⟨te,pe,rfl⟩)).mono ?_
   rintro e w' ⟨N,rfl,_,_,hw⟩
   exact ⟨[_,_],rfl,⟨_,_,rfl,by rw [qfN,Lib.intSat_64]; exact qaD.ofInt _ _ (qov _),_,_,rfl,qaD.ofErr (.inr ⟨rfl,_,_,rfl⟩),rfl⟩,qcE.ofBelow hw⟩)
 refine ⟨this.1,fun w F x y as g i a b c d e=>this.2 w F x y as g i a b c d ?_⟩
 simp only at e⊢
 by_cases hx:x.2.1=10∧x.2.2.1=64
 ·rw [if_pos hx] at e
  show qf7 _ (if x.2.1=10∧x.2.2.1=64 then _ else none)=_
  rw [if_pos hx]
  simp only [qck,Option.map_map] at e⊢
  exact e
 ·rw [if_neg hx] at e
  cases e
def qnV (w:World) (g:Nat) (r:(t:Ty)×t.den):Prop:=g<w.heap.size∧∃(cs:List Value) (te:Nat) (fz:Nat×Nat),w.heap[g]? =some (.cells cs.toArray te fz)∧Rep w (fun b=>b<w.heap.size) r.1 r.2 cs
theorem qrg {P:Program} {w:World} {n:String} {g:Nat} {cs:Array Value} (hg:P.globalNamed n=some g) (h:w.var? P n=some cs):g<w.heap.size∧∃(te:Nat) (fz:Nat×Nat),w.heap[g]? =some (.cells cs te fz):=by
 rw [World.var?,hg] at h
 simp only [Option.bind_some] at h
 split at h
 ·rename_i c te fz e
  injection h with h
  subst h
  exact ⟨(Array.getElem?_eq_some_iff.1 e).1,te,fz,e⟩
 ·cases h
theorem qnV.err {P:Program} {w:World} {n:String} {g:Nat} {t:TypeId} {x:Value} (hg:P.globalNamed n=some g) (h:w.var? P n=some #[.iface t x]):qnV w g ⟨.err,false⟩:=by
 obtain ⟨h1,te,fz,h2⟩:=qrg hg h
 exact ⟨h1,[.iface t x],te,fz,h2,_,rfl,.inr ⟨rfl,t,x,rfl⟩⟩
theorem qmI {α β:Type} (f:α→β):(l:List α)→l.map f=(l.map fun z=>[f z]).flatten
 |[]=>rfl
 |x::l=>by simp only [List.map_cons,List.flatten_cons,←qmI f l]; rfl
theorem qnV.ints {P:Program} {w:World} {name:String} {g n:Nat} {k:IntKind} {tab zs:List Int} (hg:P.globalNamed name=some g) (hn:zs.length=n) (hk:zs.all (fun z=>decide (k.min≤z∧z≤k.max))=true) (ht:tab=zs) (h:Lib.TabIs P w name k zs):qnV w g ⟨.arr n (.int k),tab⟩:=by
 subst ht
 obtain ⟨h1,te,fz,h2⟩:=qrg hg h
 refine ⟨h1,tab.map (fun z=> .int k z),te,fz,h2,hn,tab.map (fun z=>[.int k z]),by rw [List.length_map,hn],qmI _ _,fun i x c hx hc=> ?_⟩
 rw [List.getElem?_map,hx] at hc
 injection hc with hc
 subst hc
 have h3:k.min≤x∧x≤k.max:=of_decide_eq_true (List.all_eq_true.1 hk x (List.mem_of_getElem? hx))
 exact ⟨rfl,h3⟩
def qkQ (v:Int×(Int×(List UInt8×Unit))):List UInt8:=124::(Lib.itoa v.1++44::(Lib.itoa v.2.1++44::(Lib.itoa (v.2.2.1.length:Int)++44::v.2.2.1)))
def qdD (xs:List (Int×(Int×(List UInt8×Unit)))):List UInt8:=Lib.itoa (xs.length:Int)++(xs.map qkQ).flatten
def qqq (s t:List UInt8):Option ((Int×Unit)×Unit):=match t with
 |[c]=>some ((Lib.indexByte s c,()),())
 |_=>none
theorem qjy:(s:List UInt8)→(c:UInt8)→ -1≤Lib.indexByte s c∧Lib.indexByte s c<(s.length:Int)+1
 |[],_=>by simp [Lib.indexByte]
 |b::l,c=>by
  have:=qjy l c
  simp only [Lib.indexByte]
  split
  ·simp only [List.length_cons]; omega
  ·split
   ·simp only [List.length_cons]; omega
   ·simp only [List.length_cons]; omega
theorem quL {P:Program} {T:qlR} {f:Nat} {fn:Func} (hf:P.funcs[f]? =some fn) (hb:fn.body.isSome=true) (hname:(fn.name == "runtime.NumGoroutine")=false)
  (h:∀(s:ByteArray) (c:UInt8) (w:World),Calls P f #[.string s,.string ⟨#[c]⟩] w fun e w'=>e= .returned (.int .i64 (Lib.indexByte s.data.toList c))∧w'=w):
  qk.okT P T f ⟨[.val .str,.val .str],[.val (.int .i64)],fun x=>qqq x.1 x.2.1⟩:=by
 have:=qoh (T:=T) hf hb hname [.str,.str] [.int .i64] (fun x=>match x.2.1 with
  |[c]=>some (Lib.indexByte x.1 c,())
  |_=>none) (fun w F x y as hT hv hy=>by
  obtain ⟨v,r,rfl,h1,v2,r2,rfl,h2,rfl⟩:=hv
  obtain ⟨rfl,hn⟩:=qaD.str h1
  obtain ⟨rfl,hn2⟩:=qaD.str h2
  obtain ⟨s,t,u⟩:=x
  simp only at hy hn hn2⊢
  split at hy
  ·rename_i c
   injection hy with hy
   subst hy
   refine (h ⟨s.toArray⟩ c w).mono ?_
   rintro e w' ⟨rfl,rfl⟩
   refine ⟨[_],rfl,⟨_,[],rfl,qaD.ofInt _ _ ?_,rfl⟩,qcE.refl _ _⟩
   have h3:=qjy s c
   simp only [maxLen] at hn
   simp [IntKind.has,IntKind.min,IntKind.max,IntKind.signed,IntKind.bits]
   omega
  ·cases hy)
 refine ⟨this.1,fun w F x y as g i a b c d e=>this.2 w F x y as g i a b c d ?_⟩
 obtain ⟨s,t,u⟩:=x
 simp only [qqq] at e
 simp only [qck,qxz]
 split at e
 ·injection e with e
  subst e
  rfl
 ·cases e
end Go.Vi
namespace Go.Vi
open Go.RowKit
theorem qgc {P:Program} (w:World) (dT sT ty elem:TypeId) (sz:Nat) (g o dLen dCap:Nat) (a:Addr) (sLen sCap:Nat) (cur:List Value) (t:TypeId) (cs:List Value)
  (hu:P.underlying dT=some (.slice elem)) (hs:(P.info? elem).map (·.size)=some sz)
  (hg:w.heap[g]? =some (.cells cur.toArray t (0,0))) (hn:cs.length=Nat.min sLen dLen * sz)
  (hsrc:∀j v,cs[j]? =some v→w.cell? (a.add j)=some v) (hfit:o+cs.length≤cur.length) (h1:∀v∈cs,v.oneCell'=true):
  (Builtin.copy_ #[dT,sT] ty #[.slice (some ⟨g,o,none⟩) dLen dCap,.slice (some a) sLen sCap]).run P w=
   .ok (goInt (Nat.min sLen dLen)) (w.setRow g (cur.take o++cs++cur.drop (o+cs.length)).toArray):=by
 have hl:=run_loadCells_list (P:=P) w a cs hsrc
 have hst:=run_storeCells_at P g o t cs 0 cur.toArray w hg (by simpa using hfit) h1
 simp only [Nat.add_zero] at hst
 cases hq:P.info? elem with
 |none=>simp [hq] at hs
 |some i=>
  have hi:i.size=sz:=by simpa [hq] using hs
  simp [Builtin.copy_,run_underlying hu,Builtin.lenOf,Builtin.firstCells,sizeOf,typeInfo,hq,hi,←hn,hl,hst]
theorem qlG {P:Program} {ops:Array Oper} {o:Oper} {a:Act} {w:World} {K:Act→World→Prop} {Q:Exit→Act→World→Prop} {E:Prop}
  (hg:o.guard=none) (d x:Operand) (dT sT:TypeId) (hop:o.op=Op.call { callee:=Callee.builtin Builtin.copy,args:= #[d,x],argTypes:= #[dT,sT] })
  (v u:Value) (hd:a.eval d=v) (hx:a.eval x=u) {v':Value} {w':World} (hr:(Builtin.copy_ #[dT,sT] o.type #[v,u]).run P w= .ok v' w') (hK:K (a.put o.dst v') w'):
  if Region.wanted o (yielded ops a.tmps)=true then Oper.wp P o a w K Q else E:=by
 have hw:Region.wanted o (yielded ops a.tmps)=true:=by simp [Region.wanted,hg]
 rw [if_pos hw]
 unfold Oper.wp
 simp [execOp,hop,resolve,invoke,builtin,hd,hx,hr,Result.andThen]
 exact hK
theorem qxM {P:Program} (w:World) {ops:Array Oper} {rest:List Oper} {o:Oper} {a:Act} {Q:Exit→Act→World→Prop} (hgd:o.guard=none) (d s:Operand) (t t':TypeId)
  (ho:o.op= .call { callee:= .builtin .copy,args:= #[d,s],argTypes:= #[t,t'] }) (v u:Value) (hd:a.eval d=v) (hs:a.eval s=u) {v':Value} {w':World}
  (hr:(Builtin.copy_ #[t,t'] o.type #[v,u]).run P w= .ok v' w') (h:wpList P ops Q rest (a.put o.dst v') w'):wpList P ops Q (o::rest) a w:=by
 refine wpList_plain hgd fun K hK=> ?_
 unfold Oper.wp
 simp [execOp,ho,resolve,invoke,builtin,hd,hs,hr,Result.andThen]
 exact hK _ _ h
theorem qcE.setRow {O:Nat→Prop} {w0 w:World} {g:Nat} (h:qcE O w0 w) (hg:O g) (cs:Array Value):qcE O w0 (w.setRow g cs):=
 h.trans ⟨rfl,rfl,rfl,by simp [World.setRow],fun k _ hk=>setRow_other w g k cs (fun e=>hk (e ▸ hg))⟩
theorem qc4 {w:World} {g:Nat} {cur:List Value} {t:TypeId} {fz:Nat×Nat} (h:w.heap[g]? =some (.cells cur.toArray t fz)) (cs:Array Value):(w.setRow g cs).heap[g]? =some (.cells cs t fz):=setRow_heap w g _ cs t fz h
def qev {α:Type} (R:α→List Value→Prop) (sz:Nat) (xs:List α) (cells:List Value):Prop:=
 cells.length=xs.length * sz∧∀(j:Nat) (x:α),xs[j]? =some x→R x ((cells.drop (j * sz)).take sz)
theorem qev.append {α:Type} {R:α→List Value→Prop} {sz:Nat} {xs ys:List α} {a b:List Value} (h:qev R sz xs a) (k:qev R sz ys b):qev R sz (xs++ys) (a++b):=by
 refine ⟨by rw [List.length_append,List.length_append,h.1,k.1,Nat.add_mul],fun j x hj=> ?_⟩
 by_cases hlt:j<xs.length
 ·rw [List.getElem?_append_left hlt] at hj
  have h1:(j+1) * sz≤xs.length * sz:=Nat.mul_le_mul_right _ hlt
  rw [Nat.add_mul,Nat.one_mul] at h1
  have h2:=h.2 j x hj
  rwa [List.drop_append_of_le_length (by rw [h.1]; omega),List.take_append_of_le_length (by rw [List.length_drop,h.1]; omega)]
 ·rw [List.getElem?_append_right (by omega)] at hj
  have h2:=k.2 _ x hj
  have e:j * sz=xs.length * sz+(j - xs.length) * sz:=by rw [←Nat.add_mul]; congr 1; omega
  rw [e,List.drop_append,List.drop_of_length_le (l:=a) (by rw [h.1]; omega),List.nil_append,h.1,Nat.add_sub_cancel_left]
  exact h2
theorem qev.take {α:Type} {R:α→List Value→Prop} {sz:Nat} {xs:List α} {a:List Value} (h:qev R sz xs a) (k:Nat) (hk:k≤xs.length):qev R sz (xs.take k) (a.take (k * sz)):=by
 have h0:k * sz≤xs.length * sz:=Nat.mul_le_mul_right _ hk
 refine ⟨by rw [List.length_take,List.length_take,h.1,Nat.min_eq_left h0,Nat.min_eq_left hk],fun j x hj=> ?_⟩
 rw [List.getElem?_take] at hj
 split at hj
 case isFalse=>cases hj
 rename_i hlt
 have h1:(j+1) * sz≤k * sz:=Nat.mul_le_mul_right _ hlt
 rw [Nat.add_mul,Nat.one_mul] at h1
 have h2:=h.2 j x hj
 rwa [List.drop_take,List.take_take,Nat.min_eq_left (by omega)]
theorem qev.drop {α:Type} {R:α→List Value→Prop} {sz:Nat} {xs:List α} {a:List Value} (h:qev R sz xs a) (k:Nat):qev R sz (xs.drop k) (a.drop (k * sz)):=by
 refine ⟨by rw [List.length_drop,List.length_drop,h.1,Nat.sub_mul],fun j x hj=> ?_⟩
 rw [List.getElem?_drop] at hj
 have h2:=h.2 _ x hj
 rwa [List.drop_drop,←Nat.add_mul]
theorem qev.mono {α:Type} {R R':α→List Value→Prop} {sz:Nat} {xs:List α} {a:List Value} (h:qev R sz xs a) (hR:∀x c,R x c→R' x c):qev R' sz xs a:=⟨h.1,fun j x hj=>hR _ _ (h.2 j x hj)⟩
theorem qai.chunks {w:World} {F:Nat→Prop} {et:Nat} {e:Ty} {xs:List e.den} {v:Value} {bs:List Nat} (h:qai w F et e xs v bs):∃cells,w.ownsRow 0 et e.size v xs.length cells∧bs=v.ownBlock.toList∧qev (Rep w F e) e.size xs cells:=by
 obtain ⟨cells,h1,h2,h3⟩:=h
 exact ⟨cells,h1,h2,h1.1,h3⟩
theorem qev.own {w:World} {F:Nat→Prop} {et:Nat} {e:Ty} {xs:List e.den} {v:Value} {cells:List Value} {n:Nat} (h:qev (Rep w F e) e.size xs cells) (ho:w.ownsRow 0 et e.size v n cells) (hn:n=xs.length):qai w F et e xs v v.ownBlock.toList:=by
 subst hn
 exact ⟨cells,ho,rfl,h.2⟩
theorem qev.oneCell {w:World} {F:Nat→Prop} {e:Ty} : {xs:List e.den} → {cells:List Value} →qev (Rep w F e) e.size xs cells→∀u∈cells,u.oneCell'=true
 |[],cells,h,u,hu=>by
  have:cells=[]:=List.eq_nil_of_length_eq_zero (by rw [h.1]; simp)
  rw [this] at hu
  cases hu
 |x::xs,cells,h,u,hu=>by
  have h0:=h.2 0 x rfl
  rw [Nat.zero_mul,List.drop_zero] at h0
  rw [←List.take_append_drop e.size cells] at hu
  rcases List.mem_append.1 hu with hu|hu
  ·exact h0.oneCell u hu
  ·have h1:=h.drop 1
   rw [Nat.one_mul] at h1
   exact qev.oneCell (xs:=xs) h1 u hu
def qvx (P:Program) (f te sz bytes:Nat):Prop:=∀(w:World) (v vv:Value) (n m i:Nat) (xs vs:List Value),w.ownsRow 0 te sz v n xs→w.ownsRow 0 te sz vv m vs→(∀b,v.ownBlock=some b→vv.ownBlock≠some b)→i≤n→
 (n+m) * bytes≤140737488355328→(∀u∈xs,u.oneCell'=true)→(∀u∈vs,u.oneCell'=true)→
 Calls P f #[v,.int .i64 i,vv] w fun e w'=>∃v',e= .returned v'∧w'.ownsRow 0 te sz v' (n+m) (xs.take (i * sz)++vs++xs.drop (i * sz))∧qcE (fun b=>v.ownBlock=some b) w w'∧∀b,v'.ownBlock=some b→v.ownBlock=some b∨w.heap.size≤b
theorem qye {w:World} {te sz n:Nat} {v:Value} {xs:List Value} (h:w.ownsRow 0 te sz v n xs):∀b,v.ownBlock=some b→b<w.heap.size:=fun b hb=>(h.lt b hb).2
theorem qnR {o:Option Nat} {b:Nat} (h:b∈o.toList):o=some b:=by
 cases o with
 |none=>cases h
 |some c=>simp at h; rw [h]
theorem qvw {i:Int} {n:Nat} (h0:0≤i) (h1:i≤(n:Int)):∃j:Nat,i=(j:Int)∧j≤n:=⟨i.toNat,by omega,by omega⟩
theorem qv9 {P:Program} {T:qlR} {f te bytes:Nat} {fn:Func} {e:Ty} (hf:P.funcs[f]? =some fn) (hb:fn.body.isSome=true) (hname:(fn.name == "runtime.NumGoroutine")=false) (hw:qvx P f te e.size bytes):
  qk.okT P T f ⟨[.own te e,.val (.int .i64),.own te e],[.own te e],fun x=>if 0≤x.2.1∧x.2.1≤(x.1.length:Int)∧(x.1.length+x.2.2.1.length) * bytes≤140737488355328 then some ((x.1.take x.2.1.toNat++x.2.2.1++x.1.drop x.2.1.toNat,()),()) else none⟩:=by
 obtain ⟨c,hc⟩:=Option.isSome_iff_exists.1 hb
 refine ⟨fun as w=>qeb hf hc hname as w,fun w F x y as g io hT hp hpre hn hy=> ?_⟩
 obtain ⟨xs,i,vs,⟨⟩⟩:=x
 obtain ⟨v1,r1,g1,g2,rfl,rfl,o1,v2,r2,rfl,h2,v3,r3,g3,g4,rfl,rfl,o3,rfl,rfl,rfl⟩:=hp
 simp only at hy
 split at hy
 case isFalse=>cases hy
 rename_i hcond
 obtain ⟨c1,c2,c3⟩:=hcond
 injection hy with hy
 subst hy
 obtain ⟨rfl,_⟩:=qaD.int h2
 simp only at o1 o3 c1 c2 c3
 obtain ⟨cs1,w1,rfl,k1⟩:=o1.chunks
 obtain ⟨cs3,w3,rfl,k3⟩:=o3.chunks
 obtain ⟨j,rfl,hj⟩:=qvw c1 c2
 simp only [List.append_nil] at hpre hn
 have hne:∀b,v1.ownBlock=some b→v3.ownBlock≠some b:=fun b h1 h3=>by
  rw [h1,h3] at hn
  simp at hn
 have hF:∀b,F b→v1.ownBlock≠some b:=fun b hb h=>(hpre b (List.mem_append_left _ (by rw [h]; simp))).1 hb
 refine (hw w v1 v3 xs.length vs.length j cs1 cs3 w1 w3 hne hj c3 k1.oneCell k3.oneCell).mono ?_
 rintro en w' ⟨v',rfl,a1,a2,a3⟩
 have inBs:∀b,b∈v'.ownBlock.toList→(v1.ownBlock=some b∨w.heap.size≤b)∧b<w'.heap.size:=fun b hb=>by
  have e:=qnR hb
  exact ⟨a3 b e,qye a1 b e⟩
 have keep:∀b,F b→b<w.heap.size→qmr w F (v1.ownBlock.toList++v3.ownBlock.toList) [] v'.ownBlock.toList b∧b<w'.heap.size∧w'.heap[b]? =w.heap[b]? :=fun b hb hlt=>by
  refine ⟨⟨.inl hb,fun hm=> ?_,by simp⟩,Nat.lt_of_lt_of_le hlt a2.size,a2.block b hlt (hF b hb)⟩
  rcases (inBs b hm).1 with h|h
  ·exact hF b hb h
  ·omega
 refine ⟨v',rfl,[v'],v'.ownBlock.toList,rfl,?_,fun b hb=> ?_,⟨v',[],_,[],rfl,by rw [List.append_nil],?_,rfl,rfl⟩,rfl,?_⟩
 ·cases v'.ownBlock <;> simp
 ·obtain ⟨h1,h2⟩:=inBs b hb
  refine ⟨h1.imp (fun h=> ?_) id,h2⟩
  rw [List.append_nil]
  exact List.mem_append_left _ (by rw [h]; simp)
 ·have hk:=((k1.take j hj).append k3).append (k1.drop j)
  have hl:(xs.take j++vs++xs.drop j).length=xs.length+vs.length:=by
   simp only [List.length_append,List.length_take,List.length_drop]; omega
  have:=(hk.mono fun x c h=>h.keep keep).own a1 hl.symm
  simp only [Int.toNat_natCast,List.append_nil]
  exact this
 ·refine a2.mono fun b hb=> ?_
  rw [List.append_nil,List.append_nil]
  exact List.mem_append_left _ (by rw [hb]; simp)
theorem qoH {P:Program} (w:World) (t ty e:TypeId) (sz:Nat) (ht:P.underlying t=some (.slice e)) (hs:(P.info? e).map (·.size)=some sz) (g sLen sCap:Nat) (a:Addr) (m c:Nat) (cur:List Value) (t':TypeId) (cs:List Value)
  (hg:w.heap[g]? =some (.cells cur.toArray t' (0,0))) (hn:cs.length=m * sz) (hsrc:∀j v,cs[j]? =some v→w.cell? (a.add j)=some v) (h1:∀v∈cs,v.oneCell'=true) (hroom:sLen+m≤sCap) (hfit:sLen * sz+cs.length≤cur.length):
  (Builtin.append_ #[t,t] ty #[.slice (some ⟨g,0,none⟩) sLen sCap,.slice (some a) m c]).run P w= .ok (.slice (some ⟨g,0,none⟩) (sLen+m) sCap) (w.setRow g (cur.take (sLen * sz)++cs++cur.drop (sLen * sz+cs.length)).toArray):=by
 obtain ⟨i,hi,hiz⟩:=Option.map_eq_some_iff.1 hs
 have hfc:=run_firstCells_some (P:=P) w i.size m a m c cs (by rw [hiz]; exact hn) hsrc
 have hst:=run_storeCells_at P g (sLen * sz) t' cs 0 cur.toArray w hg (by simpa using hfit) h1
 simp only [Nat.add_zero] at hst
 rw [hiz] at hfc
 simp [Builtin.append_,run_underlying ht,sizeOf,typeInfo,hi,hiz,Builtin.lenOf,hroom,hfc,Addr.add_lit,hst]
theorem qja {P:Program} {ops:Array Oper} {o:Oper} {a:Act} {w:World} {K:Act→World→Prop} {Q:Exit→Act→World→Prop} {E:Prop}
  (hg:o.guard=none) (d x:Operand) (dT sT:TypeId) (hop:o.op=Op.call { callee:=Callee.builtin Builtin.append,args:= #[d,x],argTypes:= #[dT,sT] })
  (v u:Value) (hd:a.eval d=v) (hx:a.eval x=u) {v':Value} {w':World} (hr:(Builtin.append_ #[dT,sT] o.type #[v,u]).run P w= .ok v' w') (hK:K (a.put o.dst v') w'):
  if Region.wanted o (yielded ops a.tmps)=true then Oper.wp P o a w K Q else E:=by
 have hw:Region.wanted o (yielded ops a.tmps)=true:=by simp [Region.wanted,hg]
 rw [if_pos hw]
 unfold Oper.wp
 simp [execOp,hop,resolve,invoke,builtin,hd,hx,hr,Result.andThen]
 exact hK
def qwp (P:Program) (f te sz:Nat):Prop:=∀(w:World) (v:Value) (n i j:Nat) (xs:List Value),w.ownsRow 0 te sz v n xs→i≤j→j≤n→(∀u∈xs,u.oneCell'=true)→
 Calls P f #[v,.int .i64 i,.int .i64 j] w fun e w'=>∃v',e= .returned v'∧w'.ownsRow 0 te sz v' (i+(n - j)) (xs.take (i * sz)++xs.drop (j * sz))∧qcE (fun b=>v.ownBlock=some b) w w'∧v'.ownBlock=v.ownBlock
theorem quX {P:Program} {T:qlR} {f te:Nat} {fn:Func} {e:Ty} (hf:P.funcs[f]? =some fn) (hb:fn.body.isSome=true) (hname:(fn.name == "runtime.NumGoroutine")=false) (hw:qwp P f te e.size):
  qk.okT P T f ⟨[.own te e,.val (.int .i64),.val (.int .i64)],[.own te e],fun x=>if 0≤x.2.1∧x.2.1≤x.2.2.1∧x.2.2.1≤(x.1.length:Int) then some ((x.1.take x.2.1.toNat++x.1.drop x.2.2.1.toNat,()),()) else none⟩:=by
 obtain ⟨c,hc⟩:=Option.isSome_iff_exists.1 hb
 refine ⟨fun as w=>qeb hf hc hname as w,fun w F x y as g io hT hp hpre hn hy=> ?_⟩
 obtain ⟨xs,i,j,⟨⟩⟩:=x
 obtain ⟨v1,r1,g1,g2,rfl,rfl,o1,v2,r2,rfl,h2,v3,r3,rfl,h3,rfl,rfl,rfl⟩:=hp
 simp only at hy
 split at hy
 case isFalse=>cases hy
 rename_i hcond
 obtain ⟨c1,c2,c3⟩:=hcond
 injection hy with hy
 subst hy
 obtain ⟨rfl,_⟩:=qaD.int h2
 obtain ⟨rfl,_⟩:=qaD.int h3
 simp only at o1 c1 c2 c3
 obtain ⟨cs1,w1,rfl,k1⟩:=o1.chunks
 obtain ⟨b,rfl,hj⟩:=qvw (Int.le_trans c1 c2) c3
 obtain ⟨a,rfl,hi⟩:=qvw c1 c2
 simp only [List.append_nil] at hpre hn
 have hF:∀b,F b→v1.ownBlock≠some b:=fun b hb h=>(hpre b (by rw [h]; simp)).1 hb
 refine (hw w v1 xs.length a b cs1 w1 hi hj k1.oneCell).mono ?_
 rintro en w' ⟨v',rfl,a1,a2,a3⟩
 have keep:∀b,F b→b<w.heap.size→qmr w F v1.ownBlock.toList [] v'.ownBlock.toList b∧b<w'.heap.size∧w'.heap[b]? =w.heap[b]? :=fun b hb hlt=>
  ⟨⟨.inl hb,fun hm=>hF b hb (by rw [←a3]; exact qnR hm),by simp⟩,Nat.lt_of_lt_of_le hlt a2.size,a2.block b hlt (hF b hb)⟩
 refine ⟨v',rfl,[v'],v'.ownBlock.toList,rfl,?_,fun b hb=> ?_,⟨v',[],_,[],rfl,by rw [List.append_nil],?_,rfl,rfl⟩,rfl,?_⟩
 ·cases v'.ownBlock <;> simp
 ·rw [List.append_nil,←a3]
  exact ⟨.inl hb,qye a1 b (qnR hb)⟩
 ·have hk:=(k1.take a (Nat.le_trans hi hj)).append (k1.drop b)
  have hl:(xs.take a++xs.drop b).length=a+(xs.length - b):=by
   simp only [List.length_append,List.length_take,List.length_drop]; omega
  have:=(hk.mono fun x c h=>h.keep keep).own a1 hl.symm
  simp only [Int.toNat_natCast,List.append_nil]
  exact this
 ·refine a2.mono fun b hb=> ?_
  rw [List.append_nil,List.append_nil]
  rw [hb]; simp
end Go.Vi
namespace Go.Vi
theorem iterF_zero {S R:Type} (step:(S→Option R)→S→Option R) (s:S):qab 0 step s=none:=rfl
theorem qaN {S R:Type} (n:Nat) (step:(S→Option R)→S→Option R) (s:S):qab (n+1) step s=step (qab n step) s:=rfl
theorem qcR {S R:Type} {step:(S→Option R)→S→Option R} (m:S→Nat) (I:S→Prop) (out:S→R) (h:∀(ih:S→Option R) (s:S),I s→(∀s',I s'→m s'<m s→ih s'=some (out s'))→step ih s=some (out s)):∀(n:Nat) (s:S),I s→m s<n→qab n step s=some (out s)
 |0,s,_,hm=>absurd hm (Nat.not_lt_zero _)
 |n+1,s,hI,hm=>h (qab n step) s hI fun s' hI' hm'=>qcR m I out h n s' hI' (by omega)
theorem qf {α:Type} (x:α):qt (some x)=true:=by rw [qhC]; rfl
theorem qh {α:Type} (x d:α):qr (some x) d=x:=by rw [qnb]; rfl
theorem qjK {α:Type} :qt (none:Option α)=false:=by rw [qhC]; rfl
theorem qdH {z:Int} (h1: -9223372036854775808≤z) (h2:z<9223372036854775808):IntKind.wrap .i64 z=z:=by
 simp [IntKind.wrap,IntKind.signed,IntKind.bits]
 split <;> omega
theorem qC {α:Type} {c:Bool} {a b:α} (h:c=true):(bif c then a else b)=a:=by rw [h]; rfl
theorem qD {α:Type} {c:Bool} {a b:α} (h:c=false):(bif c then a else b)=b:=by rw [h]; rfl
theorem qaJ {α:Type} {p:Prop} [Decidable p] {a b:α} :(bif decide p then a else b)=if p then a else b:=by by_cases h:p <;> simp [h]
theorem qbC (x y:Int):eqI x y=decide (x=y):=by rw [qqj]; rfl
theorem qaG (x y:Int):neI x y= !decide (x=y):=by rw [qpX]; rfl
theorem qch (x y:List UInt8):eqS x y=decide (x=y):=by rw [qsg]; by_cases h:x=y <;> simp [h]
theorem eqB_dec (x y:Bool):eqB x y=decide (x=y):=by rw [qqk]; cases x <;> cases y <;> rfl
theorem qw7 {α:Type} (c:Bool) (a b:α):(bif c then a else b)=if c=true then a else b:=by cases c <;> rfl
theorem condO {α:Type} (c:Bool) (a b:Option α):(bif c then a else b)=if c=true then a else b:=by cases c <;> rfl
theorem condOr (c d:Bool):(bif c then c else d)=(c||d):=by cases c <;> rfl
theorem condB (c a b:Bool):(bif c then a else b)=((c&&a)||(!c&&b)):=by cases c <;> simp
theorem qjO {α:Type} {xs:List α} {i:Nat} {d x:α} (h:xs[i]? =some x):qi xs (i:Int) d=x:=by
 rw [qdf]
 simp [List.getD,h]
theorem qyS {i n:Nat} (h:i<n):inB (i:Int) (n:Int)=true:=by
 rw [qdr]
 simp
 omega
theorem qex:(t:Ty)→(x:t.den)→1≤t.bulk x
 | .int _,_=>Nat.le_refl _
 | .bool,_=>Nat.le_refl _
 | .str,_=>Nat.le_add_left _ _
 | .unit,_=>Nat.le_refl _
 | .err,_=>Nat.le_refl _
 | .opt _,_=>Nat.le_refl _
 | .map _ _,_=>Nat.le_refl _
 | .pair a b,x=>by have:=qex a x.1; show 1≤a.bulk x.1+b.bulk x.2; omega
 | .slice e,xs=>Nat.le_add_left _ _
 | .arr _ e,xs=>Nat.le_add_left _ _
theorem qjF (e:Ty):(xs:List e.den)→xs.length+1≤(Ty.slice e).bulk xs
 |[]=>Nat.le_refl _
 |x::xs=>by
  have:=qjF e xs
  have h1:=qex e x
  simp only [Ty.bulk,List.map_cons,List.sum_cons,List.length_cons] at this⊢
  omega
end Go.Vi
namespace Go.Vi
theorem qhY {S R:Type} {step:(S→Option R)→S→Option R} {s0:S} (st:Nat→S) (n:Nat) (r:R) (h0:st 0=s0) (hs:∀i,i<n→∀ih,step ih (st i)=ih (st (i+1))) (he:∀ih,step ih (st n)=some r) {N:Nat} (hN:n<N):qab N step s0=some r:=by
 rw [←h0]
 have:∀k i,i+k=n→∀M,k<M→qab M step (st i)=some r:=by
  intro k
  induction k with
  |zero=>
   intro i hi M hM
   obtain ⟨M,rfl⟩:∃m,M=m+1:=⟨M - 1,by omega⟩
   rw [qaN,show i=n by omega]; exact he _
  |succ k ih=>
   intro i hi M hM
   obtain ⟨M,rfl⟩:∃m,M=m+1:=⟨M - 1,by omega⟩
   rw [qaN,hs i (by omega)]
   exact ih (i+1) (by omega) M (by omega)
 exact this n 0 (by omega) N hN
theorem qfP {S R:Type} {step:(S→Option R)→S→Option R} {s0:S} (st:Nat→S) (n:Nat) (r:Option R) (h0:st 0=s0) (hs:∀i,i<n→∀ih,step ih (st i)=ih (st (i+1))) (he:∀ih,step ih (st n)=r) {N:Nat} (hN:n<N):qab N step s0=r:=by
 rw [←h0]
 have:∀k i,i+k=n→∀M,k<M→qab M step (st i)=r:=by
  intro k
  induction k with
  |zero=>
   intro i hi M hM
   obtain ⟨M,rfl⟩:∃m,M=m+1:=⟨M - 1,by omega⟩
   rw [qaN,show i=n by omega]; exact he _
  |succ k ih=>
   intro i hi M hM
   obtain ⟨M,rfl⟩:∃m,M=m+1:=⟨M - 1,by omega⟩
   rw [qaN,hs i (by omega)]
   exact ih (i+1) (by omega) M (by omega)
 exact this n 0 (by omega) N hN
theorem qbl (x y:Int):ltI x y=decide (x<y):=qbd x y
theorem qfZ (x y:Int):leI x y=decide (x≤y):=qa3 x y
theorem qcZ (i n:Int):inB i n=decide (0≤i∧i<n):=by rw [qdr]; simp
theorem qjj (l h n:Int):inS l h n=decide (0≤l∧l≤h∧h≤n):=by rw [qlW]; simp
theorem qat {x y:Int} (h1: -9223372036854775808≤x+y) (h2:x+y<9223372036854775808):qS .i64 x y=x+y:=by rw [qne,qdH h1 h2]
theorem qam {x y:Int} (h1: -9223372036854775808≤x - y) (h2:x - y<9223372036854775808):qT .i64 x y=x - y:=by rw [qlv,qdH h1 h2]
theorem imul64 {x y:Int} (h1: -9223372036854775808≤x * y) (h2:x * y<9223372036854775808):qol .i64 x y=x * y:=by rw [qdY,qdH h1 h2]
theorem ineg64 {x:Int} (h1: -9223372036854775808<x) (h2:x<9223372036854775808):ineg .i64 x= -x:=by rw [qpZ,qdH (by omega) (by omega)]; omega
theorem qsh {x:Int} (h1: -9223372036854775808≤x) (h2:x<9223372036854775808):qc1 .i64 x=x:=by rw [qfA,qdH h1 h2]
theorem iquo64 {x y:Int} (hx:0≤x) (hy:0<y) (h2:x<9223372036854775808):qrq .i64 x y=x / y:=by
 have h3:x / y≤x:=Int.ediv_le_self _ hx
 have h4:0≤x / y:=Int.ediv_nonneg hx (by omega)
 rw [qjV,Int.tdiv_eq_ediv_of_nonneg hx,qdH (by omega) (by omega)]
theorem irem64 {x y:Int} (hx:0≤x):irem x y=x % y:=by rw [qp3,Int.tmod_eq_emod_of_nonneg hx]
theorem qQ {i:Nat} (h:i<4611686018427387904):qS .i64 (i:Int) 1=((i+1:Nat):Int):=by
 rw [qne,qdH (by omega) (by omega)]
 omega
theorem qaW {α:Type} {xs:List α} {i:Nat} (h:i<xs.length):ltI (i:Int) (qn xs)=true:=by rw [qbd,qj]; simp; omega
theorem qax {α:Type} {xs:List α} {i:Nat} (h:¬i<xs.length):ltI (i:Int) (qn xs)=false:=by rw [qbd,qj]; simp; omega
theorem qK {α:Type} {xs:List α} {i:Nat} (h:i<xs.length):inB (i:Int) (qn xs)=true:=by rw [qj]; exact qyS h
theorem drop_cons' {α:Type} {xs:List α} {i:Nat} (h:i<xs.length):xs.drop i=xs[i]::xs.drop (i+1):=List.drop_eq_getElem_cons h
theorem qba {α:Type} {xs:List α} {i:Nat} (h:i<xs.length):xs.take (i+1)=xs.take i++[xs[i]]:=by rw [List.take_succ_eq_append_getElem h]
theorem qF {α:Type} {xs:List α} {i:Nat} (d:α) (h:i<xs.length):qi xs (i:Int) d=xs[i]:=qjO (List.getElem?_eq_getElem h)
theorem qdZ {α β:Type} {xs:List α} {ys:List β} {b:Nat} (h:(xs.length+ys.length) * b≤140737488355328):qcQ (qn xs) (qn ys) b=true:=by
 rw [qlK,qj,qj]
 refine decide_eq_true ?_
 have:(((xs.length+ys.length) * b:Nat):Int)≤140737488355328:=by omega
 rwa [Int.natCast_mul,Int.natCast_add] at this
theorem qtE {α:Type} (xs:List α) (i:Nat):qar xs (i:Int) (qn xs)=xs.drop i:=by
 rw [qcj,qj]; simp
theorem qnh {α:Type} (xs:List α) (i:Nat):qar xs 0 (i:Int)=xs.take i:=by
 rw [qcj]; simp
theorem slice_at {α:Type} (xs:List α) (i j:Nat):qar xs (i:Int) (j:Int)=(xs.take j).drop i:=by
 rw [qcj]; simp
theorem qsR {α:Type} {xs:List α} {i:Nat} (h:i≤xs.length):inS (i:Int) (qn xs) (qn xs)=true:=by
 rw [qlW,qj]; simp; omega
theorem qvP (n:Int):IntKind.wrap .u8 n=n % 256:=by simp [IntKind.wrap,IntKind.signed,IntKind.bits]
theorem qsX (n:Int):IntKind.wrap .u64 n=n % 18446744073709551616:=by simp [IntKind.wrap,IntKind.signed,IntKind.bits]
theorem qgM {n:Int} (h1:0≤n) (h2:n<18446744073709551616):IntKind.wrap .u64 n=n:=by rw [qsX]; omega
theorem wrap8_id {n:Int} (h1:0≤n) (h2:n<256):qc1 .u8 n=n:=by rw [qfA,qvP]; omega
theorem bv64 (n:Nat):BitVec.ofInt 64 (n:Int)=BitVec.ofNat 64 n:=by
 apply BitVec.eq_of_toInt_eq
 rw [BitVec.toInt_ofInt]
 exact (BitVec.toInt_ofNat' ..).symm
theorem qtr:IntKind.bits .i64=64:=rfl
theorem bor64 {a b:Nat} (ha:a<2^62) (hb:b<2^62):bor .i64 (a:Int) (b:Int)=((a|||b:Nat):Int):=by
 have hab:a|||b<2^62:=Nat.or_lt_two_pow ha hb
 rw [qsA,qtr,bv64,bv64,BitVec.toNat_or,BitVec.toNat_ofNat,BitVec.toNat_ofNat,Nat.mod_eq_of_lt (by omega),Nat.mod_eq_of_lt (by omega),qdH (by omega) (by omega)]
theorem band64 {a b:Nat} (ha:a<2^62) (hb:b<2^62):qw9 .i64 (a:Int) (b:Int)=((a&&& b:Nat):Int):=by
 have hab:a&&& b<2^62:=Nat.and_lt_two_pow a hb
 rw [qna,qtr,bv64,bv64,BitVec.toNat_and,BitVec.toNat_ofNat,BitVec.toNat_ofNat,Nat.mod_eq_of_lt (by omega),Nat.mod_eq_of_lt (by omega),qdH (by omega) (by omega)]
theorem shl64 {a k:Nat} (hk:k<62) (h:a * 2^k<2^62):qlS .i64 (a:Int) (k:Int)=((a * 2^k:Nat):Int):=by
 rw [qnd,qtr,Int.toNat_natCast,Nat.min_eq_left (by omega)]
 have e:(a:Int) * 2^k=((a * 2^k:Nat):Int):=by push_cast; rfl
 rw [e,qdH (by omega) (by omega)]
theorem shr64 {a k:Nat} (hk:k<62):qkW .i64 (a:Int) (k:Int)=((a / 2^k:Nat):Int):=by
 rw [qlH,qtr,Int.toNat_natCast,Nat.min_eq_left (by omega)]
 have e:(2:Int)^k=((2^k:Nat):Int):=by push_cast; rfl
 rw [e,Int.fdiv_eq_ediv_of_nonneg _ (Int.natCast_nonneg _)]
 push_cast; rfl
theorem mIdx_none {α β:Type} {xs:List (α×β)} {k:α} (h:¬qgN xs k<xs.length):∀p∈xs,p.1≠k:=fun p hp he=>by
 apply h
 unfold qgN
 exact List.findIdx_lt_length_of_exists ⟨p,hp,by simp [he]⟩
theorem mIdx_key {α β:Type} {xs:List (α×β)} {k:α} (h:qgN xs k<xs.length):(xs[qgN xs k]'h).1=k:=by
 unfold qgN at h⊢
 have:=List.findIdx_getElem (w:=h)
 simpa using this
theorem qjn {α β:Type} (p:α×β) (xs:List (α×β)) (k:α) (d:β):qge (p::xs) k d=open Classical in if p.1=k then p.2 else qge xs k d:=by
 rw [qk8,qk8]
 have:qgN (p::xs) k=open Classical in if p.1=k then 0 else qgN xs k+1:=by
  unfold qgN
  rw [List.findIdx_cons]
  by_cases h:p.1=k <;> simp [h]
 rw [this]
 by_cases h:p.1=k <;> simp [h]
theorem qp4 {α β:Type} (k:α) (d:β):qge ([]:List (α×β)) k d=d:=by rw [qk8]; rfl
theorem qxV {α β:Type} (k:α) (v:β):qlT ([]:List (α×β)) k v=[(k,v)]:=by rw [qlg]; rfl
theorem qvD {α β:Type} (p:α×β) (xs:List (α×β)) (k:α) (v:β):qlT (p::xs) k v=open Classical in if p.1=k then (p.1,v)::xs else p::qlT xs k v:=by
 rw [qlg,qlg]
 have:qgN (p::xs) k=open Classical in if p.1=k then 0 else qgN xs k+1:=by
  unfold qgN
  rw [List.findIdx_cons]
  by_cases h:p.1=k <;> simp [h]
 rw [this]
 by_cases h:p.1=k
 ·simp [h,qr4]
 ·simp only [h,if_false,List.length_cons,Nat.add_lt_add_iff_right]
  by_cases h2:qgN xs k<xs.length
  ·simp only [h2,if_true,qr4,List.getElem?_cons_succ,List.getElem?_eq_getElem h2,List.set_cons_succ]
  ·simp [h2]
theorem qhJ {α β:Type} (xs:List (α×β)) (k:α) (v:β) (k':α) (d:β):qge (qlT xs k v) k' d=open Classical in if k=k' then v else qge xs k' d:=by
 induction xs with
 |nil=>rw [qxV,qjn]
 |cons p r ih=>
  rw [qvD]
  by_cases h:p.1=k
  ·rw [if_pos h,qjn,qjn]
   by_cases h2:k=k'
   ·simp [h,h2]
   ·simp [h,h2]
  ·rw [if_neg h,qjn,qjn,ih]
   by_cases h2:p.1=k'
   ·have:¬k=k':=fun e=>h (h2.trans e.symm)
    simp [h2,this]
   ·simp [h2]
noncomputable def qrT {α:Type} (ks:List α):List (α×Int):=ks.foldl (fun m k=>qlT m k (qS .i64 (qge m k 0) 1)) []
theorem qwS {α:Type} :qrT ([]:List α)=[]:=rfl
theorem qn4 {α:Type} (ks:List α) (k:α):qrT (ks++[k])=qlT (qrT ks) k (qS .i64 (qge (qrT ks) k 0) 1):=by simp [qrT]
theorem qw5 {α:Type} (ks:List α) (h:ks.length<4611686018427387904) (k:α):0≤qge (qrT ks) k 0∧qge (qrT ks) k 0≤(ks.length:Int)∧(0<qge (qrT ks) k 0↔k∈ks):=by
 have key:∀(l:List α),l.length<4611686018427387904→∀k,0≤qge (qrT l.reverse) k 0∧qge (qrT l.reverse) k 0≤(l.length:Int)∧(0<qge (qrT l.reverse) k 0↔k∈l):=by
  intro l
  induction l with
  |nil=>intro _ k; simp [qwS,qp4]
  |cons a l ih=>
   intro hl k
   rw [List.length_cons] at hl
   rw [List.reverse_cons,qn4,qhJ]
   obtain ⟨h1,h2,h3⟩:=ih (by omega) a
   obtain ⟨g1,g2,g3⟩:=ih (by omega) k
   by_cases e:a=k
   ·subst e
    rw [if_pos rfl,qat (by omega) (by omega),List.length_cons]
    refine ⟨by omega,by omega,by simp; omega⟩
   ·rw [if_neg e,List.length_cons]
    refine ⟨g1,by omega,by rw [g3]; simp [Ne.symm e]⟩
 have:=key ks.reverse (by simpa using h) k
 simpa using this
theorem qpn {α:Type} (ks:List α) (h:ks.length<4611686018427387904) (k:α):ltI 1 (qge (qlT (qrT ks) k (qS .i64 (qge (qrT ks) k 0) 1)) k 0)=open Classical in decide (k∈ks):=by
 obtain ⟨h1,h2,h3⟩:=qw5 ks h k
 rw [qhJ,if_pos rfl,qat (by omega) (by omega),qbl]
 by_cases hk:k∈ks
 ·have:=h3.2 hk
  simp [hk]; omega
 ·have:¬0<qge (qrT ks) k 0:=fun e=>hk (h3.1 e)
  simp [hk]; omega
def qac {E:Type} (g:Nat→Option E):Nat→Option E
 |0=>none
 |n+1=>match qac g n with
  |some e=>some e
  |none=>g n
theorem qaP {E:Type} {g:Nat→Option E} : {n:Nat} →qac g n=none→∀i,i<n→g i=none
 |0,_,i,hi=>by omega
 |n+1,h,i,hi=>by
  simp only [qac] at h
  split at h
  ·cases h
  ·rename_i h0
   by_cases e:i=n
   ·rw [e]; exact h
   ·exact qaP h0 i (by omega)
theorem qc7 {E:Type} {g:Nat→Option E} {e:E} : {n:Nat} →qac g n=some e→∃i,i<n∧g i=some e∧qac g i=none
 |0,h=>by cases h
 |n+1,h=>by
  simp only [qac] at h
  split at h
  ·rename_i e' h0
   injection h with h
   subst h
   obtain ⟨i,h1,h2⟩:=qc7 h0
   exact ⟨i,by omega,h2⟩
  ·rename_i h0
   exact ⟨n,by omega,h,h0⟩
theorem qaj {S R E:Type} {step:(S→Option R)→S→Option R} {s0:S} (st:Nat→S) (n:Nat) (g:Nat→Option E) (out:E→Option R) (fin:Option R) (h0:st 0=s0)
  (hs:∀i,i<n→qac g i=none→∀ih,step ih (st i)=match g i with
   |some e=>out e
   |none=>ih (st (i+1)))
  (he:qac g n=none→∀ih,step ih (st n)=fin) {N:Nat} (hN:n<N):qab N step s0=match qac g n with
   |some e=>out e
   |none=>fin:=by
 rw [←h0]
 have:∀k i,i+k=n→qac g i=none→∀M,k<M→qab M step (st i)=match qac g n with
   |some e=>out e
   |none=>fin:=by
  intro k
  induction k with
  |zero=>
   intro i hi hg M hM
   obtain ⟨M,rfl⟩:∃m,M=m+1:=⟨M - 1,by omega⟩
   have hin:i=n:=by omega
   subst hin
   rw [qaN,hg]
   exact he hg _
  |succ k ih=>
   intro i hi hg M hM
   obtain ⟨M,rfl⟩:∃m,M=m+1:=⟨M - 1,by omega⟩
   rw [qaN,hs i (by omega) hg]
   cases hgi:g i with
   |none=>exact ih (i+1) (by omega) (by simp only [qac,hg,hgi]) M (by omega)
   |some e=>
    have:∀m,qac g (i+1+m)=some e:=by
     intro m
     induction m with
     |zero=>simp only [Nat.add_zero,qac,hg,hgi]
     |succ m ihm=>rw [←Nat.add_assoc]; simp only [qac,ihm]
    have:=this k
    rw [show i+1+k=n by omega] at this
    rw [this]
 exact this n 0 (by omega) rfl N hN
end Go.Vi
set_option linter.unusedSimpArgs false
set_option maxRecDepth 100000
namespace Go.Vi
noncomputable section
def qg2 {α:Type} (d:α) (N:Nat) (x:((List α)×(Int×(Int×(((α×(α×Unit))→(Option (Int×Unit)))×Unit))))):(Option (Unit×((List α)×Unit))):=
 (qab (S:=((List α)×(Int×Unit))) (R:=(Unit×((List α)×Unit))) N (fun ih0=>(fun p1=>(bif (ltI p1.2.1 x.2.2.1) then (qab (S:=((List α)×(Int×Unit))) (R:=(Unit×((List α)×Unit))) N (fun ih2=>(fun p3=>(bif (((!(ltI x.2.1 p3.2.1))||(inB p3.2.1 (qn p3.1)))&&(((!(ltI x.2.1 p3.2.1))||(inB (qT .i64 p3.2.1 1) (qn p3.1)))&&((!(ltI x.2.1 p3.2.1))||(qt (x.2.2.2.1 ((qi p3.1 p3.2.1 d),((qi p3.1 (qT .i64 p3.2.1 1) d),()))))))) then (bif ((ltI x.2.1 p3.2.1)&&(ltI (qr (x.2.2.2.1 ((qi p3.1 p3.2.1 d),((qi p3.1 (qT .i64 p3.2.1 1) d),()))) (0,())).1 0)) then (bif ((inB (qT .i64 p3.2.1 1) (qn p3.1))&&((inB p3.2.1 (qn p3.1))&&((inB p3.2.1 (qn p3.1))&&(inB (qT .i64 p3.2.1 1) (qn (qbZ p3.1 p3.2.1 (qi p3.1 (qT .i64 p3.2.1 1) d))))))) then (ih2 ((qbZ (qbZ p3.1 p3.2.1 (qi p3.1 (qT .i64 p3.2.1 1) d)) (qT .i64 p3.2.1 1) (qi p3.1 p3.2.1 d)),((qT .i64 p3.2.1 1),()))) else none) else (ih0 (p3.1,((qS .i64 p1.2.1 1),())))) else none))) (p1.1,(p1.2.1,()))) else (some ((),(p1.1,())))))) (x.1,((qS .i64 x.2.1 1),())))
def qiI {α:Type} (d:α) (N:Nat) (x:((List α)×(Int×(Int×(Int×(((α×(α×Unit))→(Option (Int×Unit)))×Unit)))))):(Option (Unit×((List α)×Unit))):=
 (qab (S:=((List α)×(Int×Unit))) (R:=(Unit×((List α)×Unit))) N (fun ih0=>(fun p1=>(bif (ltI p1.2.1 x.2.2.2.1) then (bif ((inB (qS .i64 x.2.2.1 p1.2.1) (qn p1.1))&&((inB (qS .i64 x.2.1 p1.2.1) (qn p1.1))&&((inB (qS .i64 x.2.1 p1.2.1) (qn p1.1))&&(inB (qS .i64 x.2.2.1 p1.2.1) (qn (qbZ p1.1 (qS .i64 x.2.1 p1.2.1) (qi p1.1 (qS .i64 x.2.2.1 p1.2.1) d))))))) then (ih0 ((qbZ (qbZ p1.1 (qS .i64 x.2.1 p1.2.1) (qi p1.1 (qS .i64 x.2.2.1 p1.2.1) d)) (qS .i64 x.2.2.1 p1.2.1) (qi p1.1 (qS .i64 x.2.1 p1.2.1) d)),((qS .i64 p1.2.1 1),()))) else none) else (some ((),(p1.1,())))))) (x.1,(0,())))
def qef {α:Type} (d:α) (N:Nat) (x:((List α)×(Int×(Int×(Int×(((α×(α×Unit))→(Option (Int×Unit)))×Unit)))))):(Option (Unit×((List α)×Unit))):=
 (qR (qT .i64 x.2.2.1 x.2.1) (fun y0=>(qab (S:=((List α)×(Int×(Int×Unit)))) (R:=(Unit×((List α)×Unit))) N (fun ih1=>(fun p2=>(bif (neI p2.2.1 p2.2.2.1) then (bif (bif (ltI p2.2.2.1 p2.2.1) then (qt (qiI d N (p2.1,((qT .i64 x.2.2.1 p2.2.1),(x.2.2.1,(p2.2.2.1,(x.2.2.2.2.1,()))))))) else (qt (qiI d N (p2.1,((qT .i64 x.2.2.1 p2.2.1),((qT .i64 (qS .i64 x.2.2.1 p2.2.2.1) p2.2.1),(p2.2.1,(x.2.2.2.2.1,())))))))) then (ih1 ((bif (ltI p2.2.2.1 p2.2.1) then (qr (qiI d N (p2.1,((qT .i64 x.2.2.1 p2.2.1),(x.2.2.1,(p2.2.2.1,(x.2.2.2.2.1,())))))) ((),(([]:List α),()))).2.1 else (qr (qiI d N (p2.1,((qT .i64 x.2.2.1 p2.2.1),((qT .i64 (qS .i64 x.2.2.1 p2.2.2.1) p2.2.1),(p2.2.1,(x.2.2.2.2.1,())))))) ((),(([]:List α),()))).2.1),((bif (ltI p2.2.2.1 p2.2.1) then (qT .i64 p2.2.1 p2.2.2.1) else p2.2.1),((bif (ltI p2.2.2.1 p2.2.1) then p2.2.2.1 else (qT .i64 p2.2.2.1 p2.2.1)),())))) else none) else (bif (qt (qiI d N (p2.1,((qT .i64 x.2.2.1 p2.2.1),(x.2.2.1,(p2.2.1,(x.2.2.2.2.1,()))))))) then (some ((),((qr (qiI d N (p2.1,((qT .i64 x.2.2.1 p2.2.1),(x.2.2.1,(p2.2.1,(x.2.2.2.2.1,())))))) ((),(([]:List α),()))).2.1,()))) else none)))) (x.1,(y0,((qT .i64 x.2.2.2.1 x.2.2.1),()))))))
def qos {α:Type} (d:α) (N:Nat) (Fs:((List α)×(Int×(Int×(Int×(((α×(α×Unit))→(Option (Int×Unit)))×Unit)))))→(Option (Unit×((List α)×Unit)))) (x:((List α)×(Int×(Int×(Int×(((α×(α×Unit))→(Option (Int×Unit)))×Unit)))))):(Option (Unit×((List α)×Unit))):=
 (bif (eqI (qT .i64 x.2.2.1 x.2.1) 1) then (qab (S:=((List α)×(Int×(Int×Unit)))) (R:=(Unit×((List α)×Unit))) N (fun ih0=>(fun p1=>(bif (ltI p1.2.1 p1.2.2.1) then (bif (leI 0 1) then (qR (qc1 .i64 (qkW .u64 (qc1 .u64 (qS .i64 p1.2.1 p1.2.2.1)) 1)) (fun y2=>(bif ((inB y2 (qn p1.1))&&((inB x.2.1 (qn p1.1))&&(qt (x.2.2.2.2.1 ((qi p1.1 y2 d),((qi p1.1 x.2.1 d),())))))) then (ih0 (p1.1,((bif (ltI (qr (x.2.2.2.2.1 ((qi p1.1 y2 d),((qi p1.1 x.2.1 d),()))) (0,())).1 0) then (qS .i64 y2 1) else p1.2.1),((bif (ltI (qr (x.2.2.2.2.1 ((qi p1.1 y2 d),((qi p1.1 x.2.1 d),()))) (0,())).1 0) then p1.2.2.1 else y2),())))) else none))) else none) else (qab (S:=((List α)×(Int×Unit))) (R:=(Unit×((List α)×Unit))) N (fun ih2=>(fun p3=>(bif (ltI p3.2.1 (qT .i64 p1.2.1 1)) then (bif ((inB (qS .i64 p3.2.1 1) (qn p3.1))&&((inB p3.2.1 (qn p3.1))&&((inB p3.2.1 (qn p3.1))&&(inB (qS .i64 p3.2.1 1) (qn (qbZ p3.1 p3.2.1 (qi p3.1 (qS .i64 p3.2.1 1) d))))))) then (ih2 ((qbZ (qbZ p3.1 p3.2.1 (qi p3.1 (qS .i64 p3.2.1 1) d)) (qS .i64 p3.2.1 1) (qi p3.1 p3.2.1 d)),((qS .i64 p3.2.1 1),()))) else none) else (some ((),(p3.1,())))))) (p1.1,(x.2.1,())))))) (x.1,(x.2.2.1,(x.2.2.2.1,())))) else (bif (eqI (qT .i64 x.2.2.2.1 x.2.2.1) 1) then (qab (S:=((List α)×(Int×(Int×Unit)))) (R:=(Unit×((List α)×Unit))) N (fun ih0=>(fun p1=>(bif (ltI p1.2.1 p1.2.2.1) then (bif (leI 0 1) then (qR (qc1 .i64 (qkW .u64 (qc1 .u64 (qS .i64 p1.2.1 p1.2.2.1)) 1)) (fun y2=>(bif ((inB x.2.2.1 (qn p1.1))&&((inB y2 (qn p1.1))&&(qt (x.2.2.2.2.1 ((qi p1.1 x.2.2.1 d),((qi p1.1 y2 d),())))))) then (ih0 (p1.1,((bif (!(ltI (qr (x.2.2.2.2.1 ((qi p1.1 x.2.2.1 d),((qi p1.1 y2 d),()))) (0,())).1 0)) then (qS .i64 y2 1) else p1.2.1),((bif (!(ltI (qr (x.2.2.2.2.1 ((qi p1.1 x.2.2.1 d),((qi p1.1 y2 d),()))) (0,())).1 0)) then p1.2.2.1 else y2),())))) else none))) else none) else (qab (S:=((List α)×(Int×Unit))) (R:=(Unit×((List α)×Unit))) N (fun ih2=>(fun p3=>(bif (ltI p1.2.1 p3.2.1) then (bif ((inB (qT .i64 p3.2.1 1) (qn p3.1))&&((inB p3.2.1 (qn p3.1))&&((inB p3.2.1 (qn p3.1))&&(inB (qT .i64 p3.2.1 1) (qn (qbZ p3.1 p3.2.1 (qi p3.1 (qT .i64 p3.2.1 1) d))))))) then (ih2 ((qbZ (qbZ p3.1 p3.2.1 (qi p3.1 (qT .i64 p3.2.1 1) d)) (qT .i64 p3.2.1 1) (qi p3.1 p3.2.1 d)),((qT .i64 p3.2.1 1),()))) else none) else (some ((),(p3.1,())))))) (p1.1,(x.2.2.1,())))))) (x.1,(x.2.1,(x.2.2.1,())))) else (bif (leI 0 1) then (qR (qc1 .i64 (qkW .u64 (qc1 .u64 (qS .i64 x.2.1 x.2.2.2.1)) 1)) (fun y0=>(qR (qS .i64 y0 x.2.2.1) (fun y1=>(qR (bif (ltI y0 x.2.2.1) then (qT .i64 y1 x.2.2.2.1) else x.2.1) (fun y2=>(qR (bif (ltI y0 x.2.2.1) then y0 else x.2.2.1) (fun y3=>(qab (S:=((List α)×(Int×(Int×Unit)))) (R:=(Unit×((List α)×Unit))) N (fun ih4=>(fun p5=>(bif (ltI p5.2.1 p5.2.2.1) then (bif (leI 0 1) then (qR (qc1 .i64 (qkW .u64 (qc1 .u64 (qS .i64 p5.2.1 p5.2.2.1)) 1)) (fun y6=>(bif ((inB (qT .i64 (qT .i64 y1 1) y6) (qn p5.1))&&((inB y6 (qn p5.1))&&(qt (x.2.2.2.2.1 ((qi p5.1 (qT .i64 (qT .i64 y1 1) y6) d),((qi p5.1 y6 d),())))))) then (ih4 (p5.1,((bif (!(ltI (qr (x.2.2.2.2.1 ((qi p5.1 (qT .i64 (qT .i64 y1 1) y6) d),((qi p5.1 y6 d),()))) (0,())).1 0)) then (qS .i64 y6 1) else p5.2.1),((bif (!(ltI (qr (x.2.2.2.2.1 ((qi p5.1 (qT .i64 (qT .i64 y1 1) y6) d),((qi p5.1 y6 d),()))) (0,())).1 0)) then p5.2.2.1 else y6),())))) else none))) else none) else (qR (qT .i64 y1 p5.2.1) (fun y6=>(qR ((ltI p5.2.1 x.2.2.1)&&(ltI x.2.2.1 y6)) (fun y7=>(bif (bif y7 then (qt (qef d N (p5.1,(p5.2.1,(x.2.2.1,(y6,(x.2.2.2.2.1,()))))))) else true) then (qR ((ltI x.2.1 p5.2.1)&&(ltI p5.2.1 y0)) (fun y8=>(bif (bif y8 then (qt (Fs ((bif y7 then (qr (qef d N (p5.1,(p5.2.1,(x.2.2.1,(y6,(x.2.2.2.2.1,())))))) ((),(([]:List α),()))).2.1 else p5.1),(x.2.1,(p5.2.1,(y0,(x.2.2.2.2.1,()))))))) else true) then (qR ((ltI y0 y6)&&(ltI y6 x.2.2.2.1)) (fun y9=>(bif (bif y9 then (qt (Fs ((bif y8 then (qr (Fs ((bif y7 then (qr (qef d N (p5.1,(p5.2.1,(x.2.2.1,(y6,(x.2.2.2.2.1,())))))) ((),(([]:List α),()))).2.1 else p5.1),(x.2.1,(p5.2.1,(y0,(x.2.2.2.2.1,())))))) ((),(([]:List α),()))).2.1 else (bif y7 then (qr (qef d N (p5.1,(p5.2.1,(x.2.2.1,(y6,(x.2.2.2.2.1,())))))) ((),(([]:List α),()))).2.1 else p5.1)),(y0,(y6,(x.2.2.2.1,(x.2.2.2.2.1,()))))))) else true) then (some ((),((bif y9 then (qr (Fs ((bif y8 then (qr (Fs ((bif y7 then (qr (qef d N (p5.1,(p5.2.1,(x.2.2.1,(y6,(x.2.2.2.2.1,())))))) ((),(([]:List α),()))).2.1 else p5.1),(x.2.1,(p5.2.1,(y0,(x.2.2.2.2.1,())))))) ((),(([]:List α),()))).2.1 else (bif y7 then (qr (qef d N (p5.1,(p5.2.1,(x.2.2.1,(y6,(x.2.2.2.2.1,())))))) ((),(([]:List α),()))).2.1 else p5.1)),(y0,(y6,(x.2.2.2.1,(x.2.2.2.2.1,())))))) ((),(([]:List α),()))).2.1 else (bif y8 then (qr (Fs ((bif y7 then (qr (qef d N (p5.1,(p5.2.1,(x.2.2.1,(y6,(x.2.2.2.2.1,())))))) ((),(([]:List α),()))).2.1 else p5.1),(x.2.1,(p5.2.1,(y0,(x.2.2.2.2.1,())))))) ((),(([]:List α),()))).2.1 else (bif y7 then (qr (qef d N (p5.1,(p5.2.1,(x.2.2.1,(y6,(x.2.2.2.2.1,())))))) ((),(([]:List α),()))).2.1 else p5.1))),()))) else none))) else none))) else none)))))))) (x.1,(y2,(y3,())))))))))))) else none)))
def qgG {α:Type} (d:α) (N:Nat) (M:Nat):((List α)×(Int×(Int×(Int×(((α×(α×Unit))→(Option (Int×Unit)))×Unit)))))→(Option (Unit×((List α)×Unit))):=
 Nat.rec (motive:=fun _=>((List α)×(Int×(Int×(Int×(((α×(α×Unit))→(Option (Int×Unit)))×Unit)))))→(Option (Unit×((List α)×Unit)))) (fun _=>none) (fun _ Fs=>qos d N Fs) M
def qmH {α:Type} (d:α) (N:Nat):((List α)×(Int×(Int×(Int×(((α×(α×Unit))→(Option (Int×Unit)))×Unit)))))→(Option (Unit×((List α)×Unit))):=qgG d N N
def qmE {α:Type} (d:α) (N:Nat) (x:((List α)×(Int×(((α×(α×Unit))→(Option (Int×Unit)))×Unit)))):(Option (Unit×((List α)×Unit))):=
 (qab (S:=((List α)×(Int×(Int×Unit)))) (R:=(Unit×((List α)×Unit))) N (fun ih0=>(fun p1=>(bif (leI p1.2.2.1 x.2.1) then (bif (qt (qg2 d N (p1.1,(p1.2.1,(p1.2.2.1,(x.2.2.1,())))))) then (qR (qr (qg2 d N (p1.1,(p1.2.1,(p1.2.2.1,(x.2.2.1,()))))) ((),(([]:List α),()))).2.1 (fun ys2=>(qR p1.2.2.1 (fun y3=>(ih0 (ys2,(y3,((qS .i64 y3 20),())))))))) else none) else (bif (qt (qg2 d N (p1.1,(p1.2.1,(x.2.1,(x.2.2.1,())))))) then (qab (S:=((List α)×(Int×Unit))) (R:=(Unit×((List α)×Unit))) N (fun ih2=>(fun p3=>(bif (ltI p3.2.1 x.2.1) then (qab (S:=((List α)×(Int×(Int×Unit)))) (R:=(Unit×((List α)×Unit))) N (fun ih4=>(fun p5=>(bif (leI p5.2.2.1 x.2.1) then (bif (qt (qmH d N (p5.1,(p5.2.1,((qS .i64 p5.2.1 p3.2.1),(p5.2.2.1,(x.2.2.1,()))))))) then (qR (qr (qmH d N (p5.1,(p5.2.1,((qS .i64 p5.2.1 p3.2.1),(p5.2.2.1,(x.2.2.1,())))))) ((),(([]:List α),()))).2.1 (fun ys6=>(qR p5.2.2.1 (fun y7=>(ih4 (ys6,(y7,((qS .i64 y7 (qol .i64 2 p3.2.1)),())))))))) else none) else (qR (qS .i64 p5.2.1 p3.2.1) (fun y6=>(bif (bif (ltI y6 x.2.1) then (qt (qmH d N (p5.1,(p5.2.1,(y6,(x.2.1,(x.2.2.1,()))))))) else true) then (ih2 ((bif (ltI y6 x.2.1) then (qr (qmH d N (p5.1,(p5.2.1,(y6,(x.2.1,(x.2.2.1,())))))) ((),(([]:List α),()))).2.1 else p5.1),((qol .i64 p3.2.1 2),()))) else none)))))) (p3.1,(0,((qol .i64 2 p3.2.1),())))) else (some ((),(p3.1,())))))) ((qr (qg2 d N (p1.1,(p1.2.1,(x.2.1,(x.2.2.1,()))))) ((),(([]:List α),()))).2.1,(20,()))) else none)))) (x.1,(0,(20,()))))
def qot {α:Type} (d:α) (N:Nat) (x:((List α)×(((α×(α×Unit))→(Option (Int×Unit)))×Unit))):(Option (Unit×((List α)×Unit))):=
 (bif (qt (qmE d N (x.1,((qn x.1),(x.2.1,()))))) then (some ((),((qr (qmE d N (x.1,((qn x.1),(x.2.1,())))) ((),(([]:List α),()))).2.1,()))) else none)
theorem qcW {S R:Type} {st1 st2:(S→Option R)→S→Option R} (μ:S→Nat) (I:S→Prop) (Q:Option R→Option R→Prop)
  (hs:∀ih1 ih2 p,I p→(∀q,I q→μ q<μ p→Q (ih1 q) (ih2 q))→Q (st1 ih1 p) (st2 ih2 p)):∀(N:Nat) (p:S),I p→μ p<N→Q (qab N st1 p) (qab N st2 p)
 |0,p,_,h=>by omega
 |N+1,p,hI,h=>by
  rw [qaN,qaN]
  exact hs _ _ p hI fun q hq hm=>qcW μ I Q hs N q hq (by omega)
structure Ck {α:Type} (P:α→Prop) (n:Nat) (ys:List α):Prop where
 len:ys.length=n
 all:∀x∈ys,P x
def qvO {α:Type} (P:α→Prop) (φ ψ:(α×(α×Unit))→Option (Int×Unit)):Prop:=∀a b,P a→P b→∃c e,φ (a,(b,()))=some (c,())∧ψ (a,(b,()))=some (e,())∧(c<0↔e<0)
def Res {α:Type} (P:α→Prop) (n:Nat) (r s:Option (Unit×(List α×Unit))):Prop:=∃out,Ck P n out∧r=some ((),(out,()))∧s=some ((),(out,()))
theorem Ck.inB {α:Type} {P:α→Prop} {n:Nat} {ys:List α} (h:Ck P n ys) {i:Int} (h0:0≤i) (h1:i<(n:Int)):inB i (qn ys)=true:=by
 rw [qcZ,qj,h.len]; simp; omega
theorem Ck.get {α:Type} {P:α→Prop} {n:Nat} {ys:List α} (h:Ck P n ys) (d:α) {i:Int} (h0:0≤i) (h1:i<(n:Int)):P (qi ys i d):=by
 obtain ⟨k,rfl⟩:∃k:Nat,i=(k:Int):=⟨i.toNat,by omega⟩
 have hk:k<ys.length:=by rw [h.len]; omega
 rw [qF _ hk]
 exact h.all _ (List.getElem_mem hk)
theorem Ck.set {α:Type} {P:α→Prop} {n:Nat} {ys:List α} (h:Ck P n ys) (i:Int) {v:α} (hv:P v):Ck P n (qbZ ys i v):=by
 rw [qbj]
 refine ⟨by rw [List.length_set]; exact h.len,fun x hx=> ?_⟩
 rcases List.mem_or_eq_of_mem_set hx with hx|rfl
 ·exact h.all x hx
 ·exact hv
theorem ltT {x y:Int} (h:x<y):ltI x y=true:=by rw [qbl]; exact decide_eq_true h
theorem ltF {x y:Int} (h:¬x<y):ltI x y=false:=by rw [qbl]; exact decide_eq_false h
theorem leT {x y:Int} (h:x≤y):leI x y=true:=by rw [qa3]; exact decide_eq_true h
theorem leF {x y:Int} (h:¬x≤y):leI x y=false:=by rw [qa3]; exact decide_eq_false h
theorem eqT {x y:Int} (h:x=y):eqI x y=true:=by rw [qbC]; exact decide_eq_true h
theorem eqF {x y:Int} (h:¬x=y):eqI x y=false:=by rw [qbC]; exact decide_eq_false h
theorem neT {x y:Int} (h:¬x=y):neI x y=true:=by rw [qaG]; simp [h]
theorem neF {x y:Int} (h:x=y):neI x y=false:=by rw [qaG]; simp [h]
theorem qk4 {x y:Int} (hx:0≤x) (hy:0≤y) (h:x+y≤4398046511104):qc1 .i64 (qkW .u64 (qc1 .u64 (qS .i64 x y)) 1)=(x+y) / 2:=by
 have e1:qS .i64 x y=x+y:=qat (by omega) (by omega)
 have e2:qc1 .u64 (x+y)=x+y:=by rw [qfA,qsX]; omega
 have e3:qkW .u64 (x+y) 1=(x+y) / 2:=by
  rw [qlH]
  have:(2:Int)^ (min (1:Int).toNat IntKind.u64.bits)=2:=by decide
  rw [this,Int.fdiv_eq_ediv_of_nonneg _ (by omega)]
 rw [e1,e2,e3,qsh (by omega) (by omega)]
section
variable {α:Type} {P:α→Prop} {n:Nat} (d:α) {φ ψ:(α×(α×Unit))→Option (Int×Unit)} {N:Nat}
theorem qrR (hφ:qvO P φ ψ) (hn:n≤1099511627776) (hN:n+1<N) {ys:List α} (h:Ck P n ys) {a b:Int} (ha:0≤a) (ha2:a≤(n:Int)) (hb:b≤(n:Int)):Res P n (qg2 d N (ys,(a,(b,(φ,()))))) (qg2 d N (ys,(a,(b,(ψ,()))))):=by
 simp only [qg2]
 have ea:qS .i64 a 1=a+1:=qat (by omega) (by omega)
 rw [ea]
 refine qcW (S:=List α×(Int×Unit)) (fun p=>(b - p.2.1).toNat) (fun p=>Ck P n p.1∧a+1≤p.2.1∧p.2.1≤(n:Int)+1) (Res P n) ?_ N _ ⟨h,by simp only; omega,by simp only; omega⟩ (by simp only; omega)
 rintro ih1 ih2 ⟨ys,i,⟨⟩⟩ ⟨h,hi,hi2⟩ hih
 simp only at h hi hi2 hih⊢
 by_cases hc:i<b
 ·simp only [ltT hc,cond_true]
  refine qcW (S:=List α×(Int×Unit)) (fun p=>(p.2.1 - a).toNat) (fun p=>Ck P n p.1∧a≤p.2.1∧p.2.1≤i) (Res P n) ?_ N _ ⟨h,by simp only; omega,by simp only; omega⟩ (by simp only; omega)
  rintro jh1 jh2 ⟨zs,j,⟨⟩⟩ ⟨hz,hj1,hj2⟩ hjh
  simp only at hz hj1 hj2 hjh⊢
  have ei:qS .i64 i 1=i+1:=qat (by omega) (by omega)
  by_cases hja:a<j
  ·have s1:qT .i64 j 1=j - 1:=qam (by omega) (by omega)
   obtain ⟨c,e,e1,e2,e3⟩:=hφ _ _ (hz.get d (i:=j) (by omega) (by omega)) (hz.get d (i:=j - 1) (by omega) (by omega))
   have b1:=hz.inB (i:=j) (by omega) (by omega)
   have b2:=hz.inB (i:=j - 1) (by omega) (by omega)
   have k1:=hz.set j (hz.get d (i:=j - 1) (by omega) (by omega))
   have b3:=k1.inB (i:=j - 1) (by omega) (by omega)
   have k2:=k1.set (j - 1) (hz.get d (i:=j) (by omega) (by omega))
   simp only [ltT hja,s1,b1,b2,e1,e2,qf,qh,Bool.not_true,Bool.false_or,Bool.and_self,cond_true,Bool.true_and]
   by_cases hc0:c<0
   ·simp only [ltT hc0,ltT (e3.1 hc0),b3,cond_true]
    exact hjh _ ⟨k2,by simp only; omega,by simp only; omega⟩ (by simp only; omega)
   ·simp only [ltF hc0,ltF (fun q=>hc0 (e3.2 q)),cond_false,ei]
    exact hih _ ⟨hz,by simp only; omega,by simp only; omega⟩ (by simp only; omega)
  ·simp only [ltF hja,Bool.not_false,Bool.true_or,Bool.and_self,cond_true,Bool.false_and,cond_false,ei]
   exact hih _ ⟨hz,by simp only; omega,by simp only; omega⟩ (by simp only; omega)
 ·simp only [ltF hc,cond_false]
  exact ⟨ys,h,rfl,rfl⟩
theorem qoI (hn:n≤1099511627776) (hN:n+1<N) {ys:List α} (h:Ck P n ys) {a b m:Int} (ha:0≤a) (hb:0≤b) (hm:0≤m) (ha2:a+m≤(n:Int)) (hb2:b+m≤(n:Int)):Res P n (qiI d N (ys,(a,(b,(m,(φ,())))))) (qiI d N (ys,(a,(b,(m,(ψ,())))))):=by
 simp only [qiI]
 refine qcW (S:=List α×(Int×Unit)) (fun p=>(m - p.2.1).toNat) (fun p=>Ck P n p.1∧0≤p.2.1) (Res P n) ?_ N _ ⟨h,by simp only; omega⟩ (by simp only; omega)
 rintro ih1 ih2 ⟨ys,i,⟨⟩⟩ ⟨h,hi⟩ hih
 simp only at h hi hih⊢
 by_cases hc:i<m
 ·have e1:qS .i64 a i=a+i:=qat (by omega) (by omega)
  have e2:qS .i64 b i=b+i:=qat (by omega) (by omega)
  have e3:qS .i64 i 1=i+1:=qat (by omega) (by omega)
  have b1:=h.inB (i:=a+i) (by omega) (by omega)
  have b2:=h.inB (i:=b+i) (by omega) (by omega)
  have k1:=h.set (a+i) (h.get d (i:=b+i) (by omega) (by omega))
  have b3:=k1.inB (i:=b+i) (by omega) (by omega)
  have k2:=k1.set (b+i) (h.get d (i:=a+i) (by omega) (by omega))
  simp only [ltT hc,e1,e2,e3,b1,b2,b3,Bool.and_self,cond_true]
  exact hih _ ⟨k2,by simp only; omega⟩ (by simp only; omega)
 ·simp only [ltF hc,cond_false]
  exact ⟨ys,h,rfl,rfl⟩
theorem qwg (hn:n≤1099511627776) (hN:2 * n+1<N) {ys:List α} (h:Ck P n ys) {a m b:Int} (ha:0≤a) (h1:a<m) (h2:m<b) (hb:b≤(n:Int)):Res P n (qef d N (ys,(a,(m,(b,(φ,())))))) (qef d N (ys,(a,(m,(b,(ψ,())))))):=by
 have e1:qT .i64 m a=m - a:=qam (by omega) (by omega)
 have e2:qT .i64 b m=b - m:=qam (by omega) (by omega)
 simp only [qef,qG,e1,e2]
 refine qcW (S:=List α×(Int×(Int×Unit))) (fun p=>(p.2.1+p.2.2.1).toNat) (fun p=>Ck P n p.1∧1≤p.2.1∧p.2.1≤m - a∧1≤p.2.2.1∧p.2.2.1≤b - m) (Res P n) ?_ N _ ⟨h,by simp only; omega,by simp only; omega,by simp only; omega,by simp only; omega⟩ (by simp only; omega)
 rintro ih1 ih2 ⟨ys,i,j,⟨⟩⟩ ⟨h,hi,hi2,hj,hj2⟩ hih
 simp only at h hi hi2 hj hj2 hih⊢
 have s1:qT .i64 m i=m - i:=qam (by omega) (by omega)
 by_cases hc:i=j
 ·obtain ⟨out,k1,k2,k3⟩:=qoI (φ:=φ) (ψ:=ψ) d hn (by omega:n+1<N) h (a:=m - i) (b:=m) (m:=i) (by omega) (by omega) (by omega) (by omega) (by omega)
  simp only [neF hc,cond_false,s1,k2,k3,qf,qh,cond_true]
  exact ⟨out,k1,rfl,rfl⟩
 ·have s2:qS .i64 m j=m+j:=qat (by omega) (by omega)
  have s3:qT .i64 (m+j) i=m+j - i:=qam (by omega) (by omega)
  have s4:qT .i64 i j=i - j:=qam (by omega) (by omega)
  have s5:qT .i64 j i=j - i:=qam (by omega) (by omega)
  by_cases hq:j<i
  ·obtain ⟨out,k1,k2,k3⟩:=qoI (φ:=φ) (ψ:=ψ) d hn (by omega:n+1<N) h (a:=m - i) (b:=m) (m:=j) (by omega) (by omega) (by omega) (by omega) (by omega)
   simp only [neT hc,ltT hq,cond_true,s1,s4,k2,k3,qf,qh]
   exact hih _ ⟨k1,by simp only; omega,by simp only; omega,by simp only; omega,by simp only; omega⟩ (by simp only; omega)
  ·obtain ⟨out,k1,k2,k3⟩:=qoI (φ:=φ) (ψ:=ψ) d hn (by omega:n+1<N) h (a:=m - i) (b:=m+j - i) (m:=i) (by omega) (by omega) (by omega) (by omega) (by omega)
   simp only [neT hc,ltF hq,cond_true,cond_false,s1,s2,s3,s5,k2,k3,qf,qh]
   exact hih _ ⟨k1,by simp only; omega,by simp only; omega,by simp only; omega,by simp only; omega⟩ (by simp only; omega)
theorem qpd (hφ:qvO P φ ψ) (hn:n≤1099511627776) (hN:2 * n+1<N):∀(M:Nat) (ys:List α),Ck P n ys→∀(a m b:Int),0≤a→a<m→m<b→b≤(n:Int)→(b - a).toNat<M→Res P n (qgG d N M (ys,(a,(m,(b,(φ,())))))) (qgG d N M (ys,(a,(m,(b,(ψ,()))))))
 |0,_,_,_,_,_,_,_,_,_,h=>by omega
 |M+1,ys,h,a,m,b,ha,h1,h2,hb,hM=>by
  have ih:=qpd hφ hn hN M
  have unf:∀χ,qgG d N (M+1) (ys,(a,(m,(b,(χ,())))))=qos d N (qgG d N M) (ys,(a,(m,(b,(χ,()))))):=fun _=>rfl
  rw [unf,unf]
  have e1:qT .i64 m a=m - a:=qam (by omega) (by omega)
  have e2:qT .i64 b m=b - m:=qam (by omega) (by omega)
  have l01:leI 0 1=true:=leT (by omega)
  simp only [qos,qG,e1,e2,l01,cond_true]
  by_cases q1:m - a=1
  ·simp only [eqT q1,cond_true]
   refine qcW (S:=List α×(Int×(Int×Unit))) (fun p=>(p.2.2.1 - p.2.1).toNat) (fun p=>Ck P n p.1∧m≤p.2.1∧p.2.1≤b∧p.2.2.1≤b) (Res P n) ?_ N _ ⟨h,by simp only; omega,by simp only; omega,by simp only; omega⟩ (by simp only; omega)
   rintro ih1 ih2 ⟨ys,i,j,⟨⟩⟩ ⟨h,hi,hi2,hj⟩ hih
   simp only at h hi hi2 hj hih⊢
   by_cases hc:i<j
   ·have em:=qk4 (x:=i) (y:=j) (by omega) (by omega) (by omega)
    have em1:qS .i64 ((i+j) / 2) 1=(i+j) / 2+1:=qat (by omega) (by omega)
    obtain ⟨c,e,e3,e4,e5⟩:=hφ _ _ (h.get d (i:=(i+j) / 2) (by omega) (by omega)) (h.get d (i:=a) (by omega) (by omega))
    simp only [ltT hc,cond_true,em,em1,h.inB (i:=(i+j) / 2) (by omega) (by omega),h.inB (i:=a) (by omega) (by omega),e3,e4,qf,qh,Bool.and_self]
    by_cases hc0:c<0
    ·simp only [ltT hc0,ltT (e5.1 hc0),cond_true]
     exact hih _ ⟨h,by simp only; omega,by simp only; omega,by simp only; omega⟩ (by simp only; omega)
    ·simp only [ltF hc0,ltF (fun q=>hc0 (e5.2 q)),cond_false]
     exact hih _ ⟨h,by simp only; omega,by simp only; omega,by simp only; omega⟩ (by simp only; omega)
   ·simp only [ltF hc,cond_false]
    have ei:qT .i64 i 1=i - 1:=qam (by omega) (by omega)
    rw [ei]
    refine qcW (S:=List α×(Int×Unit)) (fun p=>(i - p.2.1).toNat) (fun p=>Ck P n p.1∧a≤p.2.1) (Res P n) ?_ N _ ⟨h,by simp only; omega⟩ (by simp only; omega)
    rintro jh1 jh2 ⟨zs,k,⟨⟩⟩ ⟨hz,hk⟩ hjh
    simp only at hz hk hjh⊢
    by_cases hk2:k<i - 1
    ·have s1:qS .i64 k 1=k+1:=qat (by omega) (by omega)
     have k1:=hz.set k (hz.get d (i:=k+1) (by omega) (by omega))
     have k2:=k1.set (k+1) (hz.get d (i:=k) (by omega) (by omega))
     simp only [ltT hk2,s1,hz.inB (i:=k) (by omega) (by omega),hz.inB (i:=k+1) (by omega) (by omega),k1.inB (i:=k+1) (by omega) (by omega),Bool.and_self,cond_true]
     exact hjh _ ⟨k2,by simp only; omega⟩ (by simp only; omega)
    ·simp only [ltF hk2,cond_false]
     exact ⟨zs,hz,rfl,rfl⟩
  simp only [eqF q1,cond_false]
  by_cases q2:b - m=1
  ·simp only [eqT q2,cond_true]
   refine qcW (S:=List α×(Int×(Int×Unit))) (fun p=>(p.2.2.1 - p.2.1).toNat) (fun p=>Ck P n p.1∧a≤p.2.1∧p.2.1≤m∧p.2.2.1≤m) (Res P n) ?_ N _ ⟨h,by simp only; omega,by simp only; omega,by simp only; omega⟩ (by simp only; omega)
   rintro ih1 ih2 ⟨ys,i,j,⟨⟩⟩ ⟨h,hi,hi2,hj⟩ hih
   simp only at h hi hi2 hj hih⊢
   by_cases hc:i<j
   ·have em:=qk4 (x:=i) (y:=j) (by omega) (by omega) (by omega)
    have em1:qS .i64 ((i+j) / 2) 1=(i+j) / 2+1:=qat (by omega) (by omega)
    obtain ⟨c,e,e3,e4,e5⟩:=hφ _ _ (h.get d (i:=m) (by omega) (by omega)) (h.get d (i:=(i+j) / 2) (by omega) (by omega))
    simp only [ltT hc,cond_true,em,em1,h.inB (i:=(i+j) / 2) (by omega) (by omega),h.inB (i:=m) (by omega) (by omega),e3,e4,qf,qh,Bool.and_self]
    by_cases hc0:c<0
    ·simp only [ltT hc0,ltT (e5.1 hc0),Bool.not_true,cond_false]
     exact hih _ ⟨h,by simp only; omega,by simp only; omega,by simp only; omega⟩ (by simp only; omega)
    ·simp only [ltF hc0,ltF (fun q=>hc0 (e5.2 q)),Bool.not_false,cond_true]
     exact hih _ ⟨h,by simp only; omega,by simp only; omega,by simp only; omega⟩ (by simp only; omega)
   ·simp only [ltF hc,cond_false]
    refine qcW (S:=List α×(Int×Unit)) (fun p=>(p.2.1 - i).toNat) (fun p=>Ck P n p.1∧p.2.1≤m) (Res P n) ?_ N _ ⟨h,by simp only; omega⟩ (by simp only; omega)
    rintro jh1 jh2 ⟨zs,k,⟨⟩⟩ ⟨hz,hk⟩ hjh
    simp only at hz hk hjh⊢
    by_cases hk2:i<k
    ·have s1:qT .i64 k 1=k - 1:=qam (by omega) (by omega)
     have k1:=hz.set k (hz.get d (i:=k - 1) (by omega) (by omega))
     have k2:=k1.set (k - 1) (hz.get d (i:=k) (by omega) (by omega))
     simp only [ltT hk2,s1,hz.inB (i:=k) (by omega) (by omega),hz.inB (i:=k - 1) (by omega) (by omega),k1.inB (i:=k - 1) (by omega) (by omega),Bool.and_self,cond_true]
     exact hjh _ ⟨k2,by simp only; omega⟩ (by simp only; omega)
    ·simp only [ltF hk2,cond_false]
     exact ⟨zs,hz,rfl,rfl⟩
  simp only [eqF q2,cond_false]
  have em:=qk4 (x:=a) (y:=b) (by omega) (by omega) (by omega)
  rw [em]
  generalize hmid:(a+b) / 2=mid
  have hm1:a<mid:=by omega
  have hm2:mid<b:=by omega
  have en:qS .i64 mid m=mid+m:=qat (by omega) (by omega)
  have en2:qT .i64 (mid+m) b=mid+m - b:=qam (by omega) (by omega)
  have en3:qT .i64 (mid+m) 1=mid+m - 1:=qam (by omega) (by omega)
  simp only [en,en2,en3]
  obtain ⟨st,r,hst,hr,g1,g2,g3,g4⟩:∃st r:Int,(bif ltI mid m then mid+m - b else a)=st∧(bif ltI mid m then mid else m)=r∧a≤st∧st≤r∧r≤mid∧r≤m∧mid+m - st≤b:=by
   by_cases hq:mid<m
   ·exact ⟨_,_,rfl,rfl,by rw [ltT hq]; simp only [cond_true]; omega⟩
   ·exact ⟨_,_,rfl,rfl,by rw [ltF hq]; simp only [cond_false]; omega⟩
  obtain ⟨g4,g5⟩:=g4
  simp only [hst,hr]
  refine qcW (S:=List α×(Int×(Int×Unit))) (fun p=>(p.2.2.1 - p.2.1).toNat) (fun p=>Ck P n p.1∧st≤p.2.1∧p.2.1≤r∧p.2.2.1≤r) (Res P n) ?_ N _ ⟨h,by simp only; omega,by simp only; omega,by simp only; omega⟩ (by simp only; omega)
  rintro ih1 ih2 ⟨ys,i,j,⟨⟩⟩ ⟨h,hi,hi2,hj⟩ hih
  simp only at h hi hi2 hj hih⊢
  by_cases hc:i<j
  ·have em:=qk4 (x:=i) (y:=j) (by omega) (by omega) (by omega)
   have em1:qS .i64 ((i+j) / 2) 1=(i+j) / 2+1:=qat (by omega) (by omega)
   have em2:qT .i64 (mid+m - 1) ((i+j) / 2)=mid+m - 1 - (i+j) / 2:=qam (by omega) (by omega)
   obtain ⟨c,e,e3,e4,e5⟩:=hφ _ _ (h.get d (i:=mid+m - 1 - (i+j) / 2) (by omega) (by omega)) (h.get d (i:=(i+j) / 2) (by omega) (by omega))
   simp only [ltT hc,cond_true,em,em1,em2,h.inB (i:=mid+m - 1 - (i+j) / 2) (by omega) (by omega),h.inB (i:=(i+j) / 2) (by omega) (by omega),e3,e4,qf,qh,Bool.and_self]
   by_cases hc0:c<0
   ·simp only [ltT hc0,ltT (e5.1 hc0),Bool.not_true,cond_false]
    exact hih _ ⟨h,by simp only; omega,by simp only; omega,by simp only; omega⟩ (by simp only; omega)
   ·simp only [ltF hc0,ltF (fun q=>hc0 (e5.2 q)),Bool.not_false,cond_true]
    exact hih _ ⟨h,by simp only; omega,by simp only; omega,by simp only; omega⟩ (by simp only; omega)
  ·have ee:qT .i64 (mid+m) i=mid+m - i:=qam (by omega) (by omega)
   simp only [ltF hc,cond_false,ee]
   obtain ⟨zs,z1,z2,z3,z4⟩:∃zs,Ck P n zs∧(bif (ltI i m&&ltI m (mid+m - i)) then qt (qef d N (ys,(i,(m,(mid+m - i,(φ,())))))) else true)=true∧(bif (ltI i m&&ltI m (mid+m - i)) then qt (qef d N (ys,(i,(m,(mid+m - i,(ψ,())))))) else true)=true∧(bif (ltI i m&&ltI m (mid+m - i)) then (qr (qef d N (ys,(i,(m,(mid+m - i,(φ,())))))) ((),(([]:List α),()))).2.1 else ys)=zs∧(bif (ltI i m&&ltI m (mid+m - i)) then (qr (qef d N (ys,(i,(m,(mid+m - i,(ψ,())))))) ((),(([]:List α),()))).2.1 else ys)=zs:=by
    by_cases hq:i<m∧m<mid+m - i
    ·obtain ⟨out,k1,k2,k3⟩:=qwg (φ:=φ) (ψ:=ψ) d hn hN h (a:=i) (m:=m) (b:=mid+m - i) (by omega) hq.1 hq.2 (by omega)
     exact ⟨out,k1,by simp only [ltT hq.1,ltT hq.2,Bool.and_self,cond_true,k2,k3,qf,qh,and_self]⟩
    ·have e:(ltI i m&&ltI m (mid+m - i))=false:=by
      by_cases hq1:i<m
      ·rw [ltF (fun hq2=>hq ⟨hq1,hq2⟩),Bool.and_false]
      ·rw [ltF hq1,Bool.false_and]
     exact ⟨ys,h,by simp only [e,cond_false,and_self]⟩
   obtain ⟨z4,z5⟩:=z4
   simp only [z2,z3,z4,z5,cond_true]
   obtain ⟨ws,w1,w2,w3,w4,w5⟩:∃ws,Ck P n ws∧(bif (ltI a i&&ltI i mid) then qt (qgG d N M (zs,(a,(i,(mid,(φ,())))))) else true)=true∧(bif (ltI a i&&ltI i mid) then qt (qgG d N M (zs,(a,(i,(mid,(ψ,())))))) else true)=true∧(bif (ltI a i&&ltI i mid) then (qr (qgG d N M (zs,(a,(i,(mid,(φ,())))))) ((),(([]:List α),()))).2.1 else zs)=ws∧(bif (ltI a i&&ltI i mid) then (qr (qgG d N M (zs,(a,(i,(mid,(ψ,())))))) ((),(([]:List α),()))).2.1 else zs)=ws:=by
    by_cases hq:a<i∧i<mid
    ·obtain ⟨out,k1,k2,k3⟩:=ih zs z1 a i mid ha hq.1 hq.2 (by omega) (by omega)
     exact ⟨out,k1,by simp only [ltT hq.1,ltT hq.2,Bool.and_self,cond_true,k2,k3,qf,qh,and_self]⟩
    ·have e:(ltI a i&&ltI i mid)=false:=by
      by_cases hq1:a<i
      ·rw [ltF (fun hq2=>hq ⟨hq1,hq2⟩),Bool.and_false]
      ·rw [ltF hq1,Bool.false_and]
     exact ⟨zs,z1,by simp only [e,cond_false,and_self]⟩
   simp only [w2,w3,w4,w5,cond_true]
   by_cases hq:mid<mid+m - i∧mid+m - i<b
   ·obtain ⟨out,k1,k2,k3⟩:=ih ws w1 mid (mid+m - i) b (by omega) hq.1 hq.2 hb (by omega)
    simp only [ltT hq.1,ltT hq.2,Bool.and_self,cond_true,k2,k3,qf,qh]
    exact ⟨out,k1,rfl,rfl⟩
   ·have e:(ltI mid (mid+m - i)&&ltI (mid+m - i) b)=false:=by
     by_cases hq1:mid<mid+m - i
     ·rw [ltF (fun hq2=>hq ⟨hq1,hq2⟩),Bool.and_false]
     ·rw [ltF hq1,Bool.false_and]
    simp only [e,cond_false,cond_true]
    exact ⟨ws,w1,rfl,rfl⟩
theorem qrI (hφ:qvO P φ ψ) (hn:n≤1099511627776) (hN:2 * n+1<N) {ys:List α} (h:Ck P n ys) {a m b:Int} (ha:0≤a) (h1:a<m) (h2:m<b) (hb:b≤(n:Int)):Res P n (qmH d N (ys,(a,(m,(b,(φ,())))))) (qmH d N (ys,(a,(m,(b,(ψ,())))))):=
 qpd d hφ hn hN N ys h a m b ha h1 h2 hb (by omega)
theorem qvW (hφ:qvO P φ ψ) (hn:n≤1099511627776) (hN:2 * n+100<N) {ys:List α} (h:Ck P n ys):Res P n (qmE d N (ys,((n:Int),(φ,())))) (qmE d N (ys,((n:Int),(ψ,())))):=by
 simp only [qmE,qG]
 refine qcW (S:=List α×(Int×(Int×Unit))) (fun p=>((n:Int)+20 - p.2.2.1).toNat) (fun p=>Ck P n p.1∧0≤p.2.1∧p.2.1≤(n:Int)∧p.2.2.1=p.2.1+20) (Res P n) ?_ N _ ⟨h,by simp only; omega,by simp only; omega,by simp only; omega⟩ (by simp only; omega)
 rintro ih1 ih2 ⟨ys,a,b,⟨⟩⟩ ⟨h,ha,ha2,hb⟩ hih
 simp only at h ha ha2 hb hih⊢
 by_cases hc:b≤(n:Int)
 ·obtain ⟨out,k1,k2,k3⟩:=qrR d hφ hn (by omega:n+1<N) h ha ha2 hc
  have e1:qS .i64 b 20=b+20:=qat (by omega) (by omega)
  simp only [leT hc,cond_true,k2,k3,qf,qh,e1]
  exact hih _ ⟨k1,by simp only; omega,by simp only; omega,by simp only⟩ (by simp only; omega)
 ·obtain ⟨out,k1,k2,k3⟩:=qrR d hφ hn (by omega:n+1<N) h ha ha2 (Int.le_refl (n:Int))
  simp only [leF hc,cond_false,k2,k3,qf,qh,cond_true]
  refine qcW (S:=List α×(Int×Unit)) (fun p=>((n:Int) - p.2.1).toNat) (fun p=>Ck P n p.1∧1≤p.2.1∧p.2.1≤2 * (n:Int)+20) (Res P n) ?_ N _ ⟨k1,by simp only; omega,by simp only; omega⟩ (by simp only; omega)
  rintro jh1 jh2 ⟨ys,s,⟨⟩⟩ ⟨h,hs,hs2⟩ hjh
  simp only at h hs hs2 hjh⊢
  by_cases hsn:s<(n:Int)
  ·have e1:qol .i64 2 s=2 * s:=by rw [qdY,qdH (by omega) (by omega)]
   have e2:qol .i64 s 2=2 * s:=by rw [qdY,qdH (by omega) (by omega)]; omega
   simp only [ltT hsn,cond_true,e1,e2]
   refine qcW (S:=List α×(Int×(Int×Unit))) (fun p=>((n:Int)+2 * s - p.2.2.1).toNat) (fun p=>Ck P n p.1∧0≤p.2.1∧p.2.1≤(n:Int)∧p.2.2.1=p.2.1+2 * s) (Res P n) ?_ N _ ⟨h,by simp only; omega,by simp only; omega,by simp only; omega⟩ (by simp only; omega)
   rintro kh1 kh2 ⟨ys,a,b,⟨⟩⟩ ⟨h,ha,ha2,hb⟩ hkh
   simp only at h ha ha2 hb hkh⊢
   have e3:qS .i64 a s=a+s:=qat (by omega) (by omega)
   by_cases hc:b≤(n:Int)
   ·obtain ⟨out,k1,k2,k3⟩:=qrI d hφ hn (by omega:2 * n+1<N) h (a:=a) (m:=a+s) (b:=b) ha (by omega) (by omega) hc
    have e4:qS .i64 b (2 * s)=b+2 * s:=qat (by omega) (by omega)
    simp only [leT hc,cond_true,e3,k2,k3,qf,qh,e4]
    exact hkh _ ⟨k1,by simp only; omega,by simp only; omega,by simp only⟩ (by simp only; omega)
   ·simp only [leF hc,cond_false,e3]
    by_cases hq:a+s<(n:Int)
    ·obtain ⟨out,k1,k2,k3⟩:=qrI d hφ hn (by omega:2 * n+1<N) h (a:=a) (m:=a+s) (b:=(n:Int)) ha (by omega) hq (Int.le_refl _)
     simp only [ltT hq,cond_true,k2,k3,qf,qh]
     exact hjh _ ⟨k1,by simp only; omega,by simp only; omega⟩ (by simp only; omega)
    ·simp only [ltF hq,cond_false,cond_true]
     exact hjh _ ⟨h,by simp only; omega,by simp only; omega⟩ (by simp only; omega)
  ·simp only [ltF hsn,cond_false]
   exact ⟨ys,h,rfl,rfl⟩
theorem srtAll_ok (hφ:qvO P φ ψ) {ys:List α} (hn:ys.length≤1099511627776) (hN:2 * ys.length+100<N) (h:∀x∈ys,P x):∃out:List α,qot d N (ys,(φ,()))=some ((),(out,()))∧qot d N (ys,(ψ,()))=some ((),(out,()))∧out.length=ys.length∧∀x∈out,P x:=by
 obtain ⟨out,k1,k2,k3⟩:=qvW d hφ hn hN ⟨rfl,h⟩
 refine ⟨out,?_,?_,k1.len,k1.all⟩
 ·simp only [qot,qj,k2,qf,qh,cond_true]
 ·simp only [qot,qj,k3,qf,qh,cond_true]
end
end
end Go.Vi
set_option linter.unusedSimpArgs false
set_option linter.unusedVariables false
set_option maxRecDepth 100000
namespace Go.Vi
noncomputable section
def qmD {α:Type} (d:α) (N:Nat) (x:((List α)×(Int×(Int×(Int×(((α×(α×Unit))→(Option (Int×Unit)))×Unit)))))):(Option (Unit×((List α)×Unit))):=
 (qab (S:=((List α)×(Int×Unit))) (R:=(Unit×((List α)×Unit))) N (fun ih0=>(fun p1=>(qR (qS .i64 (qol .i64 2 p1.2.1) 1) (fun y2=>(bif (leI x.2.2.1 y2) then (some ((),(p1.1,()))) else (bif (((!(ltI (qS .i64 y2 1) x.2.2.1))||(inB (qS .i64 x.2.2.2.1 y2) (qn p1.1)))&&(((!(ltI (qS .i64 y2 1) x.2.2.1))||(inB (qS .i64 (qS .i64 x.2.2.2.1 y2) 1) (qn p1.1)))&&((!(ltI (qS .i64 y2 1) x.2.2.1))||(qt (x.2.2.2.2.1 ((qi p1.1 (qS .i64 x.2.2.2.1 y2) d),((qi p1.1 (qS .i64 (qS .i64 x.2.2.2.1 y2) 1) d),()))))))) then (qR ((ltI (qS .i64 y2 1) x.2.2.1)&&(ltI (qr (x.2.2.2.2.1 ((qi p1.1 (qS .i64 x.2.2.2.1 y2) d),((qi p1.1 (qS .i64 (qS .i64 x.2.2.2.1 y2) 1) d),()))) (0,())).1 0)) (fun y3=>(qR (bif y3 then (qS .i64 y2 1) else y2) (fun y4=>(bif ((inB (qS .i64 x.2.2.2.1 p1.2.1) (qn p1.1))&&((inB (qS .i64 x.2.2.2.1 y4) (qn p1.1))&&(qt (x.2.2.2.2.1 ((qi p1.1 (qS .i64 x.2.2.2.1 p1.2.1) d),((qi p1.1 (qS .i64 x.2.2.2.1 y4) d),())))))) then (bif (!(ltI (qr (x.2.2.2.2.1 ((qi p1.1 (qS .i64 x.2.2.2.1 p1.2.1) d),((qi p1.1 (qS .i64 x.2.2.2.1 y4) d),()))) (0,())).1 0)) then (some ((),(p1.1,()))) else (bif ((inB (qS .i64 x.2.2.2.1 y4) (qn p1.1))&&((inB (qS .i64 x.2.2.2.1 p1.2.1) (qn p1.1))&&((inB (qS .i64 x.2.2.2.1 p1.2.1) (qn p1.1))&&(inB (qS .i64 x.2.2.2.1 y4) (qn (qbZ p1.1 (qS .i64 x.2.2.2.1 p1.2.1) (qi p1.1 (qS .i64 x.2.2.2.1 y4) d))))))) then (ih0 ((qbZ (qbZ p1.1 (qS .i64 x.2.2.2.1 p1.2.1) (qi p1.1 (qS .i64 x.2.2.2.1 y4) d)) (qS .i64 x.2.2.2.1 y4) (qi p1.1 (qS .i64 x.2.2.2.1 p1.2.1) d)),(y4,()))) else none)) else none))))) else none)))))) (x.1,(x.2.1,())))
def qsy {α:Type} (d:α) (N:Nat) (x:((List α)×(Int×(Int×(((α×(α×Unit))→(Option (Int×Unit)))×Unit))))):(Option (Unit×((List α)×Unit))):=
 (qR (qT .i64 x.2.2.1 x.2.1) (fun y0=>(bif (neI 2 0) then (qab (S:=((List α)×(Int×Unit))) (R:=(Unit×((List α)×Unit))) N (fun ih1=>(fun p2=>(bif (leI 0 p2.2.1) then (bif (qt (qmD d N (p2.1,(p2.2.1,(y0,(x.2.1,(x.2.2.2.1,()))))))) then (ih1 ((qr (qmD d N (p2.1,(p2.2.1,(y0,(x.2.1,(x.2.2.2.1,())))))) ((),(([]:List α),()))).2.1,((qT .i64 p2.2.1 1),()))) else none) else (qab (S:=((List α)×(Int×Unit))) (R:=(Unit×((List α)×Unit))) N (fun ih3=>(fun p4=>(bif (leI 0 p4.2.1) then (bif ((inB (qS .i64 x.2.1 p4.2.1) (qn p4.1))&&((inB x.2.1 (qn p4.1))&&((inB x.2.1 (qn p4.1))&&(inB (qS .i64 x.2.1 p4.2.1) (qn (qbZ p4.1 x.2.1 (qi p4.1 (qS .i64 x.2.1 p4.2.1) d))))))) then (bif (qt (qmD d N ((qbZ (qbZ p4.1 x.2.1 (qi p4.1 (qS .i64 x.2.1 p4.2.1) d)) (qS .i64 x.2.1 p4.2.1) (qi p4.1 x.2.1 d)),(0,(p4.2.1,(x.2.1,(x.2.2.2.1,()))))))) then (ih3 ((qr (qmD d N ((qbZ (qbZ p4.1 x.2.1 (qi p4.1 (qS .i64 x.2.1 p4.2.1) d)) (qS .i64 x.2.1 p4.2.1) (qi p4.1 x.2.1 d)),(0,(p4.2.1,(x.2.1,(x.2.2.2.1,())))))) ((),(([]:List α),()))).2.1,((qT .i64 p4.2.1 1),()))) else none) else none) else (some ((),(p4.1,())))))) (p2.1,((qT .i64 y0 1),())))))) (x.1,((qrq .i64 (qT .i64 y0 1) 2),()))) else none)))
def qbU {α:Type} (d:α) (N:Nat) (x:((List α)×(Int×(Int×(((α×(α×Unit))→(Option (Int×Unit)))×Unit))))):(Option (Unit×((List α)×Unit))):=
 (qab (S:=((List α)×(Int×(Int×Unit)))) (R:=(Unit×((List α)×Unit))) N (fun ih0=>(fun p1=>(bif (ltI p1.2.1 p1.2.2.1) then (bif ((inB p1.2.2.1 (qn p1.1))&&((inB p1.2.1 (qn p1.1))&&((inB p1.2.1 (qn p1.1))&&(inB p1.2.2.1 (qn (qbZ p1.1 p1.2.1 (qi p1.1 p1.2.2.1 d))))))) then (qR (qS .i64 p1.2.1 1) (fun y2=>(ih0 ((qbZ (qbZ p1.1 p1.2.1 (qi p1.1 p1.2.2.1 d)) p1.2.2.1 (qi p1.1 p1.2.1 d)),(y2,((qT .i64 p1.2.2.1 1),())))))) else none) else (some ((),(p1.1,())))))) (x.1,(x.2.1,((qT .i64 x.2.2.1 1),()))))
def qiW {α:Type} (d:α) (N:Nat) (x:((List α)×(Int×(Int×(Int×(((α×(α×Unit))→(Option (Int×Unit)))×Unit)))))):(Option ((Int×(Int×Unit))×((List α)×(Int×Unit)))):=
 (bif ((inB x.2.2.1 (qn x.1))&&((inB x.2.1 (qn x.1))&&(qt (x.2.2.2.2.1 ((qi x.1 x.2.2.1 d),((qi x.1 x.2.1 d),())))))) then (bif (ltI (qr (x.2.2.2.2.1 ((qi x.1 x.2.2.1 d),((qi x.1 x.2.1 d),()))) (0,())).1 0) then (some ((x.2.2.1,(x.2.1,())),(x.1,((qS .i64 x.2.2.2.1 1),())))) else (some ((x.2.1,(x.2.2.1,())),(x.1,(x.2.2.2.1,()))))) else none)
def qhw {α:Type} (d:α) (N:Nat) (x:((List α)×(Int×(Int×(Int×(Int×(((α×(α×Unit))→(Option (Int×Unit)))×Unit))))))):(Option ((Int×Unit)×((List α)×(Int×Unit)))):=
 (bif (qt (qiW d N (x.1,(x.2.1,(x.2.2.1,(x.2.2.2.2.1,(x.2.2.2.2.2.1,()))))))) then (qR (qr (qiW d N (x.1,(x.2.1,(x.2.2.1,(x.2.2.2.2.1,(x.2.2.2.2.2.1,())))))) ((0,(0,())),(([]:List α),(0,())))).2.1 (fun ys0=>(qR (qr (qiW d N (x.1,(x.2.1,(x.2.2.1,(x.2.2.2.2.1,(x.2.2.2.2.2.1,())))))) ((0,(0,())),(([]:List α),(0,())))).1.1 (fun y1=>(qR (qr (qiW d N (x.1,(x.2.1,(x.2.2.1,(x.2.2.2.2.1,(x.2.2.2.2.2.1,())))))) ((0,(0,())),(([]:List α),(0,())))).1.2.1 (fun y2=>(qR (qr (qiW d N (x.1,(x.2.1,(x.2.2.1,(x.2.2.2.2.1,(x.2.2.2.2.2.1,())))))) ((0,(0,())),(([]:List α),(0,())))).2.2.1 (fun y3=>(bif (qt (qiW d N (ys0,(y2,(x.2.2.2.1,(y3,(x.2.2.2.2.2.1,()))))))) then (qR (qr (qiW d N (ys0,(y2,(x.2.2.2.1,(y3,(x.2.2.2.2.2.1,())))))) ((0,(0,())),(([]:List α),(0,())))).2.1 (fun ys4=>(qR (qr (qiW d N (ys0,(y2,(x.2.2.2.1,(y3,(x.2.2.2.2.2.1,())))))) ((0,(0,())),(([]:List α),(0,())))).1.1 (fun y5=>(qR (qr (qiW d N (ys0,(y2,(x.2.2.2.1,(y3,(x.2.2.2.2.2.1,())))))) ((0,(0,())),(([]:List α),(0,())))).1.2.1 (fun y6=>(qR (qr (qiW d N (ys0,(y2,(x.2.2.2.1,(y3,(x.2.2.2.2.2.1,())))))) ((0,(0,())),(([]:List α),(0,())))).2.2.1 (fun y7=>(bif (qt (qiW d N (ys4,(y1,(y5,(y7,(x.2.2.2.2.2.1,()))))))) then (qR (qr (qiW d N (ys4,(y1,(y5,(y7,(x.2.2.2.2.2.1,())))))) ((0,(0,())),(([]:List α),(0,())))).2.1 (fun ys8=>(qR (qr (qiW d N (ys4,(y1,(y5,(y7,(x.2.2.2.2.2.1,())))))) ((0,(0,())),(([]:List α),(0,())))).1.1 (fun y9=>(qR (qr (qiW d N (ys4,(y1,(y5,(y7,(x.2.2.2.2.2.1,())))))) ((0,(0,())),(([]:List α),(0,())))).1.2.1 (fun y10=>(qR (qr (qiW d N (ys4,(y1,(y5,(y7,(x.2.2.2.2.2.1,())))))) ((0,(0,())),(([]:List α),(0,())))).2.2.1 (fun y11=>(some ((y10,()),(ys8,(y11,())))))))))))) else none))))))))) else none))))))))) else none)
def qy {α:Type} (d:α) (N:Nat) (x:((List α)×(Int×(Int×(((α×(α×Unit))→(Option (Int×Unit)))×Unit))))):(Option ((Int×Unit)×((List α)×(Int×Unit)))):=
 (bif (qt (qhw d N (x.1,((qT .i64 x.2.1 1),(x.2.1,((qS .i64 x.2.1 1),(x.2.2.1,(x.2.2.2.1,())))))))) then (some (((qr (qhw d N (x.1,((qT .i64 x.2.1 1),(x.2.1,((qS .i64 x.2.1 1),(x.2.2.1,(x.2.2.2.1,()))))))) ((0,()),(([]:List α),(0,())))).1.1,()),((qr (qhw d N (x.1,((qT .i64 x.2.1 1),(x.2.1,((qS .i64 x.2.1 1),(x.2.2.1,(x.2.2.2.1,()))))))) ((0,()),(([]:List α),(0,())))).2.1,((qr (qhw d N (x.1,((qT .i64 x.2.1 1),(x.2.1,((qS .i64 x.2.1 1),(x.2.2.1,(x.2.2.2.1,()))))))) ((0,()),(([]:List α),(0,())))).2.2.1,())))) else none)
def qgD {α:Type} (d:α) (N:Nat) (x:((List α)×(Int×(Int×(((α×(α×Unit))→(Option (Int×Unit)))×Unit))))):(Option ((Int×(Int×Unit))×((List α)×Unit))):=
 (qR (qT .i64 x.2.2.1 x.2.1) (fun y0=>(bif (neI 4 0) then (qR (qS .i64 x.2.1 (qol .i64 (qrq .i64 y0 4) 1)) (fun y1=>(bif (neI 4 0) then (qR (qS .i64 x.2.1 (qol .i64 (qrq .i64 y0 4) 2)) (fun y2=>(bif (neI 4 0) then (qR (qS .i64 x.2.1 (qol .i64 (qrq .i64 y0 4) 3)) (fun y3=>(bif (bif (leI 8 y0) then ((bif (leI 50 y0) then ((qt (qy d N (x.1,(y1,(0,(x.2.2.2.1,()))))))&&((qt (qy d N ((qr (qy d N (x.1,(y1,(0,(x.2.2.2.1,()))))) ((0,()),(([]:List α),(0,())))).2.1,(y2,((qr (qy d N (x.1,(y1,(0,(x.2.2.2.1,()))))) ((0,()),(([]:List α),(0,())))).2.2.1,(x.2.2.2.1,()))))))&&(qt (qy d N ((qr (qy d N ((qr (qy d N (x.1,(y1,(0,(x.2.2.2.1,()))))) ((0,()),(([]:List α),(0,())))).2.1,(y2,((qr (qy d N (x.1,(y1,(0,(x.2.2.2.1,()))))) ((0,()),(([]:List α),(0,())))).2.2.1,(x.2.2.2.1,()))))) ((0,()),(([]:List α),(0,())))).2.1,(y3,((qr (qy d N ((qr (qy d N (x.1,(y1,(0,(x.2.2.2.1,()))))) ((0,()),(([]:List α),(0,())))).2.1,(y2,((qr (qy d N (x.1,(y1,(0,(x.2.2.2.1,()))))) ((0,()),(([]:List α),(0,())))).2.2.1,(x.2.2.2.1,()))))) ((0,()),(([]:List α),(0,())))).2.2.1,(x.2.2.2.1,())))))))) else true)&&(qt (qhw d N ((bif (leI 50 y0) then (qr (qy d N ((qr (qy d N ((qr (qy d N (x.1,(y1,(0,(x.2.2.2.1,()))))) ((0,()),(([]:List α),(0,())))).2.1,(y2,((qr (qy d N (x.1,(y1,(0,(x.2.2.2.1,()))))) ((0,()),(([]:List α),(0,())))).2.2.1,(x.2.2.2.1,()))))) ((0,()),(([]:List α),(0,())))).2.1,(y3,((qr (qy d N ((qr (qy d N (x.1,(y1,(0,(x.2.2.2.1,()))))) ((0,()),(([]:List α),(0,())))).2.1,(y2,((qr (qy d N (x.1,(y1,(0,(x.2.2.2.1,()))))) ((0,()),(([]:List α),(0,())))).2.2.1,(x.2.2.2.1,()))))) ((0,()),(([]:List α),(0,())))).2.2.1,(x.2.2.2.1,()))))) ((0,()),(([]:List α),(0,())))).2.1 else x.1),((bif (leI 50 y0) then (qr (qy d N (x.1,(y1,(0,(x.2.2.2.1,()))))) ((0,()),(([]:List α),(0,())))).1.1 else y1),((bif (leI 50 y0) then (qr (qy d N ((qr (qy d N (x.1,(y1,(0,(x.2.2.2.1,()))))) ((0,()),(([]:List α),(0,())))).2.1,(y2,((qr (qy d N (x.1,(y1,(0,(x.2.2.2.1,()))))) ((0,()),(([]:List α),(0,())))).2.2.1,(x.2.2.2.1,()))))) ((0,()),(([]:List α),(0,())))).1.1 else y2),((bif (leI 50 y0) then (qr (qy d N ((qr (qy d N ((qr (qy d N (x.1,(y1,(0,(x.2.2.2.1,()))))) ((0,()),(([]:List α),(0,())))).2.1,(y2,((qr (qy d N (x.1,(y1,(0,(x.2.2.2.1,()))))) ((0,()),(([]:List α),(0,())))).2.2.1,(x.2.2.2.1,()))))) ((0,()),(([]:List α),(0,())))).2.1,(y3,((qr (qy d N ((qr (qy d N (x.1,(y1,(0,(x.2.2.2.1,()))))) ((0,()),(([]:List α),(0,())))).2.1,(y2,((qr (qy d N (x.1,(y1,(0,(x.2.2.2.1,()))))) ((0,()),(([]:List α),(0,())))).2.2.1,(x.2.2.2.1,()))))) ((0,()),(([]:List α),(0,())))).2.2.1,(x.2.2.2.1,()))))) ((0,()),(([]:List α),(0,())))).1.1 else y3),((bif (leI 50 y0) then (qr (qy d N ((qr (qy d N ((qr (qy d N (x.1,(y1,(0,(x.2.2.2.1,()))))) ((0,()),(([]:List α),(0,())))).2.1,(y2,((qr (qy d N (x.1,(y1,(0,(x.2.2.2.1,()))))) ((0,()),(([]:List α),(0,())))).2.2.1,(x.2.2.2.1,()))))) ((0,()),(([]:List α),(0,())))).2.1,(y3,((qr (qy d N ((qr (qy d N (x.1,(y1,(0,(x.2.2.2.1,()))))) ((0,()),(([]:List α),(0,())))).2.1,(y2,((qr (qy d N (x.1,(y1,(0,(x.2.2.2.1,()))))) ((0,()),(([]:List α),(0,())))).2.2.1,(x.2.2.2.1,()))))) ((0,()),(([]:List α),(0,())))).2.2.1,(x.2.2.2.1,()))))) ((0,()),(([]:List α),(0,())))).2.2.1 else 0),(x.2.2.2.1,()))))))))) else true) then (qR (bif (leI 8 y0) then (qr (qhw d N ((bif (leI 50 y0) then (qr (qy d N ((qr (qy d N ((qr (qy d N (x.1,(y1,(0,(x.2.2.2.1,()))))) ((0,()),(([]:List α),(0,())))).2.1,(y2,((qr (qy d N (x.1,(y1,(0,(x.2.2.2.1,()))))) ((0,()),(([]:List α),(0,())))).2.2.1,(x.2.2.2.1,()))))) ((0,()),(([]:List α),(0,())))).2.1,(y3,((qr (qy d N ((qr (qy d N (x.1,(y1,(0,(x.2.2.2.1,()))))) ((0,()),(([]:List α),(0,())))).2.1,(y2,((qr (qy d N (x.1,(y1,(0,(x.2.2.2.1,()))))) ((0,()),(([]:List α),(0,())))).2.2.1,(x.2.2.2.1,()))))) ((0,()),(([]:List α),(0,())))).2.2.1,(x.2.2.2.1,()))))) ((0,()),(([]:List α),(0,())))).2.1 else x.1),((bif (leI 50 y0) then (qr (qy d N (x.1,(y1,(0,(x.2.2.2.1,()))))) ((0,()),(([]:List α),(0,())))).1.1 else y1),((bif (leI 50 y0) then (qr (qy d N ((qr (qy d N (x.1,(y1,(0,(x.2.2.2.1,()))))) ((0,()),(([]:List α),(0,())))).2.1,(y2,((qr (qy d N (x.1,(y1,(0,(x.2.2.2.1,()))))) ((0,()),(([]:List α),(0,())))).2.2.1,(x.2.2.2.1,()))))) ((0,()),(([]:List α),(0,())))).1.1 else y2),((bif (leI 50 y0) then (qr (qy d N ((qr (qy d N ((qr (qy d N (x.1,(y1,(0,(x.2.2.2.1,()))))) ((0,()),(([]:List α),(0,())))).2.1,(y2,((qr (qy d N (x.1,(y1,(0,(x.2.2.2.1,()))))) ((0,()),(([]:List α),(0,())))).2.2.1,(x.2.2.2.1,()))))) ((0,()),(([]:List α),(0,())))).2.1,(y3,((qr (qy d N ((qr (qy d N (x.1,(y1,(0,(x.2.2.2.1,()))))) ((0,()),(([]:List α),(0,())))).2.1,(y2,((qr (qy d N (x.1,(y1,(0,(x.2.2.2.1,()))))) ((0,()),(([]:List α),(0,())))).2.2.1,(x.2.2.2.1,()))))) ((0,()),(([]:List α),(0,())))).2.2.1,(x.2.2.2.1,()))))) ((0,()),(([]:List α),(0,())))).1.1 else y3),((bif (leI 50 y0) then (qr (qy d N ((qr (qy d N ((qr (qy d N (x.1,(y1,(0,(x.2.2.2.1,()))))) ((0,()),(([]:List α),(0,())))).2.1,(y2,((qr (qy d N (x.1,(y1,(0,(x.2.2.2.1,()))))) ((0,()),(([]:List α),(0,())))).2.2.1,(x.2.2.2.1,()))))) ((0,()),(([]:List α),(0,())))).2.1,(y3,((qr (qy d N ((qr (qy d N (x.1,(y1,(0,(x.2.2.2.1,()))))) ((0,()),(([]:List α),(0,())))).2.1,(y2,((qr (qy d N (x.1,(y1,(0,(x.2.2.2.1,()))))) ((0,()),(([]:List α),(0,())))).2.2.1,(x.2.2.2.1,()))))) ((0,()),(([]:List α),(0,())))).2.2.1,(x.2.2.2.1,()))))) ((0,()),(([]:List α),(0,())))).2.2.1 else 0),(x.2.2.2.1,()))))))) ((0,()),(([]:List α),(0,())))).2.2.1 else 0) (fun y4=>(qR (bif (leI 8 y0) then (qr (qhw d N ((bif (leI 50 y0) then (qr (qy d N ((qr (qy d N ((qr (qy d N (x.1,(y1,(0,(x.2.2.2.1,()))))) ((0,()),(([]:List α),(0,())))).2.1,(y2,((qr (qy d N (x.1,(y1,(0,(x.2.2.2.1,()))))) ((0,()),(([]:List α),(0,())))).2.2.1,(x.2.2.2.1,()))))) ((0,()),(([]:List α),(0,())))).2.1,(y3,((qr (qy d N ((qr (qy d N (x.1,(y1,(0,(x.2.2.2.1,()))))) ((0,()),(([]:List α),(0,())))).2.1,(y2,((qr (qy d N (x.1,(y1,(0,(x.2.2.2.1,()))))) ((0,()),(([]:List α),(0,())))).2.2.1,(x.2.2.2.1,()))))) ((0,()),(([]:List α),(0,())))).2.2.1,(x.2.2.2.1,()))))) ((0,()),(([]:List α),(0,())))).2.1 else x.1),((bif (leI 50 y0) then (qr (qy d N (x.1,(y1,(0,(x.2.2.2.1,()))))) ((0,()),(([]:List α),(0,())))).1.1 else y1),((bif (leI 50 y0) then (qr (qy d N ((qr (qy d N (x.1,(y1,(0,(x.2.2.2.1,()))))) ((0,()),(([]:List α),(0,())))).2.1,(y2,((qr (qy d N (x.1,(y1,(0,(x.2.2.2.1,()))))) ((0,()),(([]:List α),(0,())))).2.2.1,(x.2.2.2.1,()))))) ((0,()),(([]:List α),(0,())))).1.1 else y2),((bif (leI 50 y0) then (qr (qy d N ((qr (qy d N ((qr (qy d N (x.1,(y1,(0,(x.2.2.2.1,()))))) ((0,()),(([]:List α),(0,())))).2.1,(y2,((qr (qy d N (x.1,(y1,(0,(x.2.2.2.1,()))))) ((0,()),(([]:List α),(0,())))).2.2.1,(x.2.2.2.1,()))))) ((0,()),(([]:List α),(0,())))).2.1,(y3,((qr (qy d N ((qr (qy d N (x.1,(y1,(0,(x.2.2.2.1,()))))) ((0,()),(([]:List α),(0,())))).2.1,(y2,((qr (qy d N (x.1,(y1,(0,(x.2.2.2.1,()))))) ((0,()),(([]:List α),(0,())))).2.2.1,(x.2.2.2.1,()))))) ((0,()),(([]:List α),(0,())))).2.2.1,(x.2.2.2.1,()))))) ((0,()),(([]:List α),(0,())))).1.1 else y3),((bif (leI 50 y0) then (qr (qy d N ((qr (qy d N ((qr (qy d N (x.1,(y1,(0,(x.2.2.2.1,()))))) ((0,()),(([]:List α),(0,())))).2.1,(y2,((qr (qy d N (x.1,(y1,(0,(x.2.2.2.1,()))))) ((0,()),(([]:List α),(0,())))).2.2.1,(x.2.2.2.1,()))))) ((0,()),(([]:List α),(0,())))).2.1,(y3,((qr (qy d N ((qr (qy d N (x.1,(y1,(0,(x.2.2.2.1,()))))) ((0,()),(([]:List α),(0,())))).2.1,(y2,((qr (qy d N (x.1,(y1,(0,(x.2.2.2.1,()))))) ((0,()),(([]:List α),(0,())))).2.2.1,(x.2.2.2.1,()))))) ((0,()),(([]:List α),(0,())))).2.2.1,(x.2.2.2.1,()))))) ((0,()),(([]:List α),(0,())))).2.2.1 else 0),(x.2.2.2.1,()))))))) ((0,()),(([]:List α),(0,())))).1.1 else y2) (fun y5=>(bif (eqI y4 0) then (some ((y5,(1,())),((bif (leI 8 y0) then (qr (qhw d N ((bif (leI 50 y0) then (qr (qy d N ((qr (qy d N ((qr (qy d N (x.1,(y1,(0,(x.2.2.2.1,()))))) ((0,()),(([]:List α),(0,())))).2.1,(y2,((qr (qy d N (x.1,(y1,(0,(x.2.2.2.1,()))))) ((0,()),(([]:List α),(0,())))).2.2.1,(x.2.2.2.1,()))))) ((0,()),(([]:List α),(0,())))).2.1,(y3,((qr (qy d N ((qr (qy d N (x.1,(y1,(0,(x.2.2.2.1,()))))) ((0,()),(([]:List α),(0,())))).2.1,(y2,((qr (qy d N (x.1,(y1,(0,(x.2.2.2.1,()))))) ((0,()),(([]:List α),(0,())))).2.2.1,(x.2.2.2.1,()))))) ((0,()),(([]:List α),(0,())))).2.2.1,(x.2.2.2.1,()))))) ((0,()),(([]:List α),(0,())))).2.1 else x.1),((bif (leI 50 y0) then (qr (qy d N (x.1,(y1,(0,(x.2.2.2.1,()))))) ((0,()),(([]:List α),(0,())))).1.1 else y1),((bif (leI 50 y0) then (qr (qy d N ((qr (qy d N (x.1,(y1,(0,(x.2.2.2.1,()))))) ((0,()),(([]:List α),(0,())))).2.1,(y2,((qr (qy d N (x.1,(y1,(0,(x.2.2.2.1,()))))) ((0,()),(([]:List α),(0,())))).2.2.1,(x.2.2.2.1,()))))) ((0,()),(([]:List α),(0,())))).1.1 else y2),((bif (leI 50 y0) then (qr (qy d N ((qr (qy d N ((qr (qy d N (x.1,(y1,(0,(x.2.2.2.1,()))))) ((0,()),(([]:List α),(0,())))).2.1,(y2,((qr (qy d N (x.1,(y1,(0,(x.2.2.2.1,()))))) ((0,()),(([]:List α),(0,())))).2.2.1,(x.2.2.2.1,()))))) ((0,()),(([]:List α),(0,())))).2.1,(y3,((qr (qy d N ((qr (qy d N (x.1,(y1,(0,(x.2.2.2.1,()))))) ((0,()),(([]:List α),(0,())))).2.1,(y2,((qr (qy d N (x.1,(y1,(0,(x.2.2.2.1,()))))) ((0,()),(([]:List α),(0,())))).2.2.1,(x.2.2.2.1,()))))) ((0,()),(([]:List α),(0,())))).2.2.1,(x.2.2.2.1,()))))) ((0,()),(([]:List α),(0,())))).1.1 else y3),((bif (leI 50 y0) then (qr (qy d N ((qr (qy d N ((qr (qy d N (x.1,(y1,(0,(x.2.2.2.1,()))))) ((0,()),(([]:List α),(0,())))).2.1,(y2,((qr (qy d N (x.1,(y1,(0,(x.2.2.2.1,()))))) ((0,()),(([]:List α),(0,())))).2.2.1,(x.2.2.2.1,()))))) ((0,()),(([]:List α),(0,())))).2.1,(y3,((qr (qy d N ((qr (qy d N (x.1,(y1,(0,(x.2.2.2.1,()))))) ((0,()),(([]:List α),(0,())))).2.1,(y2,((qr (qy d N (x.1,(y1,(0,(x.2.2.2.1,()))))) ((0,()),(([]:List α),(0,())))).2.2.1,(x.2.2.2.1,()))))) ((0,()),(([]:List α),(0,())))).2.2.1,(x.2.2.2.1,()))))) ((0,()),(([]:List α),(0,())))).2.2.1 else 0),(x.2.2.2.1,()))))))) ((0,()),(([]:List α),(0,())))).2.1 else x.1),()))) else (bif (eqI y4 12) then (some ((y5,(2,())),((bif (leI 8 y0) then (qr (qhw d N ((bif (leI 50 y0) then (qr (qy d N ((qr (qy d N ((qr (qy d N (x.1,(y1,(0,(x.2.2.2.1,()))))) ((0,()),(([]:List α),(0,())))).2.1,(y2,((qr (qy d N (x.1,(y1,(0,(x.2.2.2.1,()))))) ((0,()),(([]:List α),(0,())))).2.2.1,(x.2.2.2.1,()))))) ((0,()),(([]:List α),(0,())))).2.1,(y3,((qr (qy d N ((qr (qy d N (x.1,(y1,(0,(x.2.2.2.1,()))))) ((0,()),(([]:List α),(0,())))).2.1,(y2,((qr (qy d N (x.1,(y1,(0,(x.2.2.2.1,()))))) ((0,()),(([]:List α),(0,())))).2.2.1,(x.2.2.2.1,()))))) ((0,()),(([]:List α),(0,())))).2.2.1,(x.2.2.2.1,()))))) ((0,()),(([]:List α),(0,())))).2.1 else x.1),((bif (leI 50 y0) then (qr (qy d N (x.1,(y1,(0,(x.2.2.2.1,()))))) ((0,()),(([]:List α),(0,())))).1.1 else y1),((bif (leI 50 y0) then (qr (qy d N ((qr (qy d N (x.1,(y1,(0,(x.2.2.2.1,()))))) ((0,()),(([]:List α),(0,())))).2.1,(y2,((qr (qy d N (x.1,(y1,(0,(x.2.2.2.1,()))))) ((0,()),(([]:List α),(0,())))).2.2.1,(x.2.2.2.1,()))))) ((0,()),(([]:List α),(0,())))).1.1 else y2),((bif (leI 50 y0) then (qr (qy d N ((qr (qy d N ((qr (qy d N (x.1,(y1,(0,(x.2.2.2.1,()))))) ((0,()),(([]:List α),(0,())))).2.1,(y2,((qr (qy d N (x.1,(y1,(0,(x.2.2.2.1,()))))) ((0,()),(([]:List α),(0,())))).2.2.1,(x.2.2.2.1,()))))) ((0,()),(([]:List α),(0,())))).2.1,(y3,((qr (qy d N ((qr (qy d N (x.1,(y1,(0,(x.2.2.2.1,()))))) ((0,()),(([]:List α),(0,())))).2.1,(y2,((qr (qy d N (x.1,(y1,(0,(x.2.2.2.1,()))))) ((0,()),(([]:List α),(0,())))).2.2.1,(x.2.2.2.1,()))))) ((0,()),(([]:List α),(0,())))).2.2.1,(x.2.2.2.1,()))))) ((0,()),(([]:List α),(0,())))).1.1 else y3),((bif (leI 50 y0) then (qr (qy d N ((qr (qy d N ((qr (qy d N (x.1,(y1,(0,(x.2.2.2.1,()))))) ((0,()),(([]:List α),(0,())))).2.1,(y2,((qr (qy d N (x.1,(y1,(0,(x.2.2.2.1,()))))) ((0,()),(([]:List α),(0,())))).2.2.1,(x.2.2.2.1,()))))) ((0,()),(([]:List α),(0,())))).2.1,(y3,((qr (qy d N ((qr (qy d N (x.1,(y1,(0,(x.2.2.2.1,()))))) ((0,()),(([]:List α),(0,())))).2.1,(y2,((qr (qy d N (x.1,(y1,(0,(x.2.2.2.1,()))))) ((0,()),(([]:List α),(0,())))).2.2.1,(x.2.2.2.1,()))))) ((0,()),(([]:List α),(0,())))).2.2.1,(x.2.2.2.1,()))))) ((0,()),(([]:List α),(0,())))).2.2.1 else 0),(x.2.2.2.1,()))))))) ((0,()),(([]:List α),(0,())))).2.1 else x.1),()))) else (some ((y5,(0,())),((bif (leI 8 y0) then (qr (qhw d N ((bif (leI 50 y0) then (qr (qy d N ((qr (qy d N ((qr (qy d N (x.1,(y1,(0,(x.2.2.2.1,()))))) ((0,()),(([]:List α),(0,())))).2.1,(y2,((qr (qy d N (x.1,(y1,(0,(x.2.2.2.1,()))))) ((0,()),(([]:List α),(0,())))).2.2.1,(x.2.2.2.1,()))))) ((0,()),(([]:List α),(0,())))).2.1,(y3,((qr (qy d N ((qr (qy d N (x.1,(y1,(0,(x.2.2.2.1,()))))) ((0,()),(([]:List α),(0,())))).2.1,(y2,((qr (qy d N (x.1,(y1,(0,(x.2.2.2.1,()))))) ((0,()),(([]:List α),(0,())))).2.2.1,(x.2.2.2.1,()))))) ((0,()),(([]:List α),(0,())))).2.2.1,(x.2.2.2.1,()))))) ((0,()),(([]:List α),(0,())))).2.1 else x.1),((bif (leI 50 y0) then (qr (qy d N (x.1,(y1,(0,(x.2.2.2.1,()))))) ((0,()),(([]:List α),(0,())))).1.1 else y1),((bif (leI 50 y0) then (qr (qy d N ((qr (qy d N (x.1,(y1,(0,(x.2.2.2.1,()))))) ((0,()),(([]:List α),(0,())))).2.1,(y2,((qr (qy d N (x.1,(y1,(0,(x.2.2.2.1,()))))) ((0,()),(([]:List α),(0,())))).2.2.1,(x.2.2.2.1,()))))) ((0,()),(([]:List α),(0,())))).1.1 else y2),((bif (leI 50 y0) then (qr (qy d N ((qr (qy d N ((qr (qy d N (x.1,(y1,(0,(x.2.2.2.1,()))))) ((0,()),(([]:List α),(0,())))).2.1,(y2,((qr (qy d N (x.1,(y1,(0,(x.2.2.2.1,()))))) ((0,()),(([]:List α),(0,())))).2.2.1,(x.2.2.2.1,()))))) ((0,()),(([]:List α),(0,())))).2.1,(y3,((qr (qy d N ((qr (qy d N (x.1,(y1,(0,(x.2.2.2.1,()))))) ((0,()),(([]:List α),(0,())))).2.1,(y2,((qr (qy d N (x.1,(y1,(0,(x.2.2.2.1,()))))) ((0,()),(([]:List α),(0,())))).2.2.1,(x.2.2.2.1,()))))) ((0,()),(([]:List α),(0,())))).2.2.1,(x.2.2.2.1,()))))) ((0,()),(([]:List α),(0,())))).1.1 else y3),((bif (leI 50 y0) then (qr (qy d N ((qr (qy d N ((qr (qy d N (x.1,(y1,(0,(x.2.2.2.1,()))))) ((0,()),(([]:List α),(0,())))).2.1,(y2,((qr (qy d N (x.1,(y1,(0,(x.2.2.2.1,()))))) ((0,()),(([]:List α),(0,())))).2.2.1,(x.2.2.2.1,()))))) ((0,()),(([]:List α),(0,())))).2.1,(y3,((qr (qy d N ((qr (qy d N (x.1,(y1,(0,(x.2.2.2.1,()))))) ((0,()),(([]:List α),(0,())))).2.1,(y2,((qr (qy d N (x.1,(y1,(0,(x.2.2.2.1,()))))) ((0,()),(([]:List α),(0,())))).2.2.1,(x.2.2.2.1,()))))) ((0,()),(([]:List α),(0,())))).2.2.1,(x.2.2.2.1,()))))) ((0,()),(([]:List α),(0,())))).2.2.1 else 0),(x.2.2.2.1,()))))))) ((0,()),(([]:List α),(0,())))).2.1 else x.1),()))))))))) else none))) else none))) else none))) else none)))
def qcX {α:Type} (d:α) (N:Nat) (x:((List α)×(Int×(Int×(((α×(α×Unit))→(Option (Int×Unit)))×Unit))))):(Option ((Bool×Unit)×((List α)×Unit))):=
 (qR (qS .i64 x.2.1 1) (fun y0=>(qab (S:=((List α)×(Int×(Int×Unit)))) (R:=((Bool×Unit)×((List α)×Unit))) N (fun ih1=>(fun p2=>(bif (ltI p2.2.2.1 5) then (qab (S:=((List α)×(Int×Unit))) (R:=((Bool×Unit)×((List α)×Unit))) N (fun ih3=>(fun p4=>(bif (((!(ltI p4.2.1 x.2.2.1))||(inB p4.2.1 (qn p4.1)))&&(((!(ltI p4.2.1 x.2.2.1))||(inB (qT .i64 p4.2.1 1) (qn p4.1)))&&((!(ltI p4.2.1 x.2.2.1))||(qt (x.2.2.2.1 ((qi p4.1 p4.2.1 d),((qi p4.1 (qT .i64 p4.2.1 1) d),()))))))) then (bif ((ltI p4.2.1 x.2.2.1)&&(!(ltI (qr (x.2.2.2.1 ((qi p4.1 p4.2.1 d),((qi p4.1 (qT .i64 p4.2.1 1) d),()))) (0,())).1 0))) then (ih3 (p4.1,((qS .i64 p4.2.1 1),()))) else (bif (eqI p4.2.1 x.2.2.1) then (some ((true,()),(p4.1,()))) else (bif (ltI (qT .i64 x.2.2.1 x.2.1) 50) then (some ((false,()),(p4.1,()))) else (bif ((inB (qT .i64 p4.2.1 1) (qn p4.1))&&((inB p4.2.1 (qn p4.1))&&((inB p4.2.1 (qn p4.1))&&(inB (qT .i64 p4.2.1 1) (qn (qbZ p4.1 p4.2.1 (qi p4.1 (qT .i64 p4.2.1 1) d))))))) then (bif (leI 2 (qT .i64 p4.2.1 x.2.1)) then (qab (S:=((List α)×(Int×Unit))) (R:=((Bool×Unit)×((List α)×Unit))) N (fun ih5=>(fun p6=>(bif (leI 1 p6.2.1) then (bif ((inB p6.2.1 (qn p6.1))&&((inB (qT .i64 p6.2.1 1) (qn p6.1))&&(qt (x.2.2.2.1 ((qi p6.1 p6.2.1 d),((qi p6.1 (qT .i64 p6.2.1 1) d),())))))) then (bif (!(ltI (qr (x.2.2.2.1 ((qi p6.1 p6.2.1 d),((qi p6.1 (qT .i64 p6.2.1 1) d),()))) (0,())).1 0)) then (bif (leI 2 (qT .i64 x.2.2.1 p4.2.1)) then (qab (S:=((List α)×(Int×Unit))) (R:=((Bool×Unit)×((List α)×Unit))) N (fun ih7=>(fun p8=>(bif (ltI p8.2.1 x.2.2.1) then (bif ((inB p8.2.1 (qn p8.1))&&((inB (qT .i64 p8.2.1 1) (qn p8.1))&&(qt (x.2.2.2.1 ((qi p8.1 p8.2.1 d),((qi p8.1 (qT .i64 p8.2.1 1) d),())))))) then (bif (!(ltI (qr (x.2.2.2.1 ((qi p8.1 p8.2.1 d),((qi p8.1 (qT .i64 p8.2.1 1) d),()))) (0,())).1 0)) then (ih1 (p8.1,(p4.2.1,((qS .i64 p2.2.2.1 1),())))) else (bif ((inB (qT .i64 p8.2.1 1) (qn p8.1))&&((inB p8.2.1 (qn p8.1))&&((inB p8.2.1 (qn p8.1))&&(inB (qT .i64 p8.2.1 1) (qn (qbZ p8.1 p8.2.1 (qi p8.1 (qT .i64 p8.2.1 1) d))))))) then (ih7 ((qbZ (qbZ p8.1 p8.2.1 (qi p8.1 (qT .i64 p8.2.1 1) d)) (qT .i64 p8.2.1 1) (qi p8.1 p8.2.1 d)),((qS .i64 p8.2.1 1),()))) else none)) else none) else (ih1 (p8.1,(p4.2.1,((qS .i64 p2.2.2.1 1),()))))))) (p6.1,((qS .i64 p4.2.1 1),()))) else (ih1 (p6.1,(p4.2.1,((qS .i64 p2.2.2.1 1),()))))) else (bif ((inB (qT .i64 p6.2.1 1) (qn p6.1))&&((inB p6.2.1 (qn p6.1))&&((inB p6.2.1 (qn p6.1))&&(inB (qT .i64 p6.2.1 1) (qn (qbZ p6.1 p6.2.1 (qi p6.1 (qT .i64 p6.2.1 1) d))))))) then (ih5 ((qbZ (qbZ p6.1 p6.2.1 (qi p6.1 (qT .i64 p6.2.1 1) d)) (qT .i64 p6.2.1 1) (qi p6.1 p6.2.1 d)),((qT .i64 p6.2.1 1),()))) else none)) else none) else (bif (leI 2 (qT .i64 x.2.2.1 p4.2.1)) then (qab (S:=((List α)×(Int×Unit))) (R:=((Bool×Unit)×((List α)×Unit))) N (fun ih7=>(fun p8=>(bif (ltI p8.2.1 x.2.2.1) then (bif ((inB p8.2.1 (qn p8.1))&&((inB (qT .i64 p8.2.1 1) (qn p8.1))&&(qt (x.2.2.2.1 ((qi p8.1 p8.2.1 d),((qi p8.1 (qT .i64 p8.2.1 1) d),())))))) then (bif (!(ltI (qr (x.2.2.2.1 ((qi p8.1 p8.2.1 d),((qi p8.1 (qT .i64 p8.2.1 1) d),()))) (0,())).1 0)) then (ih1 (p8.1,(p4.2.1,((qS .i64 p2.2.2.1 1),())))) else (bif ((inB (qT .i64 p8.2.1 1) (qn p8.1))&&((inB p8.2.1 (qn p8.1))&&((inB p8.2.1 (qn p8.1))&&(inB (qT .i64 p8.2.1 1) (qn (qbZ p8.1 p8.2.1 (qi p8.1 (qT .i64 p8.2.1 1) d))))))) then (ih7 ((qbZ (qbZ p8.1 p8.2.1 (qi p8.1 (qT .i64 p8.2.1 1) d)) (qT .i64 p8.2.1 1) (qi p8.1 p8.2.1 d)),((qS .i64 p8.2.1 1),()))) else none)) else none) else (ih1 (p8.1,(p4.2.1,((qS .i64 p2.2.2.1 1),()))))))) (p6.1,((qS .i64 p4.2.1 1),()))) else (ih1 (p6.1,(p4.2.1,((qS .i64 p2.2.2.1 1),())))))))) ((qbZ (qbZ p4.1 p4.2.1 (qi p4.1 (qT .i64 p4.2.1 1) d)) (qT .i64 p4.2.1 1) (qi p4.1 p4.2.1 d)),((qT .i64 p4.2.1 1),()))) else (bif (leI 2 (qT .i64 x.2.2.1 p4.2.1)) then (qab (S:=((List α)×(Int×Unit))) (R:=((Bool×Unit)×((List α)×Unit))) N (fun ih5=>(fun p6=>(bif (ltI p6.2.1 x.2.2.1) then (bif ((inB p6.2.1 (qn p6.1))&&((inB (qT .i64 p6.2.1 1) (qn p6.1))&&(qt (x.2.2.2.1 ((qi p6.1 p6.2.1 d),((qi p6.1 (qT .i64 p6.2.1 1) d),())))))) then (bif (!(ltI (qr (x.2.2.2.1 ((qi p6.1 p6.2.1 d),((qi p6.1 (qT .i64 p6.2.1 1) d),()))) (0,())).1 0)) then (ih1 (p6.1,(p4.2.1,((qS .i64 p2.2.2.1 1),())))) else (bif ((inB (qT .i64 p6.2.1 1) (qn p6.1))&&((inB p6.2.1 (qn p6.1))&&((inB p6.2.1 (qn p6.1))&&(inB (qT .i64 p6.2.1 1) (qn (qbZ p6.1 p6.2.1 (qi p6.1 (qT .i64 p6.2.1 1) d))))))) then (ih5 ((qbZ (qbZ p6.1 p6.2.1 (qi p6.1 (qT .i64 p6.2.1 1) d)) (qT .i64 p6.2.1 1) (qi p6.1 p6.2.1 d)),((qS .i64 p6.2.1 1),()))) else none)) else none) else (ih1 (p6.1,(p4.2.1,((qS .i64 p2.2.2.1 1),()))))))) ((qbZ (qbZ p4.1 p4.2.1 (qi p4.1 (qT .i64 p4.2.1 1) d)) (qT .i64 p4.2.1 1) (qi p4.1 p4.2.1 d)),((qS .i64 p4.2.1 1),()))) else (ih1 ((qbZ (qbZ p4.1 p4.2.1 (qi p4.1 (qT .i64 p4.2.1 1) d)) (qT .i64 p4.2.1 1) (qi p4.1 p4.2.1 d)),(p4.2.1,((qS .i64 p2.2.2.1 1),())))))) else none)))) else none))) (p2.1,(p2.2.1,()))) else (some ((false,()),(p2.1,())))))) (x.1,(y0,(0,()))))))
def qiG {α:Type} (d:α) (N:Nat) (x:((List α)×(Int×(Int×(Int×(((α×(α×Unit))→(Option (Int×Unit)))×Unit)))))):(Option ((Int×Unit)×((List α)×Unit))):=
 (bif ((inB x.2.2.2.1 (qn x.1))&&((inB x.2.1 (qn x.1))&&((inB x.2.1 (qn x.1))&&(inB x.2.2.2.1 (qn (qbZ x.1 x.2.1 (qi x.1 x.2.2.2.1 d))))))) then (qab (S:=((List α)×(Int×(Int×Unit)))) (R:=((Int×Unit)×((List α)×Unit))) N (fun ih0=>(fun p1=>(qab (S:=((List α)×(Int×(Int×Unit)))) (R:=((Int×Unit)×((List α)×Unit))) N (fun ih2=>(fun p3=>(bif (((!(leI p3.2.1 p3.2.2.1))||(inB x.2.1 (qn p3.1)))&&(((!(leI p3.2.1 p3.2.2.1))||(inB p3.2.1 (qn p3.1)))&&((!(leI p3.2.1 p3.2.2.1))||(qt (x.2.2.2.2.1 ((qi p3.1 x.2.1 d),((qi p3.1 p3.2.1 d),()))))))) then (bif ((leI p3.2.1 p3.2.2.1)&&(!(ltI (qr (x.2.2.2.2.1 ((qi p3.1 x.2.1 d),((qi p3.1 p3.2.1 d),()))) (0,())).1 0))) then (ih2 (p3.1,((qS .i64 p3.2.1 1),(p3.2.2.1,())))) else (qab (S:=((List α)×(Int×Unit))) (R:=((Int×Unit)×((List α)×Unit))) N (fun ih4=>(fun p5=>(bif (((!(leI p3.2.1 p5.2.1))||(inB x.2.1 (qn p5.1)))&&(((!(leI p3.2.1 p5.2.1))||(inB p5.2.1 (qn p5.1)))&&((!(leI p3.2.1 p5.2.1))||(qt (x.2.2.2.2.1 ((qi p5.1 x.2.1 d),((qi p5.1 p5.2.1 d),()))))))) then (bif ((leI p3.2.1 p5.2.1)&&(ltI (qr (x.2.2.2.2.1 ((qi p5.1 x.2.1 d),((qi p5.1 p5.2.1 d),()))) (0,())).1 0)) then (ih4 (p5.1,((qT .i64 p5.2.1 1),()))) else (bif (ltI p5.2.1 p3.2.1) then (some ((p3.2.1,()),(p5.1,()))) else (bif ((inB p5.2.1 (qn p5.1))&&((inB p3.2.1 (qn p5.1))&&((inB p3.2.1 (qn p5.1))&&(inB p5.2.1 (qn (qbZ p5.1 p3.2.1 (qi p5.1 p5.2.1 d))))))) then (qR (qS .i64 p3.2.1 1) (fun y6=>(ih0 ((qbZ (qbZ p5.1 p3.2.1 (qi p5.1 p5.2.1 d)) p5.2.1 (qi p5.1 p3.2.1 d)),(y6,((qT .i64 p5.2.1 1),())))))) else none))) else none))) (p3.1,(p3.2.2.1,())))) else none))) (p1.1,(p1.2.1,(p1.2.2.1,())))))) ((qbZ (qbZ x.1 x.2.1 (qi x.1 x.2.2.2.1 d)) x.2.2.2.1 (qi x.1 x.2.1 d)),((qS .i64 x.2.1 1),((qT .i64 x.2.2.1 1),())))) else none)
def qgw {α:Type} (d:α) (N:Nat) (x:((List α)×(Int×(Int×(Int×(((α×(α×Unit))→(Option (Int×Unit)))×Unit)))))):(Option ((Int×(Bool×Unit))×((List α)×Unit))):=
 (bif ((inB x.2.2.2.1 (qn x.1))&&((inB x.2.1 (qn x.1))&&((inB x.2.1 (qn x.1))&&(inB x.2.2.2.1 (qn (qbZ x.1 x.2.1 (qi x.1 x.2.2.2.1 d))))))) then (qab (S:=((List α)×(Int×Unit))) (R:=((Int×(Bool×Unit))×((List α)×Unit))) N (fun ih0=>(fun p1=>(bif (((!(leI p1.2.1 (qT .i64 x.2.2.1 1)))||(inB p1.2.1 (qn p1.1)))&&(((!(leI p1.2.1 (qT .i64 x.2.2.1 1)))||(inB x.2.1 (qn p1.1)))&&((!(leI p1.2.1 (qT .i64 x.2.2.1 1)))||(qt (x.2.2.2.2.1 ((qi p1.1 p1.2.1 d),((qi p1.1 x.2.1 d),()))))))) then (bif ((leI p1.2.1 (qT .i64 x.2.2.1 1))&&(ltI (qr (x.2.2.2.2.1 ((qi p1.1 p1.2.1 d),((qi p1.1 x.2.1 d),()))) (0,())).1 0)) then (ih0 (p1.1,((qS .i64 p1.2.1 1),()))) else (qab (S:=((List α)×(Int×Unit))) (R:=((Int×(Bool×Unit))×((List α)×Unit))) N (fun ih2=>(fun p3=>(bif (((!(leI p1.2.1 p3.2.1))||(inB p3.2.1 (qn p3.1)))&&(((!(leI p1.2.1 p3.2.1))||(inB x.2.1 (qn p3.1)))&&((!(leI p1.2.1 p3.2.1))||(qt (x.2.2.2.2.1 ((qi p3.1 p3.2.1 d),((qi p3.1 x.2.1 d),()))))))) then (bif ((leI p1.2.1 p3.2.1)&&(!(ltI (qr (x.2.2.2.2.1 ((qi p3.1 p3.2.1 d),((qi p3.1 x.2.1 d),()))) (0,())).1 0))) then (ih2 (p3.1,((qT .i64 p3.2.1 1),()))) else (bif (ltI p3.2.1 p1.2.1) then (bif ((inB x.2.1 (qn p3.1))&&((inB p3.2.1 (qn p3.1))&&((inB p3.2.1 (qn p3.1))&&(inB x.2.1 (qn (qbZ p3.1 p3.2.1 (qi p3.1 x.2.1 d))))))) then (some ((p3.2.1,(true,())),((qbZ (qbZ p3.1 p3.2.1 (qi p3.1 x.2.1 d)) x.2.1 (qi p3.1 p3.2.1 d)),()))) else none) else (bif ((inB p3.2.1 (qn p3.1))&&((inB p1.2.1 (qn p3.1))&&((inB p1.2.1 (qn p3.1))&&(inB p3.2.1 (qn (qbZ p3.1 p1.2.1 (qi p3.1 p3.2.1 d))))))) then (qR (qS .i64 p1.2.1 1) (fun y4=>(qab (S:=((List α)×(Int×(Int×Unit)))) (R:=((Int×(Bool×Unit))×((List α)×Unit))) N (fun ih5=>(fun p6=>(qab (S:=((List α)×(Int×(Int×Unit)))) (R:=((Int×(Bool×Unit))×((List α)×Unit))) N (fun ih7=>(fun p8=>(bif (((!(leI p8.2.1 p8.2.2.1))||(inB p8.2.1 (qn p8.1)))&&(((!(leI p8.2.1 p8.2.2.1))||(inB x.2.1 (qn p8.1)))&&((!(leI p8.2.1 p8.2.2.1))||(qt (x.2.2.2.2.1 ((qi p8.1 p8.2.1 d),((qi p8.1 x.2.1 d),()))))))) then (bif ((leI p8.2.1 p8.2.2.1)&&(ltI (qr (x.2.2.2.2.1 ((qi p8.1 p8.2.1 d),((qi p8.1 x.2.1 d),()))) (0,())).1 0)) then (ih7 (p8.1,((qS .i64 p8.2.1 1),(p8.2.2.1,())))) else (qab (S:=((List α)×(Int×Unit))) (R:=((Int×(Bool×Unit))×((List α)×Unit))) N (fun ih9=>(fun p10=>(bif (((!(leI p8.2.1 p10.2.1))||(inB p10.2.1 (qn p10.1)))&&(((!(leI p8.2.1 p10.2.1))||(inB x.2.1 (qn p10.1)))&&((!(leI p8.2.1 p10.2.1))||(qt (x.2.2.2.2.1 ((qi p10.1 p10.2.1 d),((qi p10.1 x.2.1 d),()))))))) then (bif ((leI p8.2.1 p10.2.1)&&(!(ltI (qr (x.2.2.2.2.1 ((qi p10.1 p10.2.1 d),((qi p10.1 x.2.1 d),()))) (0,())).1 0))) then (ih9 (p10.1,((qT .i64 p10.2.1 1),()))) else (bif (ltI p10.2.1 p8.2.1) then (bif ((inB x.2.1 (qn p10.1))&&((inB p10.2.1 (qn p10.1))&&((inB p10.2.1 (qn p10.1))&&(inB x.2.1 (qn (qbZ p10.1 p10.2.1 (qi p10.1 x.2.1 d))))))) then (some ((p10.2.1,(false,())),((qbZ (qbZ p10.1 p10.2.1 (qi p10.1 x.2.1 d)) x.2.1 (qi p10.1 p10.2.1 d)),()))) else none) else (bif ((inB p10.2.1 (qn p10.1))&&((inB p8.2.1 (qn p10.1))&&((inB p8.2.1 (qn p10.1))&&(inB p10.2.1 (qn (qbZ p10.1 p8.2.1 (qi p10.1 p10.2.1 d))))))) then (qR (qS .i64 p8.2.1 1) (fun y11=>(ih5 ((qbZ (qbZ p10.1 p8.2.1 (qi p10.1 p10.2.1 d)) p10.2.1 (qi p10.1 p8.2.1 d)),(y11,((qT .i64 p10.2.1 1),())))))) else none))) else none))) (p8.1,(p8.2.2.1,())))) else none))) (p6.1,(p6.2.1,(p6.2.2.1,())))))) ((qbZ (qbZ p3.1 p1.2.1 (qi p3.1 p3.2.1 d)) p3.2.1 (qi p3.1 p1.2.1 d)),(y4,((qT .i64 p3.2.1 1),())))))) else none))) else none))) (p1.1,((qT .i64 x.2.2.1 1),())))) else none))) ((qbZ (qbZ x.1 x.2.1 (qi x.1 x.2.2.2.1 d)) x.2.2.2.1 (qi x.1 x.2.1 d)),((qS .i64 x.2.1 1),()))) else none)
def qrv (x:(Int×Unit)):(Option ((Int×Unit)×(Int×Unit))):=
 (bif (leI 0 13) then (bif (leI 0 7) then (bif (leI 0 17) then (some (((qjZ .u64 (qjZ .u64 (qjZ .u64 x.1 (qlS .u64 x.1 13)) (qkW .u64 (qjZ .u64 x.1 (qlS .u64 x.1 13)) 7)) (qlS .u64 (qjZ .u64 (qjZ .u64 x.1 (qlS .u64 x.1 13)) (qkW .u64 (qjZ .u64 x.1 (qlS .u64 x.1 13)) 7)) 17)),()),((qjZ .u64 (qjZ .u64 (qjZ .u64 x.1 (qlS .u64 x.1 13)) (qkW .u64 (qjZ .u64 x.1 (qlS .u64 x.1 13)) 7)) (qlS .u64 (qjZ .u64 (qjZ .u64 x.1 (qlS .u64 x.1 13)) (qkW .u64 (qjZ .u64 x.1 (qlS .u64 x.1 13)) 7)) 17)),()))) else none) else none) else none)
def qtv (L:(Int×Unit)→Option ((Int×Unit)×Unit)) (x:(Int×Unit)):(Option ((Int×Unit)×Unit)):=
 (bif ((qt (L ((qc1 .u64 x.1),())))&&(leI 0 (qr (L ((qc1 .u64 x.1),())) ((0,()),())).1.1)) then (some (((qlS .u64 1 (qr (L ((qc1 .u64 x.1),())) ((0,()),())).1.1),()),())) else none)
def qhG {α:Type} (d:α) (N:Nat) (L:(Int×Unit)→Option ((Int×Unit)×Unit)) (x:((List α)×(Int×(Int×(((α×(α×Unit))→(Option (Int×Unit)))×Unit))))):(Option (Unit×((List α)×Unit))):=
 (qR (qT .i64 x.2.2.1 x.2.1) (fun y0=>(bif (leI 8 y0) then (bif (qt ((qtv L) (y0,()))) then (qR y0 (fun y1=>(qR (qr ((qtv L) (y0,())) ((0,()),())).1.1 (fun y2=>(bif (neI 4 0) then (qab (S:=((List α)×(Int×(Int×Unit)))) (R:=(Unit×((List α)×Unit))) N (fun ih3=>(fun p4=>(bif (neI 4 0) then (bif (leI p4.2.2.1 (qS .i64 (qS .i64 x.2.1 (qol .i64 (qrq .i64 y1 4) 2)) 1)) then (bif (qt (qrv (p4.2.1,()))) then (qR (qr (qrv (p4.2.1,())) ((0,()),(0,()))).2.1 (fun y5=>(qR (qc1 .i64 (qw9 .u64 (qr (qrv (p4.2.1,())) ((0,()),(0,()))).1.1 (qT .u64 y2 1))) (fun y6=>(qR y5 (fun y7=>(qR (bif (leI y1 y6) then (qT .i64 y6 y1) else y6) (fun y8=>(bif ((inB (qS .i64 x.2.1 y8) (qn p4.1))&&((inB p4.2.2.1 (qn p4.1))&&((inB p4.2.2.1 (qn p4.1))&&(inB (qS .i64 x.2.1 y8) (qn (qbZ p4.1 p4.2.2.1 (qi p4.1 (qS .i64 x.2.1 y8) d))))))) then (ih3 ((qbZ (qbZ p4.1 p4.2.2.1 (qi p4.1 (qS .i64 x.2.1 y8) d)) (qS .i64 x.2.1 y8) (qi p4.1 p4.2.2.1 d)),(y7,((qS .i64 p4.2.2.1 1),())))) else none))))))))) else none) else (some ((),(p4.1,())))) else none))) (x.1,((qc1 .u64 y0),((qT .i64 (qS .i64 x.2.1 (qol .i64 (qrq .i64 y1 4) 2)) 1),())))) else none))))) else none) else (some ((),(x.1,()))))))
def pdqS {α:Type} (d:α) (N:Nat) (L:(Int×Unit)→Option ((Int×Unit)×Unit)) (Fs:((List α)×(Int×(Int×(Int×(((α×(α×Unit))→(Option (Int×Unit)))×Unit)))))→(Option (Unit×((List α)×Unit)))) (x:((List α)×(Int×(Int×(Int×(((α×(α×Unit))→(Option (Int×Unit)))×Unit)))))):(Option (Unit×((List α)×Unit))):=
 (qab (S:=((List α)×(Int×(Int×(Int×(Bool×(Bool×Unit))))))) (R:=(Unit×((List α)×Unit))) N (fun ih0=>(fun p1=>(qR (qT .i64 p1.2.2.1 p1.2.1) (fun y2=>(bif (leI y2 12) then (bif (qt (qg2 d N (p1.1,(p1.2.1,(p1.2.2.1,(x.2.2.2.2.1,())))))) then (some ((),((qr (qg2 d N (p1.1,(p1.2.1,(p1.2.2.1,(x.2.2.2.2.1,()))))) ((),(([]:List α),()))).2.1,()))) else none) else (bif (eqI p1.2.2.2.1 0) then (bif (qt (qsy d N (p1.1,(p1.2.1,(p1.2.2.1,(x.2.2.2.2.1,())))))) then (some ((),((qr (qsy d N (p1.1,(p1.2.1,(p1.2.2.1,(x.2.2.2.2.1,()))))) ((),(([]:List α),()))).2.1,()))) else none) else (bif (bif (!p1.2.2.2.2.1) then (qt (qhG d N L (p1.1,(p1.2.1,(p1.2.2.1,(x.2.2.2.2.1,())))))) else true) then (qR (bif (!p1.2.2.2.2.1) then (qT .i64 p1.2.2.2.1 1) else p1.2.2.2.1) (fun y3=>(bif (qt (qgD d N ((bif (!p1.2.2.2.2.1) then (qr (qhG d N L (p1.1,(p1.2.1,(p1.2.2.1,(x.2.2.2.2.1,()))))) ((),(([]:List α),()))).2.1 else p1.1),(p1.2.1,(p1.2.2.1,(x.2.2.2.2.1,())))))) then (qR (qr (qgD d N ((bif (!p1.2.2.2.2.1) then (qr (qhG d N L (p1.1,(p1.2.1,(p1.2.2.1,(x.2.2.2.2.1,()))))) ((),(([]:List α),()))).2.1 else p1.1),(p1.2.1,(p1.2.2.1,(x.2.2.2.2.1,()))))) ((0,(0,())),(([]:List α),()))).2.1 (fun ys4=>(qR p1.2.1 (fun y5=>(qR p1.2.2.1 (fun y6=>(qR (qr (qgD d N ((bif (!p1.2.2.2.2.1) then (qr (qhG d N L (p1.1,(p1.2.1,(p1.2.2.1,(x.2.2.2.2.1,()))))) ((),(([]:List α),()))).2.1 else p1.1),(p1.2.1,(p1.2.2.1,(x.2.2.2.2.1,()))))) ((0,(0,())),(([]:List α),()))).1.1 (fun y7=>(qR (qr (qgD d N ((bif (!p1.2.2.2.2.1) then (qr (qhG d N L (p1.1,(p1.2.1,(p1.2.2.1,(x.2.2.2.2.1,()))))) ((),(([]:List α),()))).2.1 else p1.1),(p1.2.1,(p1.2.2.1,(x.2.2.2.2.1,()))))) ((0,(0,())),(([]:List α),()))).1.2.1 (fun y8=>(bif (bif (eqI y8 2) then (qt (qbU d N (ys4,(y5,(y6,(x.2.2.2.2.1,())))))) else true) then (qR (bif (eqI y8 2) then (qT .i64 (qT .i64 y6 1) (qT .i64 y7 y5)) else y7) (fun y9=>(qR (bif (eqI y8 2) then 1 else y8) (fun y10=>(qR ((p1.2.2.2.2.1&&p1.2.2.2.2.2.1)&&(eqI y10 1)) (fun y11=>(bif y11 then (bif (qt (qcX d N ((bif (eqI y8 2) then (qr (qbU d N (ys4,(y5,(y6,(x.2.2.2.2.1,()))))) ((),(([]:List α),()))).2.1 else ys4),(y5,(y6,(x.2.2.2.2.1,())))))) then (bif (qr (qcX d N ((bif (eqI y8 2) then (qr (qbU d N (ys4,(y5,(y6,(x.2.2.2.2.1,()))))) ((),(([]:List α),()))).2.1 else ys4),(y5,(y6,(x.2.2.2.2.1,()))))) ((false,()),(([]:List α),()))).1.1 then (some ((),((qr (qcX d N ((bif (eqI y8 2) then (qr (qbU d N (ys4,(y5,(y6,(x.2.2.2.2.1,()))))) ((),(([]:List α),()))).2.1 else ys4),(y5,(y6,(x.2.2.2.2.1,()))))) ((false,()),(([]:List α),()))).2.1,()))) else (bif (((!(ltI 0 y5))||(inB (qT .i64 y5 1) (qn (qr (qcX d N ((bif (eqI y8 2) then (qr (qbU d N (ys4,(y5,(y6,(x.2.2.2.2.1,()))))) ((),(([]:List α),()))).2.1 else ys4),(y5,(y6,(x.2.2.2.2.1,()))))) ((false,()),(([]:List α),()))).2.1)))&&(((!(ltI 0 y5))||(inB y9 (qn (qr (qcX d N ((bif (eqI y8 2) then (qr (qbU d N (ys4,(y5,(y6,(x.2.2.2.2.1,()))))) ((),(([]:List α),()))).2.1 else ys4),(y5,(y6,(x.2.2.2.2.1,()))))) ((false,()),(([]:List α),()))).2.1)))&&((!(ltI 0 y5))||(qt (x.2.2.2.2.1 ((qi (qr (qcX d N ((bif (eqI y8 2) then (qr (qbU d N (ys4,(y5,(y6,(x.2.2.2.2.1,()))))) ((),(([]:List α),()))).2.1 else ys4),(y5,(y6,(x.2.2.2.2.1,()))))) ((false,()),(([]:List α),()))).2.1 (qT .i64 y5 1) d),((qi (qr (qcX d N ((bif (eqI y8 2) then (qr (qbU d N (ys4,(y5,(y6,(x.2.2.2.2.1,()))))) ((),(([]:List α),()))).2.1 else ys4),(y5,(y6,(x.2.2.2.2.1,()))))) ((false,()),(([]:List α),()))).2.1 y9 d),()))))))) then (qR ((ltI 0 y5)&&(!(ltI (qr (x.2.2.2.2.1 ((qi (qr (qcX d N ((bif (eqI y8 2) then (qr (qbU d N (ys4,(y5,(y6,(x.2.2.2.2.1,()))))) ((),(([]:List α),()))).2.1 else ys4),(y5,(y6,(x.2.2.2.2.1,()))))) ((false,()),(([]:List α),()))).2.1 (qT .i64 y5 1) d),((qi (qr (qcX d N ((bif (eqI y8 2) then (qr (qbU d N (ys4,(y5,(y6,(x.2.2.2.2.1,()))))) ((),(([]:List α),()))).2.1 else ys4),(y5,(y6,(x.2.2.2.2.1,()))))) ((false,()),(([]:List α),()))).2.1 y9 d),()))) (0,())).1 0))) (fun y12=>(bif y12 then (bif (qt (qiG d N ((qr (qcX d N ((bif (eqI y8 2) then (qr (qbU d N (ys4,(y5,(y6,(x.2.2.2.2.1,()))))) ((),(([]:List α),()))).2.1 else ys4),(y5,(y6,(x.2.2.2.2.1,()))))) ((false,()),(([]:List α),()))).2.1,(y5,(y6,(y9,(x.2.2.2.2.1,()))))))) then (qR (qr (qiG d N ((qr (qcX d N ((bif (eqI y8 2) then (qr (qbU d N (ys4,(y5,(y6,(x.2.2.2.2.1,()))))) ((),(([]:List α),()))).2.1 else ys4),(y5,(y6,(x.2.2.2.2.1,()))))) ((false,()),(([]:List α),()))).2.1,(y5,(y6,(y9,(x.2.2.2.2.1,())))))) ((0,()),(([]:List α),()))).2.1 (fun ys13=>(qR y6 (fun y14=>(qR (qr (qiG d N ((qr (qcX d N ((bif (eqI y8 2) then (qr (qbU d N (ys4,(y5,(y6,(x.2.2.2.2.1,()))))) ((),(([]:List α),()))).2.1 else ys4),(y5,(y6,(x.2.2.2.2.1,()))))) ((false,()),(([]:List α),()))).2.1,(y5,(y6,(y9,(x.2.2.2.2.1,())))))) ((0,()),(([]:List α),()))).1.1 (fun y15=>(ih0 (ys13,(y15,(y14,(y3,(p1.2.2.2.2.1,(p1.2.2.2.2.2.1,()))))))))))))) else none) else (bif (qt (qgw d N ((qr (qcX d N ((bif (eqI y8 2) then (qr (qbU d N (ys4,(y5,(y6,(x.2.2.2.2.1,()))))) ((),(([]:List α),()))).2.1 else ys4),(y5,(y6,(x.2.2.2.2.1,()))))) ((false,()),(([]:List α),()))).2.1,(y5,(y6,(y9,(x.2.2.2.2.1,()))))))) then (qR (qr (qgw d N ((qr (qcX d N ((bif (eqI y8 2) then (qr (qbU d N (ys4,(y5,(y6,(x.2.2.2.2.1,()))))) ((),(([]:List α),()))).2.1 else ys4),(y5,(y6,(x.2.2.2.2.1,()))))) ((false,()),(([]:List α),()))).2.1,(y5,(y6,(y9,(x.2.2.2.2.1,())))))) ((0,(false,())),(([]:List α),()))).2.1 (fun ys13=>(qR y5 (fun y14=>(qR y6 (fun y15=>(qR (qr (qgw d N ((qr (qcX d N ((bif (eqI y8 2) then (qr (qbU d N (ys4,(y5,(y6,(x.2.2.2.2.1,()))))) ((),(([]:List α),()))).2.1 else ys4),(y5,(y6,(x.2.2.2.2.1,()))))) ((false,()),(([]:List α),()))).2.1,(y5,(y6,(y9,(x.2.2.2.2.1,())))))) ((0,(false,())),(([]:List α),()))).1.1 (fun y16=>(qR (qr (qgw d N ((qr (qcX d N ((bif (eqI y8 2) then (qr (qbU d N (ys4,(y5,(y6,(x.2.2.2.2.1,()))))) ((),(([]:List α),()))).2.1 else ys4),(y5,(y6,(x.2.2.2.2.1,()))))) ((false,()),(([]:List α),()))).2.1,(y5,(y6,(y9,(x.2.2.2.2.1,())))))) ((0,(false,())),(([]:List α),()))).1.2.1 (fun y17=>(qR (qT .i64 y16 y14) (fun y18=>(qR (qT .i64 y15 y16) (fun y19=>(bif (neI 8 0) then (qR (qrq .i64 y2 8) (fun y20=>(bif (bif (ltI y18 y19) then (qt (Fs (ys13,(y14,(y16,(y3,(x.2.2.2.2.1,()))))))) else (qt (Fs (ys13,((qS .i64 y16 1),(y15,(y3,(x.2.2.2.2.1,())))))))) then (ih0 ((bif (ltI y18 y19) then (qr (Fs (ys13,(y14,(y16,(y3,(x.2.2.2.2.1,())))))) ((),(([]:List α),()))).2.1 else (qr (Fs (ys13,((qS .i64 y16 1),(y15,(y3,(x.2.2.2.2.1,())))))) ((),(([]:List α),()))).2.1),((bif (ltI y18 y19) then (qS .i64 y16 1) else y14),((bif (ltI y18 y19) then y15 else y16),(y3,((bif (ltI y18 y19) then (leI y20 y18) else (leI y20 y19)),(y17,()))))))) else none))) else none))))))))))))))) else none)))) else none)) else none) else (bif (((!(ltI 0 y5))||(inB (qT .i64 y5 1) (qn (bif (eqI y8 2) then (qr (qbU d N (ys4,(y5,(y6,(x.2.2.2.2.1,()))))) ((),(([]:List α),()))).2.1 else ys4))))&&(((!(ltI 0 y5))||(inB y9 (qn (bif (eqI y8 2) then (qr (qbU d N (ys4,(y5,(y6,(x.2.2.2.2.1,()))))) ((),(([]:List α),()))).2.1 else ys4))))&&((!(ltI 0 y5))||(qt (x.2.2.2.2.1 ((qi (bif (eqI y8 2) then (qr (qbU d N (ys4,(y5,(y6,(x.2.2.2.2.1,()))))) ((),(([]:List α),()))).2.1 else ys4) (qT .i64 y5 1) d),((qi (bif (eqI y8 2) then (qr (qbU d N (ys4,(y5,(y6,(x.2.2.2.2.1,()))))) ((),(([]:List α),()))).2.1 else ys4) y9 d),()))))))) then (qR ((ltI 0 y5)&&(!(ltI (qr (x.2.2.2.2.1 ((qi (bif (eqI y8 2) then (qr (qbU d N (ys4,(y5,(y6,(x.2.2.2.2.1,()))))) ((),(([]:List α),()))).2.1 else ys4) (qT .i64 y5 1) d),((qi (bif (eqI y8 2) then (qr (qbU d N (ys4,(y5,(y6,(x.2.2.2.2.1,()))))) ((),(([]:List α),()))).2.1 else ys4) y9 d),()))) (0,())).1 0))) (fun y12=>(bif y12 then (bif (qt (qiG d N ((bif (eqI y8 2) then (qr (qbU d N (ys4,(y5,(y6,(x.2.2.2.2.1,()))))) ((),(([]:List α),()))).2.1 else ys4),(y5,(y6,(y9,(x.2.2.2.2.1,()))))))) then (qR (qr (qiG d N ((bif (eqI y8 2) then (qr (qbU d N (ys4,(y5,(y6,(x.2.2.2.2.1,()))))) ((),(([]:List α),()))).2.1 else ys4),(y5,(y6,(y9,(x.2.2.2.2.1,())))))) ((0,()),(([]:List α),()))).2.1 (fun ys13=>(qR y6 (fun y14=>(qR (qr (qiG d N ((bif (eqI y8 2) then (qr (qbU d N (ys4,(y5,(y6,(x.2.2.2.2.1,()))))) ((),(([]:List α),()))).2.1 else ys4),(y5,(y6,(y9,(x.2.2.2.2.1,())))))) ((0,()),(([]:List α),()))).1.1 (fun y15=>(ih0 (ys13,(y15,(y14,(y3,(p1.2.2.2.2.1,(p1.2.2.2.2.2.1,()))))))))))))) else none) else (bif (qt (qgw d N ((bif (eqI y8 2) then (qr (qbU d N (ys4,(y5,(y6,(x.2.2.2.2.1,()))))) ((),(([]:List α),()))).2.1 else ys4),(y5,(y6,(y9,(x.2.2.2.2.1,()))))))) then (qR (qr (qgw d N ((bif (eqI y8 2) then (qr (qbU d N (ys4,(y5,(y6,(x.2.2.2.2.1,()))))) ((),(([]:List α),()))).2.1 else ys4),(y5,(y6,(y9,(x.2.2.2.2.1,())))))) ((0,(false,())),(([]:List α),()))).2.1 (fun ys13=>(qR y5 (fun y14=>(qR y6 (fun y15=>(qR (qr (qgw d N ((bif (eqI y8 2) then (qr (qbU d N (ys4,(y5,(y6,(x.2.2.2.2.1,()))))) ((),(([]:List α),()))).2.1 else ys4),(y5,(y6,(y9,(x.2.2.2.2.1,())))))) ((0,(false,())),(([]:List α),()))).1.1 (fun y16=>(qR (qr (qgw d N ((bif (eqI y8 2) then (qr (qbU d N (ys4,(y5,(y6,(x.2.2.2.2.1,()))))) ((),(([]:List α),()))).2.1 else ys4),(y5,(y6,(y9,(x.2.2.2.2.1,())))))) ((0,(false,())),(([]:List α),()))).1.2.1 (fun y17=>(qR (qT .i64 y16 y14) (fun y18=>(qR (qT .i64 y15 y16) (fun y19=>(bif (neI 8 0) then (qR (qrq .i64 y2 8) (fun y20=>(bif (bif (ltI y18 y19) then (qt (Fs (ys13,(y14,(y16,(y3,(x.2.2.2.2.1,()))))))) else (qt (Fs (ys13,((qS .i64 y16 1),(y15,(y3,(x.2.2.2.2.1,())))))))) then (ih0 ((bif (ltI y18 y19) then (qr (Fs (ys13,(y14,(y16,(y3,(x.2.2.2.2.1,())))))) ((),(([]:List α),()))).2.1 else (qr (Fs (ys13,((qS .i64 y16 1),(y15,(y3,(x.2.2.2.2.1,())))))) ((),(([]:List α),()))).2.1),((bif (ltI y18 y19) then (qS .i64 y16 1) else y14),((bif (ltI y18 y19) then y15 else y16),(y3,((bif (ltI y18 y19) then (leI y20 y18) else (leI y20 y19)),(y17,()))))))) else none))) else none))))))))))))))) else none)))) else none)))))))) else none))))))))))) else none))) else none))))))) (x.1,(x.2.1,(x.2.2.1,(x.2.2.2.1,(true,(true,())))))))
def pdqG {α:Type} (d:α) (N:Nat) (L:(Int×Unit)→Option ((Int×Unit)×Unit)) (M:Nat):((List α)×(Int×(Int×(Int×(((α×(α×Unit))→(Option (Int×Unit)))×Unit)))))→(Option (Unit×((List α)×Unit))):=
 Nat.rec (motive:=fun _=>((List α)×(Int×(Int×(Int×(((α×(α×Unit))→(Option (Int×Unit)))×Unit)))))→(Option (Unit×((List α)×Unit)))) (fun _=>none) (fun _ Fs=>pdqS d N L Fs) M
def quD {α:Type} (d:α) (N:Nat) (L:(Int×Unit)→Option ((Int×Unit)×Unit)) (x:((List α)×(((α×(α×Unit))→(Option (Int×Unit)))×Unit))):(Option (Unit×((List α)×Unit))):=
 (qR (qn x.1) (fun y0=>(bif ((qt (L ((qc1 .u64 y0),())))&&(qt (pdqG d N L N (x.1,(0,(y0,((qr (L ((qc1 .u64 y0),())) ((0,()),())).1.1,(x.2.1,())))))))) then (some ((),((qr (pdqG d N L N (x.1,(0,(y0,((qr (L ((qc1 .u64 y0),())) ((0,()),())).1.1,(x.2.1,())))))) ((),(([]:List α),()))).2.1,()))) else none)))
theorem qas {S R:Type} {st:(S→Option R)→S→Option R} (μ:S→Nat) (I:S→Prop) (Q:Option R→Prop)
  (hs:∀ih p,I p→(∀q,I q→μ q<μ p→Q (ih q))→Q (st ih p)):∀(N:Nat) (p:S),I p→μ p<N→Q (qab N st p)
 |0,p,_,h=>by omega
 |N+1,p,hI,h=>by
  rw [qaN]
  exact hs _ p hI fun q hq hm=>qas μ I Q hs N q hq (by omega)
structure Cmp {α:Type} (P:α→Prop) (φ:(α×(α×Unit))→Option (Int×Unit)) (le:α→α→Prop):Prop where
 ans:∀a b,P a→P b→∃c,φ (a,(b,()))=some (c,())∧(c<0↔¬le b a)
 tot:∀a b,P a→P b→le a b∨le b a
 trans:∀a b c,P a→P b→P c→le a b→le b c→le a c
section
variable {α:Type} {P:α→Prop} {n:Nat} (d:α) {φ:(α×(α×Unit))→Option (Int×Unit)} {le:α→α→Prop} {N:Nat}
theorem Cmp.refl (h:Cmp P φ le) {a:α} (ha:P a):le a a:=(h.tot a a ha ha).elim id id
structure Seg (d:α) (n:Nat) (a b:Int) (xs ys:List α):Prop where
 perm:ys.Perm xs
 out:∀k:Int,0≤k→k<(n:Int)→(k<a∨b≤k)→qi ys k d=qi xs k d
 inn:∀k:Int,a≤k→k<b→∃m,a≤m∧m<b∧qi ys k d=qi xs m d
theorem Seg.refl (a b:Int) (xs:List α):Seg d n a b xs xs:=⟨.refl _,fun _ _ _ _=>rfl,fun k h1 h2=>⟨k,h1,h2,rfl⟩⟩
theorem Seg.trans {a b:Int} {xs ys zs:List α} (h1:Seg d n a b xs ys) (h2:Seg d n a b ys zs):Seg d n a b xs zs:=
 ⟨h2.perm.trans h1.perm,fun k q1 q2 q3=>(h2.out k q1 q2 q3).trans (h1.out k q1 q2 q3),fun k q1 q2=>by
  obtain ⟨m,m1,m2,m3⟩:=h2.inn k q1 q2
  obtain ⟨l,l1,l2,l3⟩:=h1.inn m m1 m2
  exact ⟨l,l1,l2,m3.trans l3⟩⟩
theorem Seg.mono {a b a' b':Int} {xs ys:List α} (h:Seg d n a b xs ys) (h0:0≤a') (hn:b'≤(n:Int)) (ha:a'≤a) (hb:b≤b'):Seg d n a' b' xs ys:=
 ⟨h.perm,fun k q1 q2 q3=>h.out k q1 q2 (by omega),fun k q1 q2=>by
  by_cases hk:a≤k∧k<b
  ·obtain ⟨m,m1,m2,m3⟩:=h.inn k hk.1 hk.2
   exact ⟨m,by omega,by omega,m3⟩
  ·exact ⟨k,q1,q2,h.out k (by omega) (by omega) (by omega)⟩⟩
theorem Seg.ck {a b:Int} {xs ys:List α} (h:Seg d n a b xs ys) (hx:Ck P n xs):Ck P n ys:=
 ⟨by rw [h.perm.length_eq]; exact hx.len,fun x q=>hx.all x (h.perm.mem_iff.1 q)⟩
theorem qqM {xs:List α} (hl:xs.length=n) {i k:Int} (h0:0≤i) (h1:i<(n:Int)) (h2:0≤k) (v:α):qi (qbZ xs i v) k d=if k=i then v else qi xs k d:=by
 rw [qdf,qdf,qbj]
 by_cases h:k=i
 ·subst h
  rw [if_pos rfl,List.getD_eq_getElem?_getD,List.getElem?_set_self (by omega)]
  rfl
 ·rw [if_neg h,List.getD_eq_getElem?_getD,List.getD_eq_getElem?_getD,List.getElem?_set_ne (by omega)]
def swp (xs:List α) (i j:Int):List α:=qbZ (qbZ xs i (qi xs j d)) j (qi xs i d)
theorem qeI {xs:List α} (hl:xs.length=n) {i j:Int} (i0:0≤i) (i1:i<(n:Int)) (j0:0≤j) (j1:j<(n:Int)) (k:Int) (h2:0≤k):qi (swp d xs i j) k d=if k=j then qi xs i d else if k=i then qi xs j d else qi xs k d:=by
 unfold swp
 rw [qqM d (n:=n) (by rw [qbj,List.length_set]; exact hl) j0 j1 h2,qqM d hl i0 i1 h2]
theorem qdQ {xs:List α} (hl:xs.length=n) {a b i j:Int} (a0:0≤a) (bn:b≤(n:Int)) (i0:a≤i) (i1:i<b) (j0:a≤j) (j1:j<b):Seg d n a b xs (swp d xs i j):=by
 have g:=qeI d hl (i:=i) (j:=j) (by omega) (by omega) (by omega) (by omega)
 refine ⟨?_,fun k q1 q2 q3=> ?_,fun k q1 q2=> ?_⟩
 ·unfold swp
  have hi:i.toNat<xs.length:=by omega
  have hj:j.toNat<xs.length:=by omega
  have e1:qi xs i d=xs[i.toNat]:=by rw [qdf,List.getD_eq_getElem?_getD,List.getElem?_eq_getElem hi]; rfl
  have e2:qi xs j d=xs[j.toNat]:=by rw [qdf,List.getD_eq_getElem?_getD,List.getElem?_eq_getElem hj]; rfl
  rw [e1,e2,qbj,qbj]
  exact List.set_set_perm hi hj
 ·rw [g k q1,if_neg (by omega),if_neg (by omega)]
 ·rw [g k (by omega)]
  by_cases h1:k=j
  ·exact ⟨i,i0,i1,by rw [if_pos h1]⟩
  ·by_cases h2:k=i
   ·exact ⟨j,j0,j1,by rw [if_neg h1,if_pos h2]⟩
   ·exact ⟨k,q1,q2,by rw [if_neg h1,if_neg h2]⟩
theorem swp_inB (xs:List α) (i j k:Int) (v w:α):inB k (qn (qbZ (qbZ xs i v) j w))=inB k (qn xs):=by
 rw [qcZ,qcZ,qj,qj,qbj,qbj,List.length_set,List.length_set]
theorem qds (xs:List α) (i k:Int) (v:α):inB k (qn (qbZ xs i v))=inB k (qn xs):=by
 rw [qcZ,qcZ,qj,qj,qbj,List.length_set]
def Srt (d:α) (le:α→α→Prop) (a b:Int) (xs:List α):Prop:=∀i j,a≤i→i≤j→j<b→le (qi xs i d) (qi xs j d)
def qlQ (P:α→Prop) (d:α) (n:Nat) (le:α→α→Prop) (a b:Int) (xs:List α) (r:Option (Unit×(List α×Unit))):Prop:=∃out,r=some ((),(out,()))∧Seg d n a b xs out∧Srt d le a b out
theorem qmq (hφ:Cmp P φ le) (hn:n≤1099511627776) (hN:n+1<N) {xs:List α} (h:Ck P n xs) {a b:Int} (ha:0≤a) (ha2:a≤(n:Int)) (hb:b≤(n:Int)):qlQ P d n le a b xs (qg2 d N (xs,(a,(b,(φ,()))))):=by
 simp only [qg2]
 have ea:qS .i64 a 1=a+1:=qat (by omega) (by omega)
 rw [ea]
 by_cases hab:¬a<b
 ·obtain ⟨M,rfl⟩:∃M,N=M+1:=⟨N - 1,by omega⟩
  rw [qaN]
  simp only [ltF (show ¬a+1<b by omega),cond_false]
  exact ⟨xs,rfl,.refl d a b xs,fun i j h1 h2 h3=>by omega⟩
 refine qas (S:=List α×(Int×Unit)) (fun p=>(b - p.2.1).toNat) (fun p=>Seg d n a b xs p.1∧a+1≤p.2.1∧p.2.1≤(n:Int)+1∧Srt d le a p.2.1 p.1) (qlQ P d n le a b xs) ?_ N _ ⟨.refl d a b xs,by simp only; omega,by simp only; omega,fun i j h1 h2 h3=>by
  simp only at h3
  have:i=j:=by omega
  subst this
  exact hφ.refl (h.get d (by omega) (by omega))⟩ (by simp only; omega)
 rintro ih ⟨ys,i,⟨⟩⟩ ⟨hs,hi,hi2,hsrt⟩ hih
 simp only at hs hi hi2 hsrt hih⊢
 by_cases hc:i<b
 ·simp only [ltT hc,cond_true]
  refine qas (S:=List α×(Int×Unit)) (fun p=>(p.2.1 - a).toNat) (fun p=>Seg d n a b xs p.1∧a≤p.2.1∧p.2.1≤i∧∀x y,a≤x→x<y→y≤i→y≠p.2.1→le (qi p.1 x d) (qi p.1 y d)) (qlQ P d n le a b xs) ?_ N _ ⟨hs,by simp only; omega,by simp only; omega,fun x y h1 h2 h3 h4=>hsrt x y h1 (by omega) (by simp only at h4⊢; omega)⟩ (by simp only; omega)
  rintro jh ⟨zs,j,⟨⟩⟩ ⟨hz,hj1,hj2,hord⟩ hjh
  simp only at hz hj1 hj2 hord hjh⊢
  have hzc:=hz.ck d h
  have ei:qS .i64 i 1=i+1:=qat (by omega) (by omega)
  have fin:(a<j→le (qi zs (j - 1) d) (qi zs j d))→Srt d le a (i+1) zs:=fun hle x y h1 h2 h3=>by
   by_cases hxy:x=y
   ·subst hxy; exact hφ.refl (hzc.get d (by omega) (by omega))
   by_cases hyj:y=j
   ·subst hyj
    by_cases hx:x=y - 1
    ·rw [hx]; exact hle (by omega)
    ·exact hφ.trans _ _ _ (hzc.get d (by omega) (by omega)) (hzc.get d (i:=y - 1) (by omega) (by omega)) (hzc.get d (by omega) (by omega)) (hord x (y - 1) h1 (by omega) (by omega) (by omega)) (hle (by omega))
   ·exact hord x y h1 (by omega) (by omega) hyj
  by_cases hja:a<j
  ·have s1:qT .i64 j 1=j - 1:=qam (by omega) (by omega)
   have pj:=hzc.get d (i:=j) (by omega) (by omega)
   have pk:=hzc.get d (i:=j - 1) (by omega) (by omega)
   obtain ⟨c,e1,e3⟩:=hφ.ans _ _ pj pk
   have b1:=hzc.inB (i:=j) (by omega) (by omega)
   have b2:=hzc.inB (i:=j - 1) (by omega) (by omega)
   simp only [ltT hja,s1,b1,b2,e1,qf,qh,Bool.not_true,Bool.false_or,Bool.and_self,cond_true,Bool.true_and,qds]
   by_cases hc0:c<0
   ·simp only [ltT hc0,cond_true]
    have hnle:=e3.1 hc0
    have hle:le (qi zs j d) (qi zs (j - 1) d):=(hφ.tot _ _ pj pk).elim id (fun q=>absurd q hnle)
    have hsg:=qdQ d hzc.len (a:=a) (b:=b) (i:=j) (j:=j - 1) ha hb (by omega) (by omega) (by omega) (by omega)
    have g:=qeI d hzc.len (i:=j) (j:=j - 1) (by omega) (by omega) (by omega) (by omega)
    refine hjh (swp d zs j (j - 1),(j - 1,())) ⟨hz.trans d hsg,by simp only; omega,by simp only; omega,fun x y h1 h2 h3 h4=> ?_⟩ (by simp only; omega)
    simp only at h4⊢
    rw [g x (by omega),g y (by omega)]
    rw [if_neg h4]
    by_cases hy:y=j
    ·rw [if_pos hy]
     by_cases hx:x=j - 1
     ·rw [if_pos hx]; exact hle
     ·rw [if_neg hx,if_neg (by omega)]; exact hord x (j - 1) h1 (by omega) (by omega) (by omega)
    ·rw [if_neg hy]
     by_cases hx:x=j - 1
     ·rw [if_pos hx]; exact hord j y (by omega) (by omega) h3 hy
     ·rw [if_neg hx]
      by_cases hx2:x=j
      ·rw [if_pos hx2]; exact hord (j - 1) y (by omega) (by omega) h3 hy
      ·rw [if_neg hx2]; exact hord x y h1 h2 h3 hy
   ·simp only [ltF hc0,cond_false,ei]
    have hle:le (qi zs (j - 1) d) (qi zs j d):=Classical.byContradiction fun q=>hc0 (e3.2 q)
    exact hih _ ⟨hz,by simp only; omega,by simp only; omega,fin fun _=>hle⟩ (by simp only; omega)
  ·simp only [ltF hja,Bool.not_false,Bool.true_or,Bool.and_self,cond_true,Bool.false_and,cond_false,ei]
   exact hih _ ⟨hz,by simp only; omega,by simp only; omega,fin fun q=>absurd q hja⟩ (by simp only; omega)
 ·simp only [ltF hc,cond_false]
  exact ⟨ys,rfl,hs,fun x y h1 h2 h3=>hsrt x y h1 h2 (by omega)⟩
def qxE (d:α) (le:α→α→Prop) (f hi:Int) (ys:List α) (k:Int):Prop:=(2 * k+1<hi→le (qi ys (f+(2 * k+1)) d) (qi ys (f+k) d))∧(2 * k+2<hi→le (qi ys (f+(2 * k+2)) d) (qi ys (f+k) d))
theorem qwY (hφ:Cmp P φ le) {ys:List α} (h:Ck P n ys) {f hi:Int} (f0:0≤f) (fn:f+hi≤(n:Int)) (hp:∀k,0≤k→k<hi→qxE d le f hi ys k):∀(m:Nat),(m:Int)<hi→le (qi ys (f+m) d) (qi ys (f+0) d):=by
 intro m
 induction m using Nat.strongRecOn with
 |ind m ih=>
  intro hm
  by_cases h0:m=0
  ·subst h0; exact hφ.refl (h.get d (by omega) (by omega))
  ·have hpp:=hp (((m - 1) / 2:Nat):Int) (by omega) (by omega)
   have ihp:=ih ((m - 1) / 2) (by omega) (by omega)
   refine hφ.trans _ _ _ (h.get d (by omega) (by omega)) (h.get d (i:=f+(((m - 1) / 2:Nat):Int)) (by omega) (by omega)) (h.get d (by omega) (by omega)) ?_ ihp
   rcases Nat.mod_two_eq_zero_or_one (m - 1) with hq|hq
   ·have:=hpp.1 (by omega)
    rwa [show f+(2 * (((m - 1) / 2:Nat):Int)+1)=f+(m:Int) by omega] at this
   ·have:=hpp.2 (by omega)
    rwa [show f+(2 * (((m - 1) / 2:Nat):Int)+2)=f+(m:Int) by omega] at this
structure Sft (d:α) (le:α→α→Prop) (f lo hi:Int) (ys:List α) (r:Int):Prop where
 rest:∀k,lo≤k→k<hi→k≠r→qxE d le f hi ys k
 up:∀p,lo≤p→(2 * p+1=r∨2 * p+2=r)→(2 * r+1<hi→le (qi ys (f+(2 * r+1)) d) (qi ys (f+p) d))∧(2 * r+2<hi→le (qi ys (f+(2 * r+2)) d) (qi ys (f+p) d))
theorem Sft.done {f lo hi:Int} {ys:List α} {r:Int} (h:Sft d le f lo hi ys r) (hr:qxE d le f hi ys r):∀k,lo≤k→k<hi→qxE d le f hi ys k:=fun k h1 h2=>by
 by_cases hk:k=r
 ·rw [hk]; exact hr
 ·exact h.rest k h1 h2 hk
theorem Sft.step (hφ:Cmp P φ le) {ys:List α} (hc:Ck P n ys) {f lo hi:Int} (f0:0≤f) (fn:f+hi≤(n:Int)) (l0:0≤lo) {r c:Int} (h:Sft d le f lo hi ys r) (hr:lo≤r) (hcr:c=2 * r+1∨c=2 * r+2) (hch:c<hi)
  (hle:le (qi ys (f+r) d) (qi ys (f+c) d)) (hmax:∀o,(o=2 * r+1∨o=2 * r+2)→o<hi→le (qi ys (f+o) d) (qi ys (f+c) d)):Sft d le f lo hi (swp d ys (f+r) (f+c)) c:=by
 have g:=qeI d hc.len (i:=f+r) (j:=f+c) (by omega) (by omega) (by omega) (by omega)
 have gc:qi (swp d ys (f+r) (f+c)) (f+c) d=qi ys (f+r) d:=by rw [g _ (by omega),if_pos rfl]
 have gr:qi (swp d ys (f+r) (f+c)) (f+r) d=qi ys (f+c) d:=by rw [g _ (by omega),if_neg (by omega),if_pos rfl]
 have go:∀k,0≤k→k≠r→k≠c→qi (swp d ys (f+r) (f+c)) (f+k) d=qi ys (f+k) d:=fun k h0 h1 h2=>by rw [g _ (by omega),if_neg (by omega),if_neg (by omega)]
 have key:∀k,lo≤k→k<hi→k≠c→∀o,(o=2 * k+1∨o=2 * k+2)→o<hi→le (qi (swp d ys (f+r) (f+c)) (f+o) d) (qi (swp d ys (f+r) (f+c)) (f+k) d):=fun k k1 k2 k3 o ho oh=>by
  by_cases hk:k=r
  ·subst hk
   rw [gr]
   by_cases hoc:o=c
   ·rw [hoc,gc]; exact hle
   ·rw [go o (by omega) (by omega) hoc]; exact hmax o ho oh
  ·have hold:=h.rest k k1 k2 hk
   by_cases hor:o=r
   ·rw [hor,gr,go k (by omega) hk k3]
    have hu:=h.up k k1 (by omega)
    rcases hcr with q|q
    ·rw [q]; exact hu.1 (by omega)
    ·rw [q]; exact hu.2 (by omega)
   ·rw [go o (by omega) hor (by omega),go k (by omega) hk k3]
    rcases ho with q|q
    ·rw [q]; exact hold.1 (by omega)
    ·rw [q]; exact hold.2 (by omega)
 refine ⟨fun k k1 k2 k3=>⟨fun q=>key k k1 k2 k3 _ (.inl rfl) q,fun q=>key k k1 k2 k3 _ (.inr rfl) q⟩,fun p p1 p2=> ?_⟩
 have hp:p=r:=by omega
 subst hp
 have hold:=h.rest c (by omega) hch (by omega)
 rw [gr]
 exact ⟨fun q=>by rw [go _ (by omega) (by omega) (by omega)]; exact hold.1 q,fun q=>by rw [go _ (by omega) (by omega) (by omega)]; exact hold.2 q⟩
theorem qqJ (hφ:Cmp P φ le) (hn:n≤1099511627776) (hN:n+1<N) {xs:List α} (h:Ck P n xs) {f lo hi:Int} (f0:0≤f) (l0:0≤lo) (lh:lo≤hi) (fn:f+hi≤(n:Int)) (hp:∀k,lo<k→k<hi→qxE d le f hi xs k):
  ∃out,qmD d N (xs,(lo,(hi,(f,(φ,())))))=some ((),(out,()))∧Seg d n (f+lo) (f+hi) xs out∧∀k,lo≤k→k<hi→qxE d le f hi out k:=by
 simp only [qmD,qG]
 refine qas (S:=List α×(Int×Unit)) (fun p=>(hi - p.2.1).toNat) (fun p=>Seg d n (f+lo) (f+hi) xs p.1∧lo≤p.2.1∧p.2.1≤hi∧Sft d le f lo hi p.1 p.2.1) (fun r=>∃out,r=some ((),(out,()))∧Seg d n (f+lo) (f+hi) xs out∧∀k,lo≤k→k<hi→qxE d le f hi out k) ?_ N _ ⟨.refl d _ _ xs,by simp only; omega,by simp only; omega,fun k k1 k2 k3=>hp k (by simp only at k3; omega) k2,fun p p1 p2=>by simp only at p2; omega⟩ (by simp only; omega)
 rintro ih ⟨ys,r,⟨⟩⟩ ⟨hs,hr,hrh,hsf⟩ hih
 simp only at hs hr hrh hsf hih⊢
 have hc:=hs.ck d h
 have e1:qol .i64 2 r=2 * r:=by rw [qdY,qdH (by omega) (by omega)]
 have e2:qS .i64 (2 * r) 1=2 * r+1:=qat (by omega) (by omega)
 simp only [e1,e2]
 by_cases q:hi≤2 * r+1
 ·simp only [leT q,cond_true]
  exact ⟨ys,rfl,hs,hsf.done d ⟨fun w=>by omega,fun w=>by omega⟩⟩
 have e3:qS .i64 (2 * r+1) 1=2 * r+2:=by rw [qat (by omega) (by omega)]; omega
 have e4:qS .i64 f (2 * r+1)=f+(2 * r+1):=qat (by omega) (by omega)
 have e5:qS .i64 (f+(2 * r+1)) 1=f+(2 * r+2):=by rw [qat (by omega) (by omega)]; omega
 have e6:qS .i64 f r=f+r:=qat (by omega) (by omega)
 have b1:=hc.inB (i:=f+(2 * r+1)) (by omega) (by omega)
 have b0:=hc.inB (i:=f+r) (by omega) (by omega)
 have p1:=hc.get d (i:=f+(2 * r+1)) (by omega) (by omega)
 have p0:=hc.get d (i:=f+r) (by omega) (by omega)
 simp only [leF q,cond_false,e3,e4,e5,e6]
 obtain ⟨c,hc1,hc2,hcx,w1,w2⟩:∃c,(c=2 * r+1∨c=2 * r+2)∧c<hi∧(∀o,(o=2 * r+1∨o=2 * r+2)→o<hi→le (qi ys (f+o) d) (qi ys (f+c) d))∧
   ((!ltI (2 * r+2) hi||inB (f+(2 * r+1)) (qn ys))&&((!ltI (2 * r+2) hi||inB (f+(2 * r+2)) (qn ys))&&(!ltI (2 * r+2) hi||qt (φ (qi ys (f+(2 * r+1)) d,(qi ys (f+(2 * r+2)) d,()))))))=true∧
   (bif (ltI (2 * r+2) hi&&ltI (qr (φ (qi ys (f+(2 * r+1)) d,(qi ys (f+(2 * r+2)) d,()))) (0,())).1 0) then 2 * r+2 else 2 * r+1)=c:=by
  by_cases q2:2 * r+2<hi
  ·have b2:=hc.inB (i:=f+(2 * r+2)) (by omega) (by omega)
   have p2:=hc.get d (i:=f+(2 * r+2)) (by omega) (by omega)
   obtain ⟨c,a1,a2⟩:=hφ.ans _ _ p1 p2
   by_cases q3:c<0
   ·have hle:=(hφ.tot _ _ p1 p2).elim id (fun w=>absurd w (a2.1 q3))
    exact ⟨2 * r+2,.inr rfl,q2,fun o ho _=>by
     rcases ho with w|w
     ·rw [w]; exact hle
     ·rw [w]; exact hφ.refl p2,by simp only [ltT q2,b1,b2,a1,qf,Bool.not_true,Bool.false_or,Bool.and_self,qh,ltT q3,cond_true,and_self]⟩
   ·have hle:le (qi ys (f+(2 * r+2)) d) (qi ys (f+(2 * r+1)) d):=Classical.byContradiction fun w=>q3 (a2.2 w)
    exact ⟨2 * r+1,.inl rfl,by omega,fun o ho _=>by
     rcases ho with w|w
     ·rw [w]; exact hφ.refl p1
     ·rw [w]; exact hle,by simp only [ltT q2,b1,b2,a1,qf,Bool.not_true,Bool.false_or,Bool.and_self,qh,ltF q3,Bool.and_false,cond_false,and_self]⟩
  ·exact ⟨2 * r+1,.inl rfl,by omega,fun o ho w=>by
    rcases ho with w2|w2
    ·rw [w2]; exact hφ.refl p1
    ·omega,by simp only [ltF q2,Bool.not_false,Bool.true_or,Bool.and_self,Bool.false_and,cond_false,and_self]⟩
 have e7:qS .i64 f c=f+c:=qat (by omega) (by omega)
 have bc:=hc.inB (i:=f+c) (by omega) (by omega)
 have pc:=hc.get d (i:=f+c) (by omega) (by omega)
 obtain ⟨v,a1,a2⟩:=hφ.ans _ _ p0 pc
 simp only [w1,w2,cond_true,e7,b0,bc,a1,qf,qh,Bool.and_self,qds]
 by_cases q3:v<0
 ·have hle:=(hφ.tot _ _ p0 pc).elim id (fun w=>absurd w (a2.1 q3))
  simp only [ltT q3,Bool.not_true,cond_false]
  exact hih (swp d ys (f+r) (f+c),(c,())) ⟨hs.trans d (qdQ d hc.len (by omega) fn (by omega) (by omega) (by omega) (by omega)),by simp only; omega,by simp only; omega,hsf.step d hφ hc f0 fn l0 hr hc1 hc2 hle hcx⟩ (by simp only; omega)
 ·have hle:le (qi ys (f+c) d) (qi ys (f+r) d):=Classical.byContradiction fun w=>q3 (a2.2 w)
  simp only [ltF q3,Bool.not_false,cond_true]
  refine ⟨ys,rfl,hs,hsf.done d ⟨fun w=> ?_,fun w=> ?_⟩⟩
  ·exact hφ.trans _ _ _ p1 pc p0 (hcx _ (.inl rfl) w) hle
  ·exact hφ.trans _ _ _ (hc.get d (i:=f+(2 * r+2)) (by omega) (by omega)) pc p0 (hcx _ (.inr rfl) w) hle
theorem qw1 (hφ:Cmp P φ le) (hn:n≤1099511627776) (hN:n+1<N) {xs:List α} (h:Ck P n xs) {a b:Int} (ha:0≤a) (hab:a<b) (hb:b≤(n:Int)):qlQ P d n le a b xs (qsy d N (xs,(a,(b,(φ,()))))):=by
 have e1:qT .i64 b a=b - a:=qam (by omega) (by omega)
 have e2:qT .i64 (b - a) 1=b - a - 1:=qam (by omega) (by omega)
 have e3:qrq .i64 (b - a - 1) 2=(b - a - 1) / 2:=by
  rw [qjV,Int.tdiv_eq_ediv_of_nonneg (by omega),qdH (by omega) (by omega)]
 simp only [qsy,qG,e1,e2,e3,neT (show ¬(2:Int)=0 by omega),cond_true]
 generalize hhi:b - a=hi at *
 refine qas (S:=List α×(Int×Unit)) (fun p=>(p.2.1+1).toNat) (fun p=>Seg d n a b xs p.1∧ -1≤p.2.1∧p.2.1<hi∧∀k,p.2.1<k→k<hi→qxE d le a hi p.1 k) (qlQ P d n le a b xs) ?_ N _ ⟨.refl d _ _ xs,by simp only; omega,by simp only; omega,fun k k1 k2=>⟨fun w=>by simp only at k1; omega,fun w=>by simp only at k1; omega⟩⟩ (by simp only; omega)
 rintro ih ⟨ys,i,⟨⟩⟩ ⟨hs,hi0,hi1,hhp⟩ hih
 simp only at hs hi0 hi1 hhp hih⊢
 have hc:=hs.ck d h
 by_cases q:0≤i
 ·obtain ⟨out,r1,r2,r3⟩:=qqJ d hφ hn hN hc ha q (by omega:i≤hi) (by omega) (fun k k1 k2=>hhp k k1 k2)
  have e4:qT .i64 i 1=i - 1:=qam (by omega) (by omega)
  simp only [leT q,cond_true,r1,qf,qh,e4]
  exact hih _ ⟨hs.trans d (r2.mono d ha hb (by omega) (by omega)),by simp only; omega,by simp only; omega,fun k k1 k2=>r3 k (by simp only at k1; omega) k2⟩ (by simp only; omega)
 simp only [leF q,cond_false]
 refine qas (S:=List α×(Int×Unit)) (fun p=>(p.2.1+1).toNat) (fun p=>Seg d n a b xs p.1∧ -1≤p.2.1∧p.2.1<hi∧(∀k,0≤k→k<p.2.1+1→qxE d le a (p.2.1+1) p.1 k)∧∀x y,0≤x→x<y→y<hi→p.2.1<y→le (qi p.1 (a+x) d) (qi p.1 (a+y) d)) (qlQ P d n le a b xs) ?_ N _ ⟨hs,by simp only; omega,by simp only; omega,fun k k1 k2=>by
  have hk:=hhp k (by omega) (by simp only at k2; omega)
  have e:hi - 1+1=hi:=by omega
  simp only [e]
  exact hk,fun x y h1 h2 h3 h4=>by simp only at h4; omega⟩ (by simp only; omega)
 rintro jh ⟨zs,j,⟨⟩⟩ ⟨hz,hj0,hj1,hheap,htail⟩ hjh
 simp only at hz hj0 hj1 hheap htail hjh⊢
 have hzc:=hz.ck d h
 by_cases q2:0≤j
 ·have e4:qT .i64 j 1=j - 1:=qam (by omega) (by omega)
  have e5:qS .i64 a j=a+j:=qat (by omega) (by omega)
  have b1:=hzc.inB (i:=a+j) (by omega) (by omega)
  have b0:=hzc.inB (i:=a) (by omega) (by omega)
  have hsw:=qdQ d hzc.len (a:=a) (b:=a+j+1) (i:=a) (j:=a+j) ha (by omega) (by omega) (by omega) (by omega) (by omega)
  have g:=qeI d hzc.len (i:=a) (j:=a+j) (by omega) (by omega) (by omega) (by omega)
  have hwc:=hsw.ck d hzc
  have hmax:=qwY d hφ hzc ha (hi:=j+1) (by omega) hheap
  have hmax':∀x,0≤x→x≤j→le (qi zs (a+x) d) (qi zs a d):=fun x x0 x1=>by
   obtain ⟨m,rfl⟩:∃m:Nat,x=(m:Int):=⟨x.toNat,by omega⟩
   have:=hmax m (by omega)
   rwa [show a+0=a by omega] at this
  obtain ⟨out,r1,r2,r3⟩:=qqJ d hφ hn hN hwc ha (Int.le_refl 0) (by omega:(0:Int)≤j) (by omega) (fun k k1 k2=>by
   have hk:=hheap k (by omega) (by omega)
   refine ⟨fun w=> ?_,fun w=> ?_⟩
   ·rw [g _ (by omega),g _ (by omega),if_neg (by omega),if_neg (by omega),if_neg (by omega),if_neg (by omega)]; exact hk.1 (by omega)
   ·rw [g _ (by omega),g _ (by omega),if_neg (by omega),if_neg (by omega),if_neg (by omega),if_neg (by omega)]; exact hk.2 (by omega))
  simp only [leT q2,cond_true,e4,e5,b0,b1,qds,Bool.and_self]
  have r1':qmD d N (qbZ (qbZ zs a (qi zs (a+j) d)) (a+j) (qi zs a d),(0,(j,(a,(φ,())))))=some ((),(out,())):=r1
  simp only [r1',qf,qh,cond_true]
  refine hjh _ ⟨hz.trans d ((hsw.mono d ha hb (by omega) (by omega)).trans d (r2.mono d ha hb (by omega) (by omega))),by simp only; omega,by simp only; omega,fun k k1 k2=> ?_,fun x y x0 xy yh yj=> ?_⟩ (by simp only; omega)
  ·have e:j - 1+1=j:=by omega
   simp only [e]
   exact r3 k k1 (by simp only at k2; omega)
  ·simp only at yj⊢
   have gy:qi out (a+y) d=qi (swp d zs a (a+j)) (a+y) d:=r2.out _ (by omega) (by omega) (.inr (by omega))
   obtain ⟨x',x'0,x'y,hx'⟩:∃x',0≤x'∧(x'<j∨(x'=x∧j≤x))∧qi out (a+x) d=qi (swp d zs a (a+j)) (a+x') d:=by
    by_cases hxj:x<j
    ·obtain ⟨m,m1,m2,m3⟩:=r2.inn (a+x) (by omega) (by omega)
     exact ⟨m - a,by omega,.inl (by omega),by rw [m3]; congr 1; omega⟩
    ·exact ⟨x,x0,.inr ⟨rfl,by omega⟩,r2.out _ (by omega) (by omega) (.inr (by omega))⟩
   rw [hx',gy,g _ (by omega),g _ (by omega)]
   by_cases hyj:y=j
   ·rw [if_pos (by omega:a+y=a+j)]
    rw [if_neg (by omega:¬a+x'=a+j)]
    by_cases hx0:x'=0
    ·rw [if_pos (by omega:a+x'=a)]; exact hmax' j q2 (Int.le_refl j)
    ·rw [if_neg (by omega:¬a+x'=a)]; exact hmax' x' x'0 (by omega)
   ·rw [if_neg (by omega:¬a+y=a+j),if_neg (by omega:¬a+y=a)]
    by_cases hxj:x'=j
    ·rw [if_pos (by omega:a+x'=a+j)]
     have:=htail 0 y (by omega) (by omega) yh (by omega)
     rwa [show a+0=a by omega] at this
    ·rw [if_neg (by omega:¬a+x'=a+j)]
     by_cases hx0:x'=0
     ·rw [if_pos (by omega:a+x'=a)]; exact htail j y q2 (by omega) yh (by omega)
     ·rw [if_neg (by omega:¬a+x'=a)]; exact htail x' y x'0 (by omega) yh (by omega)
 ·simp only [leF q2,cond_false]
  refine ⟨zs,rfl,hz,fun x y h1 h2 h3=> ?_⟩
  by_cases hxy:x=y
  ·rw [hxy]; exact hφ.refl (hzc.get d (by omega) (by omega))
  ·have:=htail (x - a) (y - a) (by omega) (by omega) (by omega) (by omega)
   rwa [show a+(x - a)=x by omega,show a+(y - a)=y by omega] at this
theorem qvy (hn:n≤1099511627776) (hN:n+1<N) {xs:List α} (h:Ck P n xs) {a b:Int} (ha:0≤a) (hab:a<b) (hb:b≤(n:Int)):∃out,qbU d N (xs,(a,(b,(φ,()))))=some ((),(out,()))∧Seg d n a b xs out:=by
 have e1:qT .i64 b 1=b - 1:=qam (by omega) (by omega)
 simp only [qbU,qG,e1]
 refine qas (S:=List α×(Int×(Int×Unit))) (fun p=>(p.2.2.1 - p.2.1).toNat) (fun p=>Seg d n a b xs p.1∧a≤p.2.1∧p.2.2.1<b) (fun r=>∃out,r=some ((),(out,()))∧Seg d n a b xs out) ?_ N _ ⟨.refl d _ _ xs,by simp only; omega,by simp only; omega⟩ (by simp only; omega)
 rintro ih ⟨ys,i,j,⟨⟩⟩ ⟨hs,hi,hj⟩ hih
 simp only at hs hi hj hih⊢
 have hc:=hs.ck d h
 by_cases q:i<j
 ·have e2:qS .i64 i 1=i+1:=qat (by omega) (by omega)
  have e3:qT .i64 j 1=j - 1:=qam (by omega) (by omega)
  simp only [ltT q,cond_true,e2,e3,hc.inB (i:=i) (by omega) (by omega),hc.inB (i:=j) (by omega) (by omega),qds,Bool.and_self]
  exact hih (swp d ys i j,(i+1,(j - 1,()))) ⟨hs.trans d (qdQ d hc.len ha hb hi (by omega) (by omega) hj),by simp only; omega,by simp only; omega⟩ (by simp only; omega)
 ·simp only [ltF q,cond_false]
  exact ⟨ys,rfl,hs⟩
theorem qvf (hφ:Cmp P φ le) (hn:n≤1099511627776) (hN:n+1<N) {xs:List α} (h:Ck P n xs) {a b pv:Int} (ha:0≤a) (hpa:a≤pv) (hpb:pv<b) (hb:b≤(n:Int)):
  ∃out mid,qiG d N (xs,(a,(b,(pv,(φ,())))))=some ((mid,()),(out,()))∧Seg d n a b xs out∧a<mid∧mid≤b∧∀k,a≤k→k<mid→le (qi out k d) (qi xs pv d):=by
 have e1:qT .i64 b 1=b - 1:=qam (by omega) (by omega)
 have e2:qS .i64 a 1=a+1:=qat (by omega) (by omega)
 have pp:=h.get d (i:=pv) (by omega) (by omega)
 simp only [qiG,qG,e1,e2,h.inB (i:=a) (by omega) (by omega),h.inB (i:=pv) (by omega) (by omega),qds,Bool.and_self,cond_true]
 have g:=qeI d h.len (i:=a) (j:=pv) (by omega) (by omega) (by omega) (by omega)
 have ini:qbZ (qbZ xs a (qi xs pv d)) pv (qi xs a d)=swp d xs a pv:=rfl
 have ga:qi (swp d xs a pv) a d=qi xs pv d:=by
  rw [g a ha]
  by_cases q:a=pv
  ·rw [if_pos q,q]
  ·rw [if_neg q,if_pos rfl]
 rw [ini]
 obtain ⟨p,hp⟩:∃p,qi xs pv d=p:=⟨_,rfl⟩
 rw [hp] at pp ga
 rw [hp]
 refine qas (S:=List α×(Int×(Int×Unit))) (fun q=>(q.2.2.1+1 - q.2.1).toNat) (fun q=>Seg d n a b xs q.1∧a<q.2.1∧q.2.1≤b∧q.2.2.1<b∧qi q.1 a d=p∧∀k,a≤k→k<q.2.1→le (qi q.1 k d) p) (fun r=>∃out mid,r=some ((mid,()),(out,()))∧Seg d n a b xs out∧a<mid∧mid≤b∧∀k,a≤k→k<mid→le (qi out k d) p) ?_ N _ ⟨qdQ d h.len ha hb (by omega) (by omega) hpa hpb,by simp only; omega,by simp only; omega,by simp only; omega,ga,fun k k1 k2=>by
  have:k=a:=by simp only at k2; omega
  rw [this,ga]; exact hφ.refl pp⟩ (by simp only; omega)
 rintro ih ⟨ys,i,j,⟨⟩⟩ ⟨hs,hi,hib,hj,hya,hlo⟩ hih
 simp only at hs hi hib hj hya hlo hih⊢
 have hc:=hs.ck d h
 have ba:=hc.inB (i:=a) (by omega) (by omega)
 refine qas (S:=List α×(Int×(Int×Unit))) (fun q=>(q.2.2.1+1 - q.2.1).toNat) (fun q=>q.1=ys∧i≤q.2.1∧q.2.1≤b∧q.2.2.1=j∧∀k,a≤k→k<q.2.1→le (qi ys k d) p) (fun r=>∃out mid,r=some ((mid,()),(out,()))∧Seg d n a b xs out∧a<mid∧mid≤b∧∀k,a≤k→k<mid→le (qi out k d) p) ?_ N _ ⟨rfl,by simp only; omega,hib,rfl,hlo⟩ (by simp only; omega)
 rintro jh ⟨ys',i2,j',⟨⟩⟩ ⟨hy',hi2,hi2b,hj',hlo2⟩ hjh
 simp only at hy' hi2 hi2b hj' hlo2 hjh⊢
 subst hy'
 subst hj'
 obtain ⟨t1,w1,w2,w3⟩:∃t1:Bool,(((!(leI i2 j'))||(inB a (qn ys')))&&(((!(leI i2 j'))||(inB i2 (qn ys')))&&((!(leI i2 j'))||(qt (φ ((qi ys' a d),((qi ys' i2 d),())))))))=true∧((leI i2 j')&&(!(ltI (qr (φ ((qi ys' a d),((qi ys' i2 d),()))) (0,())).1 0)))=t1∧(t1=true→i2≤j'∧le (qi ys' i2 d) p):=by
  by_cases q:i2≤j'
  ·have pi:=hc.get d (i:=i2) (by omega) (by omega)
   obtain ⟨c,a1,a2⟩:=hφ.ans _ _ (by rw [hya]; exact pp:P (qi ys' a d)) pi
   refine ⟨_,by simp only [leT q,ba,hc.inB (i:=i2) (by omega) (by omega),a1,qf,Bool.not_true,Bool.false_or,Bool.and_self],rfl,fun ht=>⟨q,?_⟩⟩
   rw [leT q,a1,qh,Bool.true_and] at ht
   rw [hya] at a2
   exact Classical.byContradiction fun w=>by
    rw [ltT (a2.2 w)] at ht; cases ht
  ·exact ⟨false,by simp only [leF q,Bool.not_false,Bool.true_or,Bool.and_self],by simp only [leF q,Bool.false_and],fun w=>by cases w⟩
 simp only [w1,w2,cond_true]
 cases t1 with
 |true=>
  obtain ⟨v1,v2⟩:=w3 rfl
  have e3:qS .i64 i2 1=i2+1:=qat (by omega) (by omega)
  simp only [cond_true,e3]
  exact hjh _ ⟨rfl,by simp only; omega,by simp only; omega,rfl,fun k k1 k2=>by
   by_cases hk:k=i2
   ·rw [hk]; exact v2
   ·exact hlo2 k k1 (by simp only at k2; omega)⟩ (by simp only; omega)
 |false=>
  simp only [cond_false]
  refine qas (S:=List α×(Int×Unit)) (fun q=>(q.2.1+1 - i2).toNat) (fun q=>q.1=ys'∧q.2.1≤j') (fun r=>∃out mid,r=some ((mid,()),(out,()))∧Seg d n a b xs out∧a<mid∧mid≤b∧∀k,a≤k→k<mid→le (qi out k d) p) ?_ N _ ⟨rfl,by simp only; omega⟩ (by simp only; omega)
  rintro kh ⟨ys2,j2,⟨⟩⟩ ⟨hy2,hj2⟩ hkh
  simp only at hy2 hj2 hkh⊢
  subst hy2
  obtain ⟨t2,u1,u2,u3,u4⟩:∃t2:Bool,(((!(leI i2 j2))||(inB a (qn ys2)))&&(((!(leI i2 j2))||(inB j2 (qn ys2)))&&((!(leI i2 j2))||(qt (φ ((qi ys2 a d),((qi ys2 j2 d),())))))))=true∧((leI i2 j2)&&(ltI (qr (φ ((qi ys2 a d),((qi ys2 j2 d),()))) (0,())).1 0))=t2∧(t2=true→i2≤j2)∧(t2=false→i2≤j2→le (qi ys2 j2 d) p):=by
   by_cases q:i2≤j2
   ·have pi:=hc.get d (i:=j2) (by omega) (by omega)
    obtain ⟨c,a1,a2⟩:=hφ.ans _ _ (by rw [hya]; exact pp:P (qi ys2 a d)) pi
    refine ⟨_,by simp only [leT q,ba,hc.inB (i:=j2) (by omega) (by omega),a1,qf,Bool.not_true,Bool.false_or,Bool.and_self],rfl,fun _=>q,fun ht _=> ?_⟩
    rw [leT q,a1,qh,Bool.true_and] at ht
    rw [hya] at a2
    exact Classical.byContradiction fun w=>by
     rw [ltT (a2.2 w)] at ht; cases ht
   ·exact ⟨false,by simp only [leF q,Bool.not_false,Bool.true_or,Bool.and_self],by simp only [leF q,Bool.false_and],(fun w=>by cases w),fun _ w=>absurd w q⟩
  simp only [u1,u2,cond_true]
  have e4:t2=true∨i2≤j2→qT .i64 j2 1=j2 - 1:=fun w=>by
   have:i2≤j2:=w.elim u3 id
   exact qam (by omega) (by omega)
  cases t2 with
  |true=>
   have v1:=u3 rfl
   simp only [cond_true,e4 (.inl rfl)]
   exact hkh _ ⟨rfl,by simp only; omega⟩ (by simp only; omega)
  |false=>
   simp only [cond_false]
   by_cases q:j2<i2
   ·simp only [ltT q,cond_true]
    exact ⟨ys2,i2,rfl,hs,by omega,hi2b,hlo2⟩
   ·have v2:=u4 rfl (by omega)
    have e3:qS .i64 i2 1=i2+1:=qat (by omega) (by omega)
    simp only [ltF q,cond_false,hc.inB (i:=i2) (by omega) (by omega),hc.inB (i:=j2) (by omega) (by omega),Bool.and_self,cond_true,e3,e4 (.inr (by omega))]
    have g2:=qeI d hc.len (i:=i2) (j:=j2) (by omega) (by omega) (by omega) (by omega)
    refine hih (swp d ys2 i2 j2,(i2+1,(j2 - 1,()))) ⟨hs.trans d (qdQ d hc.len ha hb (by omega) (by omega) (by omega) (by omega)),by simp only; omega,by simp only; omega,by simp only; omega,?_,fun k k1 k2=> ?_⟩ (by simp only; omega)
    ·simp only
     rw [g2 a ha,if_neg (by omega),if_neg (by omega)]; exact hya
    ·simp only at k2⊢
     rw [g2 k (by omega)]
     by_cases hk:k=j2
     ·rw [if_pos hk]
      by_cases hij:i2=j2
      ·rw [hij]; exact v2
      ·omega
     ·rw [if_neg hk]
      by_cases hk2:k=i2
      ·rw [if_pos hk2]; exact v2
      ·rw [if_neg hk2]; exact hlo2 k k1 (by omega)
theorem qqg (hφ:Cmp P φ le) {G b1 b2:Bool} {u v:α} (h1:G=true→b1=true) (h2:G=true→b2=true) (hP:G=true→P u∧P v):
  (((!G)||b1)&&(((!G)||b2)&&((!G)||qt (φ (u,(v,()))))))=true∧(G=true→(ltI (qr (φ (u,(v,()))) (0,())).1 0=true→¬le v u)∧(ltI (qr (φ (u,(v,()))) (0,())).1 0=false→le v u)):=by
 cases G with
 |false=>exact ⟨rfl,fun q=>by cases q⟩
 |true=>
  obtain ⟨pu,pv⟩:=hP rfl
  obtain ⟨c,a1,a2⟩:=hφ.ans u v pu pv
  rw [h1 rfl,h2 rfl,a1]
  refine ⟨by simp only [qf,Bool.not_true,Bool.false_or,Bool.and_self],fun _=>⟨fun q=> ?_,fun q=> ?_⟩⟩
  ·rw [qh] at q
   by_cases hc:c<0
   ·exact a2.1 hc
   ·rw [ltF hc] at q; cases q
  ·rw [qh] at q
   by_cases hc:c<0
   ·rw [ltT hc] at q; cases q
   ·exact Classical.byContradiction fun w=>hc (a2.2 w)
theorem Cmp.flip (hφ:Cmp P φ le) {u v:α} (pu:P u) (pv:P v) (h:¬le v u):le u v:=(hφ.tot u v pu pv).elim id fun q=>absurd q h
structure qwC (d:α) (n:Nat) (le:α→α→Prop) (a b:Int) (xs:List α) (p:α) (ys:List α) (i j:Int):Prop where
 seg:Seg d n a b xs ys
 ai:a<i
 ij:i≤j+1
 jb:j<b
 at_:qi ys a d=p
 lo:∀k,a<k→k<i→le (qi ys k d) p
 hi:∀k,j<k→k<b→le p (qi ys k d)
def qr8 (d:α) (n:Nat) (le:α→α→Prop) (a b:Int) (xs:List α) (r:Option ((Int×(Bool×Unit))×(List α×Unit))):Prop:=∃out mid fl,r=some ((mid,(fl,())),(out,()))∧Seg d n a b xs out∧a≤mid∧mid<b∧(∀k,a≤k→k<mid→le (qi out k d) (qi out mid d))∧∀k,mid<k→k<b→le (qi out mid d) (qi out k d)
theorem qwC.fin {a b:Int} {xs ys:List α} {p:α} {i j:Int} (h:qwC d n le a b xs p ys i j) (hc:Ck P n ys) (ha:0≤a) (hb:b≤(n:Int)) (hij:j<i) (fl:Bool):qr8 d n le a b xs (some ((j,(fl,())),(swp d ys j a,()))):=by
 have h1:=h.ai; have h2:=h.ij; have h3:=h.jb
 have g:=qeI d hc.len (i:=j) (j:=a) (by omega) (by omega) (by omega) (by omega)
 have gj:qi (swp d ys j a) j d=p:=by
  rw [g j (by omega)]
  by_cases q:j=a
  ·rw [if_pos q,q]; exact h.at_
  ·rw [if_neg q,if_pos rfl]; exact h.at_
 refine ⟨_,j,fl,rfl,h.seg.trans d (qdQ d hc.len ha hb (by omega) (by omega) (by omega) (by omega)),by omega,by omega,fun k k1 k2=> ?_,fun k k1 k2=> ?_⟩
 ·rw [gj,g k (by omega)]
  by_cases q:k=a
  ·rw [if_pos q]; exact h.lo j (by omega) (by omega)
  ·rw [if_neg q,if_neg (by omega)]; exact h.lo k (by omega) (by omega)
 ·rw [gj,g k (by omega),if_neg (by omega),if_neg (by omega)]; exact h.hi k k1 k2
theorem qwC.swap {a b:Int} {xs ys:List α} {p:α} {i j:Int} (h:qwC d n le a b xs p ys i j) (hc:Ck P n ys) (ha:0≤a) (hb:b≤(n:Int)) (hij:i<j) (hj:le (qi ys j d) p) (hi:le p (qi ys i d)):qwC d n le a b xs p (swp d ys i j) (i+1) (j - 1):=by
 have h1:=h.ai; have h2:=h.ij; have h3:=h.jb
 have g:=qeI d hc.len (i:=i) (j:=j) (by omega) (by omega) (by omega) (by omega)
 refine ⟨h.seg.trans d (qdQ d hc.len ha hb (by omega) (by omega) (by omega) (by omega)),by omega,by omega,by omega,?_,fun k k1 k2=> ?_,fun k k1 k2=> ?_⟩
 ·rw [g a ha,if_neg (by omega),if_neg (by omega)]; exact h.at_
 ·rw [g k (by omega),if_neg (by omega)]
  by_cases q:k=i
  ·rw [if_pos q]; exact hj
  ·rw [if_neg q]; exact h.lo k k1 (by omega)
 ·rw [g k (by omega)]
  by_cases q:k=j
  ·rw [if_pos q]; exact hi
  ·rw [if_neg q,if_neg (by omega)]; exact h.hi k (by omega) k2
theorem quJ (hφ:Cmp P φ le) (hn:n≤1099511627776) (hN:n+1<N) {xs:List α} (h:Ck P n xs) {a b pv:Int} (ha:0≤a) (hpa:a≤pv) (hpb:pv<b) (hb:b≤(n:Int)):qr8 d n le a b xs (qgw d N (xs,(a,(b,(pv,(φ,())))))):=by
 have e1:qT .i64 b 1=b - 1:=qam (by omega) (by omega)
 have e2:qS .i64 a 1=a+1:=qat (by omega) (by omega)
 have pp:=h.get d (i:=pv) (by omega) (by omega)
 simp only [qgw,qG,e1,e2,h.inB (i:=a) (by omega) (by omega),h.inB (i:=pv) (by omega) (by omega),qds,Bool.and_self,cond_true]
 have g:=qeI d h.len (i:=a) (j:=pv) (by omega) (by omega) (by omega) (by omega)
 have ini:qbZ (qbZ xs a (qi xs pv d)) pv (qi xs a d)=swp d xs a pv:=rfl
 have ga:qi (swp d xs a pv) a d=qi xs pv d:=by
  rw [g a ha]
  by_cases q:a=pv
  ·rw [if_pos q,q]
  ·rw [if_neg q,if_pos rfl]
 rw [ini]
 obtain ⟨p,hp⟩:∃p,qi xs pv d=p:=⟨_,rfl⟩
 rw [hp] at pp ga
 have hs0:=qdQ d h.len ha hb (i:=a) (j:=pv) (by omega) (by omega) hpa hpb
 have hc0:=hs0.ck d h
 refine qas (S:=List α×(Int×Unit)) (fun q=>(b - q.2.1).toNat) (fun q=>q.1=swp d xs a pv∧a<q.2.1∧q.2.1≤b∧∀k,a<k→k<q.2.1→le (qi (swp d xs a pv) k d) p) (qr8 d n le a b xs) ?_ N _ ⟨rfl,by simp only; omega,by simp only; omega,fun k k1 k2=>by simp only at k2; omega⟩ (by simp only; omega)
 rintro ih ⟨ys,i,⟨⟩⟩ ⟨hy,hi,hib,hlo⟩ hih
 simp only at hy hi hib hlo hih⊢
 subst hy
 generalize swp d xs a pv=ys at *
 have ba:=hc0.inB (i:=a) (by omega) (by omega)
 obtain ⟨w1,w2⟩:=qqg hφ (G:=leI i (b - 1)) (b1:=inB i (qn ys)) (b2:=inB a (qn ys)) (u:=qi ys i d) (v:=qi ys a d) (fun q=>by
   have:i≤b - 1:=by rw [qa3] at q; exact of_decide_eq_true q
   exact hc0.inB (by omega) (by omega)) (fun _=>ba) (fun q=>by
   have:i≤b - 1:=by rw [qa3] at q; exact of_decide_eq_true q
   exact ⟨hc0.get d (by omega) (by omega),by rw [ga]; exact pp⟩)
 simp only [w1,cond_true]
 by_cases q1:(leI i (b - 1)&&ltI (qr (φ (qi ys i d,(qi ys a d,()))) (0,())).1 0)=true
 ·simp only [q1,cond_true]
  simp only [Bool.and_eq_true] at q1
  have:i≤b - 1:=by have:=q1.1; rw [qa3] at this; exact of_decide_eq_true this
  have e3:qS .i64 i 1=i+1:=qat (by omega) (by omega)
  have hle:=(w2 q1.1).1 q1.2
  rw [ga] at hle
  rw [e3]
  exact hih _ ⟨rfl,by simp only; omega,by simp only; omega,fun k k1 k2=>by
   by_cases hk:k=i
   ·rw [hk]; exact hφ.flip (hc0.get d (by omega) (by omega)) pp hle
   ·exact hlo k k1 (by simp only at k2; omega)⟩ (by simp only; omega)
 have q1f:(leI i (b - 1)&&ltI (qr (φ (qi ys i d,(qi ys a d,()))) (0,())).1 0)=false:=by simpa using q1
 have hi1:i≤b - 1→le p (qi ys i d):=fun w=>by
  rw [leT w,Bool.true_and] at q1f
  have:=(w2 (leT w)).2 q1f
  rwa [ga] at this
 simp only [q1f,cond_false]
 refine qas (S:=List α×(Int×Unit)) (fun q=>(q.2.1+1 - i).toNat) (fun q=>q.1=ys∧i≤q.2.1+1∧q.2.1<b∧∀k,q.2.1<k→k<b→le p (qi ys k d)) (qr8 d n le a b xs) ?_ N _ ⟨rfl,by simp only; omega,by simp only; omega,fun k k1 k2=>by simp only at k1; omega⟩ (by simp only; omega)
 rintro jh ⟨ys',j,⟨⟩⟩ ⟨hy',hj1,hj2,hhi⟩ hjh
 simp only at hy' hj1 hj2 hhi hjh⊢
 subst hy'
 obtain ⟨u1,u2⟩:=qqg hφ (G:=leI i j) (b1:=inB j (qn ys')) (b2:=inB a (qn ys')) (u:=qi ys' j d) (v:=qi ys' a d) (fun q=>by
   have:i≤j:=by rw [qa3] at q; exact of_decide_eq_true q
   exact hc0.inB (by omega) (by omega)) (fun _=>ba) (fun q=>by
   have:i≤j:=by rw [qa3] at q; exact of_decide_eq_true q
   exact ⟨hc0.get d (by omega) (by omega),by rw [ga]; exact pp⟩)
 simp only [u1,cond_true]
 by_cases q2:(leI i j&& !ltI (qr (φ (qi ys' j d,(qi ys' a d,()))) (0,())).1 0)=true
 ·simp only [q2,cond_true]
  simp only [Bool.and_eq_true,Bool.not_eq_true'] at q2
  have:i≤j:=by have:=q2.1; rw [qa3] at this; exact of_decide_eq_true this
  have e3:qT .i64 j 1=j - 1:=qam (by omega) (by omega)
  have hle:=(u2 q2.1).2 q2.2
  rw [ga] at hle
  rw [e3]
  exact hjh _ ⟨rfl,by simp only; omega,by simp only; omega,fun k k1 k2=>by
   by_cases hk:k=j
   ·rw [hk]; exact hle
   ·exact hhi k (by simp only at k1; omega) k2⟩ (by simp only; omega)
 have q2f:(leI i j&& !ltI (qr (φ (qi ys' j d,(qi ys' a d,()))) (0,())).1 0)=false:=by simpa using q2
 simp only [q2f,cond_false]
 have hinv:qwC d n le a b xs p ys' i j:=⟨hs0,hi,hj1,hj2,ga,hlo,hhi⟩
 by_cases q3:j<i
 ·simp only [ltT q3,cond_true,ba,hc0.inB (i:=j) (by omega) (by omega),Bool.and_self]
  exact hinv.fin d hc0 ha hb q3 true
 simp only [ltF q3,cond_false,hc0.inB (i:=i) (by omega) (by omega),hc0.inB (i:=j) (by omega) (by omega),Bool.and_self,cond_true]
 have hij:i≤j:=by omega
 have ltj:ltI (qr (φ (qi ys' j d,(qi ys' a d,()))) (0,())).1 0=true:=by
  rw [leT hij,Bool.true_and] at q2f
  simpa using q2f
 have nlj:=(u2 (leT hij)).1 ltj
 rw [ga] at nlj
 have hjp:=hφ.flip (hc0.get d (i:=j) (by omega) (by omega)) pp nlj
 have hpi:=hi1 (by omega)
 have hne:i≠j:=fun w=>nlj (by rw [←w]; exact hpi)
 have e3:qS .i64 i 1=i+1:=qat (by omega) (by omega)
 have e4:qT .i64 j 1=j - 1:=qam (by omega) (by omega)
 rw [e3,e4]
 have hinv2:=hinv.swap d hc0 ha hb (by omega) hjp hpi
 refine qas (S:=List α×(Int×(Int×Unit))) (fun q=>(q.2.2.1+1 - q.2.1).toNat) (fun q=>qwC d n le a b xs p q.1 q.2.1 q.2.2.1) (qr8 d n le a b xs) ?_ N (swp d ys' i j,(i+1,(j - 1,()))) hinv2 (by simp only; omega)
 clear hinv2 hinv hne hpi hjp nlj ltj hij q3 q2f q2 u1 u2 hhi hj1 hj2 hjh hi1 q1f q1 w1 w2 hlo hi hib hih e3 e4 jh ih
 rintro ih ⟨zs,i,j,⟨⟩⟩ hz hih
 simp only at hz hih⊢
 have hzc:=hz.seg.ck d h
 have za:=hz.at_
 have z1:=hz.ai; have z2:=hz.ij; have z3:=hz.jb
 have ba:=hzc.inB (i:=a) (by omega) (by omega)
 refine qas (S:=List α×(Int×(Int×Unit))) (fun q=>(q.2.2.1+1 - q.2.1).toNat) (fun q=>q.1=zs∧q.2.2.1=j∧i≤q.2.1∧qwC d n le a b xs p zs q.2.1 j) (qr8 d n le a b xs) ?_ N _ ⟨rfl,rfl,Int.le_refl _,hz⟩ (by simp only; omega)
 rintro jh ⟨zs',i2,j',⟨⟩⟩ ⟨hy',hj',hi2,hz2⟩ hjh
 simp only at hy' hj' hi2 hz2 hjh⊢
 subst hy'
 subst hj'
 have y1:=hz2.ai; have y2:=hz2.ij
 obtain ⟨w1,w2⟩:=qqg hφ (G:=leI i2 j') (b1:=inB i2 (qn zs')) (b2:=inB a (qn zs')) (u:=qi zs' i2 d) (v:=qi zs' a d) (fun q=>by
   have:i2≤j':=by rw [qa3] at q; exact of_decide_eq_true q
   exact hzc.inB (by omega) (by omega)) (fun _=>ba) (fun q=>by
   have:i2≤j':=by rw [qa3] at q; exact of_decide_eq_true q
   exact ⟨hzc.get d (by omega) (by omega),by rw [za]; exact pp⟩)
 simp only [w1,cond_true]
 by_cases q1:(leI i2 j'&&ltI (qr (φ (qi zs' i2 d,(qi zs' a d,()))) (0,())).1 0)=true
 ·simp only [q1,cond_true]
  simp only [Bool.and_eq_true] at q1
  have:i2≤j':=by have:=q1.1; rw [qa3] at this; exact of_decide_eq_true this
  have e3:qS .i64 i2 1=i2+1:=qat (by omega) (by omega)
  have hle:=(w2 q1.1).1 q1.2
  rw [za] at hle
  rw [e3]
  have hnew:qwC d n le a b xs p zs' (i2+1) j':=⟨hz2.seg,by omega,by omega,hz2.jb,za,fun k k1 k2=>by
   by_cases hk:k=i2
   ·rw [hk]; exact hφ.flip (hzc.get d (by omega) (by omega)) pp hle
   ·exact hz2.lo k k1 (by omega),hz2.hi⟩
  exact hjh _ ⟨rfl,rfl,by simp only; omega,hnew⟩ (by simp only; omega)
 have q1f:(leI i2 j'&&ltI (qr (φ (qi zs' i2 d,(qi zs' a d,()))) (0,())).1 0)=false:=by simpa using q1
 have hi1:i2≤j'→le p (qi zs' i2 d):=fun w=>by
  rw [leT w,Bool.true_and] at q1f
  have:=(w2 (leT w)).2 q1f
  rwa [za] at this
 simp only [q1f,cond_false]
 refine qas (S:=List α×(Int×Unit)) (fun q=>(q.2.1+1 - i2).toNat) (fun q=>q.1=zs'∧q.2.1≤j'∧qwC d n le a b xs p zs' i2 q.2.1) (qr8 d n le a b xs) ?_ N _ ⟨rfl,by simp only; omega,hz2⟩ (by simp only; omega)
 rintro kh ⟨zs2,j2,⟨⟩⟩ ⟨hy2,hj2,hz3⟩ hkh
 simp only at hy2 hj2 hz3 hkh⊢
 subst hy2
 have x2:=hz3.ij; have x3:=hz3.jb
 obtain ⟨u1,u2⟩:=qqg hφ (G:=leI i2 j2) (b1:=inB j2 (qn zs2)) (b2:=inB a (qn zs2)) (u:=qi zs2 j2 d) (v:=qi zs2 a d) (fun q=>by
   have:i2≤j2:=by rw [qa3] at q; exact of_decide_eq_true q
   exact hzc.inB (by omega) (by omega)) (fun _=>ba) (fun q=>by
   have:i2≤j2:=by rw [qa3] at q; exact of_decide_eq_true q
   exact ⟨hzc.get d (by omega) (by omega),by rw [za]; exact pp⟩)
 simp only [u1,cond_true]
 by_cases q2:(leI i2 j2&& !ltI (qr (φ (qi zs2 j2 d,(qi zs2 a d,()))) (0,())).1 0)=true
 ·simp only [q2,cond_true]
  simp only [Bool.and_eq_true,Bool.not_eq_true'] at q2
  have:i2≤j2:=by have:=q2.1; rw [qa3] at this; exact of_decide_eq_true this
  have e3:qT .i64 j2 1=j2 - 1:=qam (by omega) (by omega)
  have hle:=(u2 q2.1).2 q2.2
  rw [za] at hle
  rw [e3]
  have hnew:qwC d n le a b xs p zs2 i2 (j2 - 1):=⟨hz3.seg,hz3.ai,by omega,by omega,za,hz3.lo,fun k k1 k2=>by
   by_cases hk:k=j2
   ·rw [hk]; exact hle
   ·exact hz3.hi k (by omega) k2⟩
  exact hkh _ ⟨rfl,by simp only; omega,hnew⟩ (by simp only; omega)
 have q2f:(leI i2 j2&& !ltI (qr (φ (qi zs2 j2 d,(qi zs2 a d,()))) (0,())).1 0)=false:=by simpa using q2
 simp only [q2f,cond_false]
 by_cases q3:j2<i2
 ·simp only [ltT q3,cond_true,ba,hzc.inB (i:=j2) (by omega) (by omega),Bool.and_self]
  exact hz3.fin d hzc ha hb q3 false
 simp only [ltF q3,cond_false,hzc.inB (i:=i2) (by omega) (by omega),hzc.inB (i:=j2) (by omega) (by omega),Bool.and_self,cond_true]
 have hij:i2≤j2:=by omega
 have ltj:ltI (qr (φ (qi zs2 j2 d,(qi zs2 a d,()))) (0,())).1 0=true:=by
  rw [leT hij,Bool.true_and] at q2f
  simpa using q2f
 have nlj:=(u2 (leT hij)).1 ltj
 rw [za] at nlj
 have hjp:=hφ.flip (hzc.get d (i:=j2) (by omega) (by omega)) pp nlj
 have hpi:=hi1 (by omega)
 have hne:i2≠j2:=fun w=>nlj (by rw [←w]; exact hpi)
 have e3:qS .i64 i2 1=i2+1:=qat (by omega) (by omega)
 have e4:qT .i64 j2 1=j2 - 1:=qam (by omega) (by omega)
 rw [e3,e4]
 exact hih (swp d zs2 i2 j2,(i2+1,(j2 - 1,()))) (hz3.swap d hzc ha hb (by omega) hjp hpi) (by simp only; omega)
theorem qpP (hφ:Cmp P φ le) {ys:List α} (h:Ck P n ys) {i j s:Int} (i0:0≤i) (i1:i<(n:Int)) (j0:0≤j) (j1:j<(n:Int)):∃p q s',qiW d N (ys,(i,(j,(s,(φ,())))))=some ((p,(q,())),(ys,(s',())))∧((p=i∧q=j)∨(p=j∧q=i)):=by
 obtain ⟨c,a1,a2⟩:=hφ.ans _ _ (h.get d j0 j1) (h.get d i0 i1)
 simp only [qiW,h.inB j0 j1,h.inB i0 i1,a1,qf,qh,Bool.and_self,cond_true]
 cases ltI c 0 with
 |true=>exact ⟨_,_,_,rfl,.inr ⟨rfl,rfl⟩⟩
 |false=>exact ⟨_,_,_,rfl,.inl ⟨rfl,rfl⟩⟩
theorem qoi (hφ:Cmp P φ le) {ys:List α} (h:Ck P n ys) {i j k s:Int} (i0:0≤i) (i1:i<(n:Int)) (j0:0≤j) (j1:j<(n:Int)) (k0:0≤k) (k1:k<(n:Int)):∃m s',qhw d N (ys,(i,(j,(k,(s,(φ,()))))))=some ((m,()),(ys,(s',())))∧(m=i∨m=j∨m=k):=by
 obtain ⟨p1,q1,s1,e1,c1⟩:=qpP d (N:=N) hφ h (s:=s) i0 i1 j0 j1
 obtain ⟨p2,q2,s2,e2,c2⟩:=qpP d (N:=N) hφ h (i:=q1) (j:=k) (s:=s1) (by omega) (by omega) k0 k1
 obtain ⟨p3,q3,s3,e3,c3⟩:=qpP d (N:=N) hφ h (i:=p1) (j:=p2) (s:=s2) (by omega) (by omega) (by omega) (by omega)
 simp only [qhw,qG,e1,e2,e3,qf,qh,cond_true]
 exact ⟨q3,s3,rfl,by omega⟩
theorem qoG (hφ:Cmp P φ le) (hn:n≤1099511627776) {ys:List α} (h:Ck P n ys) {i s:Int} (i0:1≤i) (i1:i+1<(n:Int)):∃m s',qy d N (ys,(i,(s,(φ,()))))=some ((m,()),(ys,(s',())))∧i - 1≤m∧m≤i+1:=by
 have e1:qT .i64 i 1=i - 1:=qam (by omega) (by omega)
 have e2:qS .i64 i 1=i+1:=qat (by omega) (by omega)
 obtain ⟨m,s',e3,c⟩:=qoi d (N:=N) hφ h (i:=i - 1) (j:=i) (k:=i+1) (s:=s) (by omega) (by omega) (by omega) (by omega) (by omega) (by omega)
 simp only [qy,e1,e2,e3,qf,qh,cond_true]
 exact ⟨m,s',rfl,by omega,by omega⟩
theorem qva (hφ:Cmp P φ le) (hn:n≤1099511627776) {ys:List α} (h:Ck P n ys) {a b:Int} (ha:0≤a) (hab:a+8≤b) (hb:b≤(n:Int)):∃m t,qgD d N (ys,(a,(b,(φ,()))))=some ((m,(t,())),(ys,()))∧a≤m∧m<b:=by
 have e1:qT .i64 b a=b - a:=qam (by omega) (by omega)
 have e2:qrq .i64 (b - a) 4=(b - a) / 4:=by rw [qjV,Int.tdiv_eq_ediv_of_nonneg (by omega),qdH (by omega) (by omega)]
 have e3:qol .i64 ((b - a) / 4) 1=(b - a) / 4:=by rw [qdY,qdH (by omega) (by omega)]; omega
 have e4:qol .i64 ((b - a) / 4) 2=(b - a) / 4 * 2:=by rw [qdY,qdH (by omega) (by omega)]
 have e5:qol .i64 ((b - a) / 4) 3=(b - a) / 4 * 3:=by rw [qdY,qdH (by omega) (by omega)]
 have e6:qS .i64 a ((b - a) / 4)=a+(b - a) / 4:=qat (by omega) (by omega)
 have e7:qS .i64 a ((b - a) / 4 * 2)=a+(b - a) / 4 * 2:=qat (by omega) (by omega)
 have e8:qS .i64 a ((b - a) / 4 * 3)=a+(b - a) / 4 * 3:=qat (by omega) (by omega)
 simp only [qgD,qG,e1,e2,e3,e4,e5,e6,e7,e8,neT (show ¬(4:Int)=0 by omega),leT (show (8:Int)≤b - a by omega),cond_true]
 have fin:∀(m s:Int),a≤m→m<b→∃m' t,(bif eqI s 0 then some ((m,((1:Int),())),(ys,())) else (bif eqI s 12 then some ((m,((2:Int),())),(ys,())) else some ((m,((0:Int),())),(ys,()))))=some ((m',(t,())),(ys,()))∧a≤m'∧m'<b:=fun m s h1 h2=>by
  cases eqI s 0 with
  |true=>exact ⟨_,_,rfl,h1,h2⟩
  |false=>
   cases eqI s 12 with
   |true=>exact ⟨_,_,rfl,h1,h2⟩
   |false=>exact ⟨_,_,rfl,h1,h2⟩
 generalize hq:(b - a) / 4=q at *
 by_cases h50:50≤b - a
 ·obtain ⟨m1,s1,f1,g1,g1'⟩:=qoG d (N:=N) hφ hn h (i:=a+q) (s:=0) (by omega) (by omega)
  obtain ⟨m2,s2,f2,g2,g2'⟩:=qoG d (N:=N) hφ hn h (i:=a+q * 2) (s:=s1) (by omega) (by omega)
  obtain ⟨m3,s3,f3,g3,g3'⟩:=qoG d (N:=N) hφ hn h (i:=a+q * 3) (s:=s2) (by omega) (by omega)
  obtain ⟨m4,s4,f4,g4⟩:=qoi d (N:=N) hφ h (i:=m1) (j:=m2) (k:=m3) (s:=s3) (by omega) (by omega) (by omega) (by omega) (by omega) (by omega)
  simp only [leT h50,cond_true,f1,f2,f3,f4,qf,qh,Bool.and_self]
  exact fin m4 s4 (by omega) (by omega)
 ·obtain ⟨m4,s4,f4,g4⟩:=qoi d (N:=N) hφ h (i:=a+q) (j:=a+q * 2) (k:=a+q * 3) (s:=0) (by omega) (by omega) (by omega) (by omega) (by omega) (by omega)
  simp only [leF h50,cond_true,cond_false,f4,qf,qh,Bool.and_self]
  exact fin m4 s4 (by omega) (by omega)
def qtL (L:(Int×Unit)→Option ((Int×Unit)×Unit)):Prop:=∀k:Nat,k≤1099511627776→∃e:Nat,L ((k:Int),())=some (((e:Int),()),())∧e≤41∧(1≤k→2^e≤2 * k)
theorem qyq {x m:Int} (h0:0≤m) (h1:m<18446744073709551616):0≤qw9 .u64 x m∧qw9 .u64 x m≤m:=by
 have hm:(BitVec.ofInt 64 m).toNat=m.toNat:=by rw [BitVec.toNat_ofInt,show ((2^64:Nat):Int)=18446744073709551616 by decide,Int.emod_eq_of_lt h0 h1]
 have hle:(BitVec.ofInt 64 x&&& BitVec.ofInt 64 m).toNat≤m.toNat:=by rw [BitVec.toNat_and,hm]; exact Nat.and_le_right
 rw [qna]
 show 0≤IntKind.wrap .u64 (((BitVec.ofInt 64 x&&& BitVec.ofInt 64 m).toNat:Nat):Int)∧IntKind.wrap .u64 (((BitVec.ofInt 64 x&&& BitVec.ofInt 64 m).toNat:Nat):Int)≤m
 rw [qgM (by omega) (by omega)]
 omega
theorem quH {L:(Int×Unit)→Option ((Int×Unit)×Unit)} (hL:qtL L) (hn:n≤1099511627776) (hN:n+10<N) {xs:List α} (h:Ck P n xs) {a b:Int} (ha:0≤a) (hab:a+8≤b) (hb:b≤(n:Int)):∃out,qhG d N L (xs,(a,(b,(φ,()))))=some ((),(out,()))∧Seg d n a b xs out:=by
 have e1:qT .i64 b a=b - a:=qam (by omega) (by omega)
 have e2:qrq .i64 (b - a) 4=(b - a) / 4:=by rw [qjV,Int.tdiv_eq_ediv_of_nonneg (by omega),qdH (by omega) (by omega)]
 have e4:qol .i64 ((b - a) / 4) 2=(b - a) / 4 * 2:=by rw [qdY,qdH (by omega) (by omega)]
 have e7:qS .i64 a ((b - a) / 4 * 2)=a+(b - a) / 4 * 2:=qat (by omega) (by omega)
 have e8:qT .i64 (a+(b - a) / 4 * 2) 1=a+(b - a) / 4 * 2 - 1:=qam (by omega) (by omega)
 have e9:qS .i64 (a+(b - a) / 4 * 2) 1=a+(b - a) / 4 * 2+1:=qat (by omega) (by omega)
 have eA:qc1 .u64 (b - a)=b - a:=by rw [qfA,qgM (by omega) (by omega)]
 obtain ⟨e,l1,l2,l3⟩:=hL (b - a).toNat (by omega)
 have lk:((b - a).toNat:Int)=b - a:=by omega
 rw [lk] at l1
 have l4:=l3 (by omega)
 have hpow:(1:Nat)≤2^e:=Nat.one_le_two_pow
 have eB:qlS .u64 1 (e:Int)=((2^e:Nat):Int):=by
  rw [qnd]
  have hm:min (e:Int).toNat IntKind.u64.bits=e:=by
   show min (e:Int).toNat 64=e
   omega
  rw [hm,Int.one_mul,show ((2:Int)^e)=((2^e:Nat):Int) by rw [Int.natCast_pow]; rfl,qgM (by omega) (by omega)]
 have eC:qT .u64 ((2^e:Nat):Int) 1=((2^e:Nat):Int) - 1:=by rw [qlv,qgM (by omega) (by omega)]
 have hpw:qtv L (b - a,())=some ((((2^e:Nat):Int),()),()):=by
  simp only [qtv,eA,l1,qf,qh,leT (Int.natCast_nonneg e),Bool.and_self,cond_true,eB]
 simp only [qhG,qG,e1,e2,e4,e7,e8,e9,eA,neT (show ¬(4:Int)=0 by omega),leT (show (8:Int)≤b - a by omega),cond_true,hpw,qf,qh,eC]
 generalize hq:(b - a) / 4=q at *
 generalize hpp:(2^e:Nat)=pw at *
 refine qas (S:=List α×(Int×(Int×Unit))) (fun p=>(a+q * 2+2 - p.2.2.1).toNat) (fun p=>Seg d n a b xs p.1∧a+q * 2 - 1≤p.2.2.1) (fun r=>∃out,r=some ((),(out,()))∧Seg d n a b xs out) ?_ N _ ⟨.refl d _ _ xs,by simp only; omega⟩ (by simp only; omega)
 rintro ih ⟨ys,r,idx,⟨⟩⟩ ⟨hs,hi⟩ hih
 simp only at hs hi hih⊢
 have hc:=hs.ck d h
 by_cases hx:idx≤a+q * 2+1
 ·have hnx:∃v,qrv (r,())=some ((v,()),(v,())):=by
   simp only [qrv,leT (show (0:Int)≤13 by omega),leT (show (0:Int)≤7 by omega),leT (show (0:Int)≤17 by omega),cond_true]
   exact ⟨_,rfl⟩
  obtain ⟨v,hv⟩:=hnx
  obtain ⟨b1,b2⟩:=qyq (x:=v) (m:=(pw:Int) - 1) (by omega) (by omega)
  simp only [leT hx,cond_true,hv,qf,qh]
  generalize qw9 .u64 v ((pw:Int) - 1)=w at *
  have ew:qc1 .i64 w=w:=qsh (by omega) (by omega)
  have es:qT .i64 w (b - a)=w - (b - a):=qam (by omega) (by omega)
  rw [ew,es]
  obtain ⟨o,ho,o0,o1⟩:∃o,(bif leI (b - a) w then w - (b - a) else w)=o∧0≤o∧o<b - a:=by
   by_cases hw:b - a≤w
   ·exact ⟨_,by rw [leT hw,cond_true],by omega,by omega⟩
   ·exact ⟨_,by rw [leF hw,cond_false],by omega,by omega⟩
  have ea:qS .i64 a o=a+o:=qat (by omega) (by omega)
  have ei:qS .i64 idx 1=idx+1:=qat (by omega) (by omega)
  simp only [ho,ea,ei,qds,hc.inB (i:=idx) (by omega) (by omega),hc.inB (i:=a+o) (by omega) (by omega),Bool.and_self,cond_true]
  exact hih (swp d ys idx (a+o),(v,(idx+1,()))) ⟨hs.trans d (qdQ d hc.len ha hb (by omega) (by omega) (by omega) (by omega)),by simp only; omega⟩ (by simp only; omega)
 ·simp only [leF hx,cond_false]
  exact ⟨ys,rfl,hs⟩
def Pre (d:α) (le:α→α→Prop) (a b:Int) (xs:List α):Prop:=0<a→∀k,a≤k→k<b→le (qi xs (a - 1) d) (qi xs k d)
theorem Seg.pre {a b:Int} {xs ys:List α} (h:Seg d n a b xs ys) (hb:b≤(n:Int)) (hp:Pre d le a b xs):Pre d le a b ys:=fun a0 k k1 k2=>by
 obtain ⟨m,m1,m2,m3⟩:=h.inn k k1 k2
 rw [h.out (a - 1) (by omega) (by omega) (by omega),m3]
 exact hp a0 m m1 m2
theorem qkP (hφ:Cmp P φ le) {u v:α} (pu:P u) (pv:P v):∃c,φ (u,(v,()))=some (c,())∧((c<0)∧¬le v u∧le u v∨¬(c<0)∧le v u):=by
 obtain ⟨c,a1,a2⟩:=hφ.ans u v pu pv
 by_cases hc:c<0
 ·exact ⟨c,a1,.inl ⟨hc,a2.1 hc,hφ.flip pu pv (a2.1 hc)⟩⟩
 ·exact ⟨c,a1,.inr ⟨hc,Classical.byContradiction fun w=>hc (a2.2 w)⟩⟩
def shR {R:Type} (d:α) (N:Nat) (b:Int) (φ:(α×(α×Unit))→Option (Int×Unit)) (K:List α→Option R) (xs:List α) (j:Int):Option R:=
 qab (S:=List α×(Int×Unit)) (R:=R) N (fun ih7=>(fun p8=>(bif (ltI p8.2.1 b) then (bif ((inB p8.2.1 (qn p8.1))&&((inB (qT .i64 p8.2.1 1) (qn p8.1))&&(qt (φ ((qi p8.1 p8.2.1 d),((qi p8.1 (qT .i64 p8.2.1 1) d),())))))) then (bif (!(ltI (qr (φ ((qi p8.1 p8.2.1 d),((qi p8.1 (qT .i64 p8.2.1 1) d),()))) (0,())).1 0)) then K p8.1 else (bif ((inB (qT .i64 p8.2.1 1) (qn p8.1))&&((inB p8.2.1 (qn p8.1))&&((inB p8.2.1 (qn p8.1))&&(inB (qT .i64 p8.2.1 1) (qn (qbZ p8.1 p8.2.1 (qi p8.1 (qT .i64 p8.2.1 1) d))))))) then (ih7 ((qbZ (qbZ p8.1 p8.2.1 (qi p8.1 (qT .i64 p8.2.1 1) d)) (qT .i64 p8.2.1 1) (qi p8.1 p8.2.1 d)),((qS .i64 p8.2.1 1),()))) else none)) else none) else K p8.1))) (xs,(j,()))
def shL {R:Type} (d:α) (N:Nat) (φ:(α×(α×Unit))→Option (Int×Unit)) (K:List α→Option R) (xs:List α) (j:Int):Option R:=
 qab (S:=List α×(Int×Unit)) (R:=R) N (fun ih5=>(fun p6=>(bif (leI 1 p6.2.1) then (bif ((inB p6.2.1 (qn p6.1))&&((inB (qT .i64 p6.2.1 1) (qn p6.1))&&(qt (φ ((qi p6.1 p6.2.1 d),((qi p6.1 (qT .i64 p6.2.1 1) d),())))))) then (bif (!(ltI (qr (φ ((qi p6.1 p6.2.1 d),((qi p6.1 (qT .i64 p6.2.1 1) d),()))) (0,())).1 0)) then K p6.1 else (bif ((inB (qT .i64 p6.2.1 1) (qn p6.1))&&((inB p6.2.1 (qn p6.1))&&((inB p6.2.1 (qn p6.1))&&(inB (qT .i64 p6.2.1 1) (qn (qbZ p6.1 p6.2.1 (qi p6.1 (qT .i64 p6.2.1 1) d))))))) then (ih5 ((qbZ (qbZ p6.1 p6.2.1 (qi p6.1 (qT .i64 p6.2.1 1) d)) (qT .i64 p6.2.1 1) (qi p6.1 p6.2.1 d)),((qT .i64 p6.2.1 1),()))) else none)) else none) else K p6.1))) (xs,(j,()))
def pinR {R:Type} (d:α) (N:Nat) (b:Int) (φ:(α×(α×Unit))→Option (Int×Unit)) (i:Int) (K:List α→Option R) (ys:List α):Option R:=
 bif leI 2 (qT .i64 b i) then shR d N b φ K ys (qS .i64 i 1) else K ys
def pinT (d:α) (N:Nat) (a b i:Int) (φ:(α×(α×Unit))→Option (Int×Unit)) (K:List α→Option ((Bool×Unit)×(List α×Unit))) (ys:List α):Option ((Bool×Unit)×(List α×Unit)):=
 bif eqI i b then some ((true,()),(ys,())) else bif ltI (qT .i64 b a) 50 then some ((false,()),(ys,())) else
  bif ((inB (qT .i64 i 1) (qn ys))&&((inB i (qn ys))&&((inB i (qn ys))&&(inB (qT .i64 i 1) (qn (qbZ ys i (qi ys (qT .i64 i 1) d))))))) then
   (bif leI 2 (qT .i64 i a) then shL d N φ (pinR d N b φ i K) (qbZ (qbZ ys i (qi ys (qT .i64 i 1) d)) (qT .i64 i 1) (qi ys i d)) (qT .i64 i 1)
    else pinR d N b φ i K (qbZ (qbZ ys i (qi ys (qT .i64 i 1) d)) (qT .i64 i 1) (qi ys i d))) else none
theorem qvh (x:List α×(Int×(Int×(((α×(α×Unit))→(Option (Int×Unit)))×Unit)))):qcX d N x=
  qR (qS .i64 x.2.1 1) (fun y0=>qab (S:=(List α×(Int×(Int×Unit)))) (R:=((Bool×Unit)×(List α×Unit))) N (fun ih1=>(fun p2=>(bif (ltI p2.2.2.1 5) then
   (qab (S:=(List α×(Int×Unit))) (R:=((Bool×Unit)×(List α×Unit))) N (fun ih3=>(fun p4=>(bif (((!(ltI p4.2.1 x.2.2.1))||(inB p4.2.1 (qn p4.1)))&&(((!(ltI p4.2.1 x.2.2.1))||(inB (qT .i64 p4.2.1 1) (qn p4.1)))&&((!(ltI p4.2.1 x.2.2.1))||(qt (x.2.2.2.1 ((qi p4.1 p4.2.1 d),((qi p4.1 (qT .i64 p4.2.1 1) d),()))))))) then
    (bif ((ltI p4.2.1 x.2.2.1)&&(!(ltI (qr (x.2.2.2.1 ((qi p4.1 p4.2.1 d),((qi p4.1 (qT .i64 p4.2.1 1) d),()))) (0,())).1 0))) then (ih3 (p4.1,((qS .i64 p4.2.1 1),())))
     else pinT d N x.2.1 x.2.2.1 p4.2.1 x.2.2.2.1 (fun ys=>ih1 (ys,(p4.2.1,((qS .i64 p2.2.2.1 1),())))) p4.1) else none))) (p2.1,(p2.2.1,()))) else (some ((false,()),(p2.1,())))))) (x.1,(y0,(0,())))):=rfl
theorem shR_ok {R:Type} (hφ:Cmp P φ le) (hn:n≤1099511627776) (hN:n+1<N) {K:List α→Option R} (Q:Option R→Prop) {xs:List α} (h:Ck P n xs) {i b:Int} (i0:0≤i) (hb:b≤(n:Int)) (hK:∀ys,Seg d n i b xs ys→Q (K ys)):Q (shR d N b φ K xs (i+1)):=by
 refine qas (S:=List α×(Int×Unit)) (fun p=>(b - p.2.1).toNat) (fun p=>Seg d n i b xs p.1∧i+1≤p.2.1) Q ?_ N _ ⟨.refl d _ _ xs,by simp only; omega⟩ (by simp only; omega)
 rintro ih ⟨ys,j,⟨⟩⟩ ⟨hs,hj⟩ hih
 simp only at hs hj hih⊢
 have hc:=hs.ck d h
 by_cases q:j<b
 ·have e1:qT .i64 j 1=j - 1:=qam (by omega) (by omega)
  have e2:qS .i64 j 1=j+1:=qat (by omega) (by omega)
  obtain ⟨c,a1,a2⟩:=qkP hφ (hc.get d (i:=j) (by omega) (by omega)) (hc.get d (i:=j - 1) (by omega) (by omega))
  simp only [ltT q,cond_true,e1,e2,hc.inB (i:=j) (by omega) (by omega),hc.inB (i:=j - 1) (by omega) (by omega),a1,qf,qh,Bool.and_self,qds]
  rcases a2 with ⟨a3,-,-⟩|⟨a3,-⟩
  ·simp only [ltT a3,Bool.not_true,cond_false]
   exact hih (swp d ys j (j - 1),(j+1,())) ⟨hs.trans d (qdQ d hc.len i0 hb (by omega) (by omega) (by omega) (by omega)),by simp only; omega⟩ (by simp only; omega)
  ·simp only [ltF a3,Bool.not_false,cond_true]
   exact hK ys hs
 ·simp only [ltF q,cond_false]
  exact hK ys hs
theorem qy3 {R:Type} (hφ:Cmp P φ le) (hn:n≤1099511627776) (hN:n+1<N) {K:List α→Option R} (Q:Option R→Prop) {xs:List α} (h:Ck P n xs) {i b:Int} (i0:0≤i) (ib:i<b) (hb:b≤(n:Int)) (hK:∀ys,Seg d n i b xs ys→Q (K ys)):Q (pinR d N b φ i K xs):=by
 have e1:qT .i64 b i=b - i:=qam (by omega) (by omega)
 have e2:qS .i64 i 1=i+1:=qat (by omega) (by omega)
 simp only [pinR,e1,e2]
 by_cases q:2≤b - i
 ·rw [leT q,cond_true]; exact shR_ok d hφ hn hN Q h i0 hb hK
 ·rw [leF q,cond_false]; exact hK xs (.refl d _ _ xs)
theorem shL_ok {R:Type} (hφ:Cmp P φ le) (hn:n≤1099511627776) (hN:n+1<N) {K:List α→Option R} (Q:Option R→Prop) {xs:List α} (h:Ck P n xs) {a i b:Int} (a0:0≤a) (ia:a+2≤i) (ib:i<b) (hb:b≤(n:Int)) (hp:Pre d le a b xs) (hs0:Srt d le a (i - 1) xs) (hK:∀ys,Seg d n a b xs ys→Srt d le a i ys→Q (K ys)):Q (shL d N φ K xs (i - 1)):=by
 refine qas (S:=List α×(Int×Unit)) (fun p=>(p.2.1).toNat) (fun p=>Seg d n a b xs p.1∧a≤p.2.1∧p.2.1≤i - 1∧∀x y,a≤x→x<y→y≤i - 1→y≠p.2.1→le (qi p.1 x d) (qi p.1 y d)) Q ?_ N _ ⟨.refl d _ _ xs,by simp only; omega,by simp only; omega,fun x y h1 h2 h3 h4=>hs0 x y h1 (by omega) (by simp only at h4⊢; omega)⟩ (by simp only; omega)
 rintro ih ⟨zs,j,⟨⟩⟩ ⟨hz,hj1,hj2,hord⟩ hih
 simp only at hz hj1 hj2 hord hih⊢
 have hzc:=hz.ck d h
 have hpz:=hz.pre d hb hp
 have fin:(a<j→le (qi zs (j - 1) d) (qi zs j d))→Srt d le a i zs:=fun hle x y h1 h2 h3=>by
  by_cases hxy:x=y
  ·subst hxy; exact hφ.refl (hzc.get d (by omega) (by omega))
  by_cases hyj:y=j
  ·subst hyj
   by_cases hx:x=y - 1
   ·rw [hx]; exact hle (by omega)
   ·exact hφ.trans _ _ _ (hzc.get d (by omega) (by omega)) (hzc.get d (i:=y - 1) (by omega) (by omega)) (hzc.get d (by omega) (by omega)) (hord x (y - 1) h1 (by omega) (by omega) (by omega)) (hle (by omega))
  ·exact hord x y h1 (by omega) (by omega) hyj
 by_cases hj0:1≤j
 ·have e1:qT .i64 j 1=j - 1:=qam (by omega) (by omega)
  have pj:=hzc.get d (i:=j) (by omega) (by omega)
  have pk:=hzc.get d (i:=j - 1) (by omega) (by omega)
  obtain ⟨c,a1,a2⟩:=qkP hφ pj pk
  simp only [leT hj0,cond_true,e1,hzc.inB (i:=j) (by omega) (by omega),hzc.inB (i:=j - 1) (by omega) (by omega),a1,qf,qh,Bool.and_self,qds]
  rcases a2 with ⟨a3,a4,hle⟩|⟨a3,a4⟩
  ·simp only [ltT a3,Bool.not_true,cond_false]
   have hja:a<j:=by
    by_cases w:a<j
    ·exact w
    ·have:j=a:=by omega
     subst this
     exact absurd (hpz (by omega) j (by omega) (by omega)) a4
   have g:=qeI d hzc.len (i:=j) (j:=j - 1) (by omega) (by omega) (by omega) (by omega)
   refine hih (swp d zs j (j - 1),(j - 1,())) ⟨hz.trans d (qdQ d hzc.len a0 hb (by omega) (by omega) (by omega) (by omega)),by simp only; omega,by simp only; omega,fun x y h1 h2 h3 h4=> ?_⟩ (by simp only; omega)
   simp only at h4⊢
   rw [g x (by omega),g y (by omega)]
   rw [if_neg h4]
   by_cases hy:y=j
   ·rw [if_pos hy]
    by_cases hx:x=j - 1
    ·rw [if_pos hx]; exact hle
    ·rw [if_neg hx,if_neg (by omega)]; exact hord x (j - 1) h1 (by omega) (by omega) (by omega)
   ·rw [if_neg hy]
    by_cases hx:x=j - 1
    ·rw [if_pos hx]; exact hord j y (by omega) (by omega) h3 hy
    ·rw [if_neg hx]
     by_cases hx2:x=j
     ·rw [if_pos hx2]; exact hord (j - 1) y (by omega) (by omega) h3 hy
     ·rw [if_neg hx2]; exact hord x y h1 h2 h3 hy
  ·simp only [ltF a3,Bool.not_false,cond_true]
   exact hK zs hz (fin fun _=>a4)
 ·simp only [leF hj0,cond_false]
  exact hK zs hz (fin fun w=>by omega)
def qml (d:α) (n:Nat) (le:α→α→Prop) (a b:Int) (xs:List α) (r:Option ((Bool×Unit)×(List α×Unit))):Prop:=∃fl out,r=some ((fl,()),(out,()))∧Seg d n a b xs out∧(fl=true→Srt d le a b out)
theorem qvr (hφ:Cmp P φ le) (hn:n≤1099511627776) (hN:n+10<N) {xs:List α} (h:Ck P n xs) {a b:Int} (ha:0≤a) (hab:a<b) (hb:b≤(n:Int)) (hp:Pre d le a b xs):qml d n le a b xs (qcX d N (xs,(a,(b,(φ,()))))):=by
 have e1:qS .i64 a 1=a+1:=qat (by omega) (by omega)
 rw [qvh]
 simp only [qG,e1]
 refine qas (S:=List α×(Int×(Int×Unit))) (fun p=>(5 - p.2.2.1).toNat) (fun p=>Seg d n a b xs p.1∧a+1≤p.2.1∧p.2.1≤b∧0≤p.2.2.1∧Srt d le a p.2.1 p.1) (qml d n le a b xs) ?_ N _ ⟨.refl d _ _ xs,by simp only; omega,by simp only; omega,by simp only; omega,fun i j h1 h2 h3=>by
  simp only at h3
  have:i=j:=by omega
  subst this
  exact hφ.refl (h.get d (by omega) (by omega))⟩ (by simp only; omega)
 rintro ih ⟨ys,i,c,⟨⟩⟩ ⟨hs,hi,hib,hc0,hsrt⟩ hih
 simp only at hs hi hib hc0 hsrt hih⊢
 by_cases hc5:c<5
 ·have ec:qS .i64 c 1=c+1:=qat (by omega) (by omega)
  simp only [ltT hc5,cond_true,ec]
  have hcy:=hs.ck d h
  refine qas (S:=List α×(Int×Unit)) (fun p=>(b - p.2.1).toNat) (fun p=>p.1=ys∧i≤p.2.1∧p.2.1≤b∧Srt d le a p.2.1 ys) (qml d n le a b xs) ?_ N _ ⟨rfl,by simp only; omega,by simp only; omega,hsrt⟩ (by simp only; omega)
  rintro jh ⟨ys',j,⟨⟩⟩ ⟨hy,hj1,hj2,hso⟩ hjh
  simp only at hy hj1 hj2 hso hjh⊢
  subst hy
  have s1:qT .i64 j 1=j - 1:=qam (by omega) (by omega)
  by_cases hjb:j<b
  ·have pj:=hcy.get d (i:=j) (by omega) (by omega)
   have pk:=hcy.get d (i:=j - 1) (by omega) (by omega)
   obtain ⟨v,a1,a2⟩:=qkP hφ pj pk
   simp only [ltT hjb,s1,hcy.inB (i:=j) (by omega) (by omega),hcy.inB (i:=j - 1) (by omega) (by omega),a1,qf,qh,Bool.not_true,Bool.false_or,Bool.true_and,Bool.and_self,cond_true]
   rcases a2 with ⟨a3,a4,hle⟩|⟨a3,a4⟩
   ·simp only [ltT a3,Bool.not_true,cond_false]
    have e5:qT .i64 b a=b - a:=qam (by omega) (by omega)
    have e6:qT .i64 j a=j - a:=qam (by omega) (by omega)
    simp only [pinT,s1,e5,e6,eqF (show ¬j=b by omega),cond_false,hcy.inB (i:=j) (by omega) (by omega),hcy.inB (i:=j - 1) (by omega) (by omega),qds,Bool.and_self,cond_true]
    by_cases h50:b - a<50
    ·rw [ltT h50,cond_true]
     exact ⟨false,ys',rfl,hs,fun w=>by cases w⟩
    rw [ltF h50,cond_false]
    have hsw:Seg d n a b ys' (swp d ys' j (j - 1)):=qdQ d hcy.len ha hb (by omega) (by omega) (by omega) (by omega)
    have hcs:=hsw.ck d hcy
    have g:=qeI d hcy.len (i:=j) (j:=j - 1) (by omega) (by omega) (by omega) (by omega)
    have post:∀zs,Seg d n a b xs zs→Srt d le a j zs→qml d n le a b xs (pinR d N b φ j (fun ys=>ih (ys,(j,(c+1,())))) zs):=fun zs z1 z2=>by
     refine qy3 d hφ hn (by omega) (qml d n le a b xs) (z1.ck d h) (by omega) hjb hb fun ws w1=> ?_
     refine hih (ws,(j,(c+1,()))) ⟨z1.trans d (w1.mono d ha hb (by omega) (by omega)),by simp only; omega,by simp only; omega,by simp only; omega,fun x y h1 h2 h3=> ?_⟩ (by simp only; omega)
     simp only at h3⊢
     rw [w1.out x (by omega) (by omega) (by omega),w1.out y (by omega) (by omega) (by omega)]
     exact z2 x y h1 h2 h3
    by_cases hj2a:2≤j - a
    ·rw [leT hj2a,cond_true]
     refine shL_ok d hφ hn (by omega) (qml d n le a b xs) (a:=a) (i:=j) (b:=b) hcs ha (by omega) hjb hb (hsw.pre d hb (hs.pre d hb hp)) (fun x y h1 h2 h3=> ?_) fun zs z1 z2=>post zs ((hs.trans d hsw).trans d z1) z2
     have e1:qi (swp d ys' j (j - 1)) x d=qi ys' x d:=by rw [g x (by omega),if_neg (by omega),if_neg (by omega)]
     have e2:qi (swp d ys' j (j - 1)) y d=qi ys' y d:=by rw [g y (by omega),if_neg (by omega),if_neg (by omega)]
     show le (qi (swp d ys' j (j - 1)) x d) (qi (swp d ys' j (j - 1)) y d)
     rw [e1,e2]
     exact hso x y h1 h2 (by omega)
    ·rw [leF hj2a,cond_false]
     refine post (swp d ys' j (j - 1)) (hs.trans d hsw) fun x y h1 h2 h3=> ?_
     have:x=y:=by omega
     subst this
     exact hφ.refl (hcs.get d (by omega) (by omega))
   ·have e2:qS .i64 j 1=j+1:=qat (by omega) (by omega)
    simp only [ltF a3,Bool.not_false,cond_true,e2]
    refine hjh _ ⟨rfl,by simp only; omega,by simp only; omega,fun x y h1 h2 h3=> ?_⟩ (by simp only; omega)
    simp only at h3
    by_cases hy:y=j
    ·subst hy
     by_cases hx:x=y
     ·subst hx; exact hφ.refl pj
     ·exact hφ.trans _ _ _ (hcy.get d (i:=x) (by omega) (by omega)) pk pj (hso x (y - 1) h1 (by omega) (by omega)) a4
    ·exact hso x y h1 h2 (by omega)
  ·have:j=b:=by omega
   simp only [ltF hjb,Bool.not_false,Bool.true_or,Bool.and_self,cond_true,Bool.false_and,cond_false,pinT,eqT this]
   subst this
   exact ⟨true,ys',rfl,hs,fun _=>hso⟩
 ·simp only [ltF hc5,cond_false]
  exact ⟨false,ys,rfl,hs,fun w=>by cases w⟩
def pdqT (d:α) (N:Nat) (Fs:((List α)×(Int×(Int×(Int×(((α×(α×Unit))→(Option (Int×Unit)))×Unit)))))→(Option (Unit×((List α)×Unit)))) (φ:(α×(α×Unit))→Option (Int×Unit))
  (y2 y3 y5 y6 y9:Int) (bal par:Bool) (ih0:(List α×(Int×(Int×(Int×(Bool×(Bool×Unit))))))→Option (Unit×(List α×Unit))) (zs:List α):Option (Unit×(List α×Unit)):=
 (bif (((!(ltI 0 y5))||(inB (qT .i64 y5 1) (qn zs)))&&(((!(ltI 0 y5))||(inB y9 (qn zs)))&&((!(ltI 0 y5))||(qt (φ ((qi zs (qT .i64 y5 1) d),((qi zs y9 d),()))))))) then (qR ((ltI 0 y5)&&(!(ltI (qr (φ ((qi zs (qT .i64 y5 1) d),((qi zs y9 d),()))) (0,())).1 0))) (fun y12=>(bif y12 then (bif (qt (qiG d N (zs,(y5,(y6,(y9,(φ,()))))))) then (qR (qr (qiG d N (zs,(y5,(y6,(y9,(φ,())))))) ((0,()),(([]:List α),()))).2.1 (fun ys13=>(qR y6 (fun y14=>(qR (qr (qiG d N (zs,(y5,(y6,(y9,(φ,())))))) ((0,()),(([]:List α),()))).1.1 (fun y15=>(ih0 (ys13,(y15,(y14,(y3,(bal,(par,()))))))))))))) else none) else (bif (qt (qgw d N (zs,(y5,(y6,(y9,(φ,()))))))) then (qR (qr (qgw d N (zs,(y5,(y6,(y9,(φ,())))))) ((0,(false,())),(([]:List α),()))).2.1 (fun ys13=>(qR y5 (fun y14=>(qR y6 (fun y15=>(qR (qr (qgw d N (zs,(y5,(y6,(y9,(φ,())))))) ((0,(false,())),(([]:List α),()))).1.1 (fun y16=>(qR (qr (qgw d N (zs,(y5,(y6,(y9,(φ,())))))) ((0,(false,())),(([]:List α),()))).1.2.1 (fun y17=>(qR (qT .i64 y16 y14) (fun y18=>(qR (qT .i64 y15 y16) (fun y19=>(bif (neI 8 0) then (qR (qrq .i64 y2 8) (fun y20=>(bif (bif (ltI y18 y19) then (qt (Fs (ys13,(y14,(y16,(y3,(φ,()))))))) else (qt (Fs (ys13,((qS .i64 y16 1),(y15,(y3,(φ,())))))))) then (ih0 ((bif (ltI y18 y19) then (qr (Fs (ys13,(y14,(y16,(y3,(φ,())))))) ((),(([]:List α),()))).2.1 else (qr (Fs (ys13,((qS .i64 y16 1),(y15,(y3,(φ,())))))) ((),(([]:List α),()))).2.1),((bif (ltI y18 y19) then (qS .i64 y16 1) else y14),((bif (ltI y18 y19) then y15 else y16),(y3,((bif (ltI y18 y19) then (leI y20 y18) else (leI y20 y19)),(y17,()))))))) else none))) else none))))))))))))))) else none)))) else none)
def pdqU (d:α) (N:Nat) (Fs:((List α)×(Int×(Int×(Int×(((α×(α×Unit))→(Option (Int×Unit)))×Unit)))))→(Option (Unit×((List α)×Unit)))) (φ:(α×(α×Unit))→Option (Int×Unit))
  (y2 y3 y5 y6 y7 y8:Int) (bal par:Bool) (ih0:(List α×(Int×(Int×(Int×(Bool×(Bool×Unit))))))→Option (Unit×(List α×Unit))) (ys4:List α):Option (Unit×(List α×Unit)):=
 (bif (bif (eqI y8 2) then (qt (qbU d N (ys4,(y5,(y6,(φ,())))))) else true) then (qR (bif (eqI y8 2) then (qT .i64 (qT .i64 y6 1) (qT .i64 y7 y5)) else y7) (fun y9=>(qR (bif (eqI y8 2) then 1 else y8) (fun y10=>(qR ((bal&&par)&&(eqI y10 1)) (fun y11=>(bif y11 then (bif (qt (qcX d N ((bif (eqI y8 2) then (qr (qbU d N (ys4,(y5,(y6,(φ,()))))) ((),(([]:List α),()))).2.1 else ys4),(y5,(y6,(φ,())))))) then (bif (qr (qcX d N ((bif (eqI y8 2) then (qr (qbU d N (ys4,(y5,(y6,(φ,()))))) ((),(([]:List α),()))).2.1 else ys4),(y5,(y6,(φ,()))))) ((false,()),(([]:List α),()))).1.1 then (some ((),((qr (qcX d N ((bif (eqI y8 2) then (qr (qbU d N (ys4,(y5,(y6,(φ,()))))) ((),(([]:List α),()))).2.1 else ys4),(y5,(y6,(φ,()))))) ((false,()),(([]:List α),()))).2.1,())))
  else pdqT d N Fs φ y2 y3 y5 y6 y9 bal par ih0 (qr (qcX d N ((bif (eqI y8 2) then (qr (qbU d N (ys4,(y5,(y6,(φ,()))))) ((),(([]:List α),()))).2.1 else ys4),(y5,(y6,(φ,()))))) ((false,()),(([]:List α),()))).2.1) else none)
  else pdqT d N Fs φ y2 y3 y5 y6 y9 bal par ih0 (bif (eqI y8 2) then (qr (qbU d N (ys4,(y5,(y6,(φ,()))))) ((),(([]:List α),()))).2.1 else ys4)))))))) else none)
theorem qyL (L:(Int×Unit)→Option ((Int×Unit)×Unit)) (Fs:((List α)×(Int×(Int×(Int×(((α×(α×Unit))→(Option (Int×Unit)))×Unit)))))→(Option (Unit×((List α)×Unit)))) (x:((List α)×(Int×(Int×(Int×(((α×(α×Unit))→(Option (Int×Unit)))×Unit)))))):pdqS d N L Fs x=
 (qab (S:=((List α)×(Int×(Int×(Int×(Bool×(Bool×Unit))))))) (R:=(Unit×((List α)×Unit))) N (fun ih0=>(fun p1=>(qR (qT .i64 p1.2.2.1 p1.2.1) (fun y2=>(bif (leI y2 12) then (bif (qt (qg2 d N (p1.1,(p1.2.1,(p1.2.2.1,(x.2.2.2.2.1,())))))) then (some ((),((qr (qg2 d N (p1.1,(p1.2.1,(p1.2.2.1,(x.2.2.2.2.1,()))))) ((),(([]:List α),()))).2.1,()))) else none) else (bif (eqI p1.2.2.2.1 0) then (bif (qt (qsy d N (p1.1,(p1.2.1,(p1.2.2.1,(x.2.2.2.2.1,())))))) then (some ((),((qr (qsy d N (p1.1,(p1.2.1,(p1.2.2.1,(x.2.2.2.2.1,()))))) ((),(([]:List α),()))).2.1,()))) else none) else (bif (bif (!p1.2.2.2.2.1) then (qt (qhG d N L (p1.1,(p1.2.1,(p1.2.2.1,(x.2.2.2.2.1,())))))) else true) then (qR (bif (!p1.2.2.2.2.1) then (qT .i64 p1.2.2.2.1 1) else p1.2.2.2.1) (fun y3=>(bif (qt (qgD d N ((bif (!p1.2.2.2.2.1) then (qr (qhG d N L (p1.1,(p1.2.1,(p1.2.2.1,(x.2.2.2.2.1,()))))) ((),(([]:List α),()))).2.1 else p1.1),(p1.2.1,(p1.2.2.1,(x.2.2.2.2.1,())))))) then (qR (qr (qgD d N ((bif (!p1.2.2.2.2.1) then (qr (qhG d N L (p1.1,(p1.2.1,(p1.2.2.1,(x.2.2.2.2.1,()))))) ((),(([]:List α),()))).2.1 else p1.1),(p1.2.1,(p1.2.2.1,(x.2.2.2.2.1,()))))) ((0,(0,())),(([]:List α),()))).2.1 (fun ys4=>(qR p1.2.1 (fun y5=>(qR p1.2.2.1 (fun y6=>(qR (qr (qgD d N ((bif (!p1.2.2.2.2.1) then (qr (qhG d N L (p1.1,(p1.2.1,(p1.2.2.1,(x.2.2.2.2.1,()))))) ((),(([]:List α),()))).2.1 else p1.1),(p1.2.1,(p1.2.2.1,(x.2.2.2.2.1,()))))) ((0,(0,())),(([]:List α),()))).1.1 (fun y7=>(qR (qr (qgD d N ((bif (!p1.2.2.2.2.1) then (qr (qhG d N L (p1.1,(p1.2.1,(p1.2.2.1,(x.2.2.2.2.1,()))))) ((),(([]:List α),()))).2.1 else p1.1),(p1.2.1,(p1.2.2.1,(x.2.2.2.2.1,()))))) ((0,(0,())),(([]:List α),()))).1.2.1 (fun y8=>pdqU d N Fs x.2.2.2.2.1 y2 y3 y5 y6 y7 y8 p1.2.2.2.2.1 p1.2.2.2.2.2.1 ih0 ys4))))))))))
  else none))) else none))))))) (x.1,(x.2.1,(x.2.2.1,(x.2.2.2.1,(true,(true,()))))))):=rfl
structure quA (d:α) (n:Nat) (le:α→α→Prop) (a0 b0:Int) (xs ys:List α) (a b:Int):Prop where
 seg:Seg d n a0 b0 xs ys
 la:a0≤a
 ab:a≤b
 rb:b≤b0
 pre:Pre d le a b ys
 lo:∀i j,a0≤i→i<a→i≤j→j<b0→le (qi ys i d) (qi ys j d)
 hi:∀i j,a0≤i→i≤j→b≤j→j<b0→le (qi ys i d) (qi ys j d)
theorem quA.move {a0 b0 a b:Int} {xs ys zs:List α} (h:quA d n le a0 b0 xs ys a b) (h0:0≤a0) (hn:b0≤(n:Int)) (hs:Seg d n a b ys zs):quA d n le a0 b0 xs zs a b:=by
 have h1:=h.la; have h2:=h.rb; have h3:=h.ab
 refine ⟨h.seg.trans d (hs.mono d h0 hn h1 h2),h1,h3,h2,hs.pre d (by omega) h.pre,fun i j q1 q2 q3 q4=> ?_,fun i j q1 q2 q3 q4=> ?_⟩
 ·rw [hs.out i (by omega) (by omega) (by omega)]
  by_cases w:a≤j∧j<b
  ·obtain ⟨m,m1,m2,m3⟩:=hs.inn j w.1 w.2
   rw [m3]; exact h.lo i m q1 q2 (by omega) (by omega)
  ·rw [hs.out j (by omega) (by omega) (by omega)]; exact h.lo i j q1 q2 q3 q4
 ·rw [hs.out j (by omega) (by omega) (by omega)]
  by_cases w:a≤i∧i<b
  ·obtain ⟨m,m1,m2,m3⟩:=hs.inn i w.1 w.2
   rw [m3]; exact h.hi m j (by omega) (by omega) q3 q4
  ·rw [hs.out i (by omega) (by omega) (by omega)]; exact h.hi i j q1 q2 q3 q4
theorem quA.fin {a0 b0 a b:Int} {xs ys:List α} (h:quA d n le a0 b0 xs ys a b) (hs:Srt d le a b ys):Srt d le a0 b0 ys:=fun i j q1 q2 q3=>by
 by_cases w1:i<a
 ·exact h.lo i j q1 w1 q2 q3
 ·by_cases w2:b≤j
  ·exact h.hi i j q1 q2 w2 q3
  ·exact hs i j (by omega) q2 (by omega)
theorem quA.ends {a0 b0 a b:Int} {xs ys zs:List α} (h:quA d n le a0 b0 xs ys a b) (h0:0≤a0) (hn:b0≤(n:Int)) (hs:Seg d n a b ys zs) (hz:Srt d le a b zs):qlQ P d n le a0 b0 xs (some ((),(zs,()))):=
 ⟨zs,rfl,(h.move d h0 hn hs).seg,(h.move d h0 hn hs).fin d hz⟩
def FsOk (P:α→Prop) (d:α) (n:Nat) (le:α→α→Prop) (φ:(α×(α×Unit))→Option (Int×Unit)) (M:Int) (Fs:((List α)×(Int×(Int×(Int×(((α×(α×Unit))→(Option (Int×Unit)))×Unit)))))→(Option (Unit×((List α)×Unit)))):Prop:=
 ∀(xs:List α) (a b l:Int),Ck P n xs→0≤a→a≤b→b≤(n:Int)→b - a<M→Pre d le a b xs→qlQ P d n le a b xs (Fs (xs,(a,(b,(l,(φ,()))))))
theorem qwh (hφ:Cmp P φ le) (hn:n≤1099511627776) (hN:n+10<N) {M:Int} {Fs} (hF:FsOk P d n le φ M Fs) {xs:List α} (h:Ck P n xs) {a0 b0:Int} (h0:0≤a0) (hb0:b0≤(n:Int)) {a b l l2 pv:Int} {bal par:Bool} {ih0:(List α×(Int×(Int×(Int×(Bool×(Bool×Unit))))))→Option (Unit×(List α×Unit))} {zs:List α}
  (hz:quA d n le a0 b0 xs zs a b) (hM:b - a≤M) (hpa:a≤pv) (hpb:pv<b)
  (hih:∀ys a' b' l' bal' par',quA d n le a0 b0 xs ys a' b'→b' - a'<b - a→qlQ P d n le a0 b0 xs (ih0 (ys,(a',(b',(l',(bal',(par',()))))))) ):
  qlQ P d n le a0 b0 xs (pdqT d N Fs φ l2 l a b pv bal par ih0 zs):=by
 have h1:=hz.la; have h2:=hz.rb; have h3:=hz.ab
 have hzc:=hz.seg.ck d h
 have pp:=hzc.get d (i:=pv) (by omega) (by omega)
 obtain ⟨t,w1,w2,w3⟩:∃t,((!ltI 0 a||inB (qT .i64 a 1) (qn zs))&&((!ltI 0 a||inB pv (qn zs))&&(!ltI 0 a||qt (φ (qi zs (qT .i64 a 1) d,(qi zs pv d,()))))))=true∧(ltI 0 a&& !ltI (qr (φ (qi zs (qT .i64 a 1) d,(qi zs pv d,()))) (0,())).1 0)=t∧(t=true→0<a∧le (qi zs pv d) (qi zs (a - 1) d)):=by
  by_cases q:0<a
  ·have e1:qT .i64 a 1=a - 1:=qam (by omega) (by omega)
   obtain ⟨c,a1,a2⟩:=qkP hφ (hzc.get d (i:=a - 1) (by omega) (by omega)) pp
   rw [e1,a1,hzc.inB (i:=a - 1) (by omega) (by omega),hzc.inB (i:=pv) (by omega) (by omega),ltT q,qf,qh]
   rcases a2 with ⟨a3,a4,-⟩|⟨a3,a4⟩
   ·rw [ltT a3]; exact ⟨false,rfl,rfl,fun w=>by cases w⟩
   ·rw [ltF a3]; exact ⟨true,rfl,rfl,fun _=>⟨q,a4⟩⟩
  ·rw [ltF q]; exact ⟨false,by simp only [Bool.not_false,Bool.true_or,Bool.and_self],by simp only [Bool.false_and],fun w=>by cases w⟩
 simp only [pdqT,qG,w1,w2,cond_true]
 cases t with
 |true=>
  obtain ⟨q,hle⟩:=w3 rfl
  obtain ⟨out,mid,o1,o2,o3,o4,o5⟩:=qvf d (N:=N) hφ hn (by omega) hzc (a:=a) (b:=b) (pv:=pv) (by omega) hpa hpb (by omega)
  simp only [cond_true,o1,qf,qh]
  have hm:=hz.move d h0 hb0 o2
  have hoc:=hm.seg.ck d h
  have eo:qi out (a - 1) d=qi zs (a - 1) d:=o2.out (a - 1) (by omega) (by omega) (by omega)
  have pa:=hzc.get d (i:=a - 1) (by omega) (by omega)
  have low:∀i j,a≤i→i<mid→i≤j→j<b0→le (qi out i d) (qi out j d):=fun i j q1 q2 q3 q4=>by
   by_cases w:b≤j
   ·exact hm.hi i j (by omega) q3 w q4
   ·have pi:=hoc.get d (i:=i) (by omega) (by omega)
    have pj:=hoc.get d (i:=j) (by omega) (by omega)
    refine hφ.trans _ _ _ pi pp pj (o5 i q1 q2) (hφ.trans _ _ _ pp pa pj hle ?_)
    rw [←eo]
    exact hm.pre q j (by omega) (by omega)
  refine hih out mid b l bal par ⟨hm.seg,by omega,o4,h2,fun _ k k1 k2=>low (mid - 1) k (by omega) (by omega) (by omega) (by omega),fun i j q1 q2 q3 q4=> ?_,hm.hi⟩ (by omega)
  by_cases w:i<a
  ·exact hm.lo i j q1 w q3 q4
  ·exact low i j (by omega) q2 q3 q4
 |false=>
  have e8:neI 8 0=true:=neT (by omega)
  obtain ⟨out,mid,fl,o1,o2,o3,o4,o5,o6⟩:=quJ d (N:=N) hφ hn (by omega) hzc (a:=a) (b:=b) (pv:=pv) (by omega) hpa hpb (by omega)
  have s1:qT .i64 mid a=mid - a:=qam (by omega) (by omega)
  have s2:qT .i64 b mid=b - mid:=qam (by omega) (by omega)
  have s3:qS .i64 mid 1=mid+1:=qat (by omega) (by omega)
  simp only [cond_false,cond_true,o1,qf,qh,s1,s2,s3,e8]
  have hm:=hz.move d h0 hb0 o2
  have hoc:=hm.seg.ck d h
  have pm:=hoc.get d (i:=mid) (by omega) (by omega)
  by_cases q:mid - a<b - mid
  ·obtain ⟨r,r1,r2,r3⟩:=hF out a mid l hoc (by omega) o3 (by omega) (by omega) (fun w k k1 k2=>hm.pre w k k1 (by omega))
   simp only [ltT q,cond_true,r1,qf,qh]
   have hm2:=hm.move d h0 hb0 (r2.mono d (by omega) (by omega) (Int.le_refl a) (show mid≤b by omega))
   have hrc:=hm2.seg.ck d h
   have rm:∀k,mid≤k→k<(n:Int)→qi r k d=qi out k d:=fun k k1 k2=>r2.out k (by omega) k2 (by omega)
   have gm:∀k,mid≤k→k<b→le (qi out mid d) (qi r k d):=fun k k1 k2=>by
    rw [rm k k1 (by omega)]
    by_cases w:k=mid
    ·rw [w]; exact hφ.refl pm
    ·exact o6 k (by omega) k2
   have low:∀i j,a≤i→i≤mid→i≤j→j<b0→le (qi r i d) (qi r j d):=fun i j q1 q2 q3 q4=>by
    have pi:=hrc.get d (i:=i) (by omega) (by omega)
    have pj:=hrc.get d (i:=j) (by omega) (by omega)
    by_cases w:b≤j
    ·exact hm2.hi i j (by omega) q3 w q4
    ·by_cases wi:i=mid
     ·have:=gm j (by omega) (by omega)
      rw [wi,rm mid (by omega) (by omega)]; exact this
     ·by_cases wj:j<mid
      ·exact r3 i j q1 q3 wj
      ·obtain ⟨m,m1,m2,m3⟩:=r2.inn i q1 (by omega)
       rw [m3] at pi⊢
       exact hφ.trans _ _ _ pi pm pj (o5 m m1 m2) (gm j (by omega) (by omega))
   refine hih r (mid+1) b l _ _ ⟨hm2.seg,by omega,by omega,h2,fun _ k k1 k2=>by rw [show mid+1 - 1=mid by omega]; exact low mid k (by omega) (by omega) (by omega) (by omega),fun i j q1 q2 q3 q4=> ?_,hm2.hi⟩ (by omega)
   by_cases w:i<a
   ·exact hm2.lo i j q1 w q3 q4
   ·exact low i j (by omega) (by omega) q3 q4
  ·obtain ⟨r,r1,r2,r3⟩:=hF out (mid+1) b l hoc (by omega) (by omega) (by omega) (by omega) (fun w k k1 k2=>by rw [show mid+1 - 1=mid by omega]; exact o6 k (by omega) k2)
   simp only [ltF q,cond_false,r1,qf,qh,cond_true]
   have hm2:=hm.move d h0 hb0 (r2.mono d (by omega) (by omega) (show a≤mid+1 by omega) (Int.le_refl b))
   have hrc:=hm2.seg.ck d h
   have rm:∀k,0≤k→k≤mid→qi r k d=qi out k d:=fun k k1 k2=>r2.out k (by omega) (by omega) (by omega)
   have gm:∀k,a≤k→k≤mid→le (qi r k d) (qi out mid d):=fun k k1 k2=>by
    rw [rm k (by omega) (by omega)]
    by_cases w:k=mid
    ·rw [w]; exact hφ.refl pm
    ·exact o5 k (by omega) (by omega)
   have high:∀i j,a≤i→i≤j→mid≤j→j<b→le (qi r i d) (qi r j d):=fun i j q1 q2 q3 q4=>by
    have pi:=hrc.get d (i:=i) (by omega) (by omega)
    have pj:=hrc.get d (i:=j) (by omega) (by omega)
    by_cases wj:j=mid
    ·have:=gm i q1 (by omega)
     rw [wj,rm mid (by omega) (by omega)]; exact this
    ·by_cases wi:mid<i
     ·exact r3 i j (by omega) q2 q4
     ·obtain ⟨m,m1,m2,m3⟩:=r2.inn j (by omega) q4
      rw [m3] at pj⊢
      exact hφ.trans _ _ _ pi pm pj (gm i q1 (by omega)) (o6 m (by omega) m2)
   refine hih r a mid l _ _ ⟨hm2.seg,h1,o3,by omega,fun w k k1 k2=>hm2.pre w k k1 (by omega),hm2.lo,fun i j q1 q2 q3 q4=> ?_⟩ (by omega)
   by_cases w:b≤j
   ·exact hm2.hi i j q1 q2 w q4
   ·by_cases wi:i<a
    ·exact hm2.lo i j q1 wi q2 q4
    ·exact high i j (by omega) q2 q3 (by omega)
theorem qyF (hφ:Cmp P φ le) (hn:n≤1099511627776) (hN:n+10<N) {M:Int} {Fs} (hF:FsOk P d n le φ M Fs) {xs:List α} (h:Ck P n xs) {a0 b0:Int} (h0:0≤a0) (hb0:b0≤(n:Int)) {a b l l2 pv ht:Int} {bal par:Bool} {ih0:(List α×(Int×(Int×(Int×(Bool×(Bool×Unit))))))→Option (Unit×(List α×Unit))} {zs:List α}
  (hz:quA d n le a0 b0 xs zs a b) (hM:b - a≤M) (hpa:a≤pv) (hpb:pv<b)
  (hih:∀ys a' b' l' bal' par',quA d n le a0 b0 xs ys a' b'→b' - a'<b - a→qlQ P d n le a0 b0 xs (ih0 (ys,(a',(b',(l',(bal',(par',()))))))) ):
  qlQ P d n le a0 b0 xs (pdqU d N Fs φ l2 l a b pv ht bal par ih0 zs):=by
 have h1:=hz.la; have h2:=hz.rb; have h3:=hz.ab
 have hzc:=hz.seg.ck d h
 have e1:qT .i64 b 1=b - 1:=qam (by omega) (by omega)
 have e2:qT .i64 pv a=pv - a:=qam (by omega) (by omega)
 have e3:qT .i64 (b - 1) (pv - a)=b - 1 - (pv - a):=qam (by omega) (by omega)
 have key:∀(ws:List α) (p:Int) (t:Bool),Seg d n a b zs ws→a≤p→p<b→qlQ P d n le a0 b0 xs
   (bif t then (bif (qt (qcX d N (ws,(a,(b,(φ,())))))) then (bif (qr (qcX d N (ws,(a,(b,(φ,()))))) ((false,()),(([]:List α),()))).1.1 then (some ((),((qr (qcX d N (ws,(a,(b,(φ,()))))) ((false,()),(([]:List α),()))).2.1,())))
    else pdqT d N Fs φ l2 l a b p bal par ih0 (qr (qcX d N (ws,(a,(b,(φ,()))))) ((false,()),(([]:List α),()))).2.1) else none)
   else pdqT d N Fs φ l2 l a b p bal par ih0 ws):=fun ws p t hs p1 p2=>by
  have hm:=hz.move d h0 hb0 hs
  have hwc:=hm.seg.ck d h
  cases t with
  |false=>exact qwh d hφ hn hN hF h h0 hb0 hm hM p1 p2 hih
  |true=>
   obtain ⟨fl,out,o1,o2,o3⟩:=qvr d (N:=N) hφ hn hN hwc (a:=a) (b:=b) (by omega) (by omega) (by omega) hm.pre
   simp only [cond_true,o1,qf,qh]
   cases fl with
   |true=>exact hm.ends d h0 hb0 o2 (o3 rfl)
   |false=>exact qwh d hφ hn hN hF h h0 hb0 (hm.move d h0 hb0 o2) hM p1 p2 hih
 simp only [pdqU,qG,e1,e2,e3]
 by_cases q:ht=2
 ·obtain ⟨out,o1,o2⟩:=qvy d (N:=N) (φ:=φ) hn (by omega) hzc (a:=a) (b:=b) (by omega) (by omega) (by omega)
  simp only [eqT q,cond_true,o1,qf,qh]
  exact key out (b - 1 - (pv - a)) _ o2 (by omega) (by omega)
 ·simp only [eqF q,cond_true,cond_false]
  exact key zs pv _ (.refl d _ _ zs) hpa hpb
theorem qy1 (hφ:Cmp P φ le) {L:(Int×Unit)→Option ((Int×Unit)×Unit)} (hL:qtL L) (hn:n≤1099511627776) (hN:n+10<N) {M:Int} {Fs} (hF:FsOk P d n le φ M Fs):FsOk P d n le φ (M+1) (pdqS d N L Fs):=by
 intro xs a0 b0 l0 h h0 hab hb0 hM hp
 rw [qyL]
 refine qas (S:=List α×(Int×(Int×(Int×(Bool×(Bool×Unit)))))) (fun p=>(p.2.2.1 - p.2.1).toNat) (fun p=>quA d n le a0 b0 xs p.1 p.2.1 p.2.2.1) (qlQ P d n le a0 b0 xs) ?_ N _ ⟨.refl d _ _ xs,Int.le_refl _,hab,Int.le_refl _,hp,fun i j q1 q2 q3 q4=>by simp only at q2; omega,fun i j q1 q2 q3 q4=>by simp only at q3; omega⟩ (by simp only; omega)
 rintro ih ⟨ys,a,b,l,bal,par,⟨⟩⟩ hz hih
 simp only at hz hih⊢
 have h1:=hz.la; have h2:=hz.rb; have h3:=hz.ab
 have hc:=hz.seg.ck d h
 have e1:qT .i64 b a=b - a:=qam (by omega) (by omega)
 simp only [qG,e1]
 by_cases q12:b - a≤12
 ·obtain ⟨out,o1,o2,o3⟩:=qmq d (N:=N) hφ hn (by omega) hc (a:=a) (b:=b) (by omega) (by omega) (by omega)
  simp only [leT q12,cond_true,o1,qf,qh]
  exact hz.ends d h0 hb0 o2 o3
 simp only [leF q12,cond_false]
 by_cases ql:l=0
 ·obtain ⟨out,o1,o2,o3⟩:=qw1 d (N:=N) hφ hn (by omega) hc (a:=a) (b:=b) (by omega) (by omega) (by omega)
  simp only [eqT ql,cond_true,o1,qf,qh]
  exact hz.ends d h0 hb0 o2 o3
 simp only [eqF ql,cond_false]
 have key:∀(ws:List α) (l1:Int),Seg d n a b ys ws→qlQ P d n le a0 b0 xs (bif (qt (qgD d N (ws,(a,(b,(φ,())))))) then pdqU d N Fs φ (b - a) l1 a b (qr (qgD d N (ws,(a,(b,(φ,()))))) ((0,(0,())),(([]:List α),()))).1.1 (qr (qgD d N (ws,(a,(b,(φ,()))))) ((0,(0,())),(([]:List α),()))).1.2.1 bal par ih (qr (qgD d N (ws,(a,(b,(φ,()))))) ((0,(0,())),(([]:List α),()))).2.1 else none):=fun ws l1 hs=>by
  have hm:=hz.move d h0 hb0 hs
  obtain ⟨m,t,o1,o2,o3⟩:=qva d (N:=N) hφ hn (hm.seg.ck d h) (a:=a) (b:=b) (by omega) (by omega) (by omega)
  simp only [o1,qf,qh,cond_true]
  exact qyF d hφ hn hN hF h h0 hb0 hm (by omega) o2 o3 fun zs a' b' l' bal' par' k1 k2=>hih (zs,(a',(b',(l',(bal',(par',())))))) k1 (by have:=k1.ab; simp only; omega)
 cases bal with
 |true=>
  simp only [Bool.not_true,cond_false,cond_true]
  exact key ys l (.refl d _ _ ys)
 |false=>
  obtain ⟨out,o1,o2⟩:=quH d (N:=N) (φ:=φ) hL hn hN hc (a:=a) (b:=b) (by omega) (by omega) (by omega)
  simp only [Bool.not_false,cond_true,o1,qf,qh]
  exact key out _ o2
theorem quS (hφ:Cmp P φ le) {L:(Int×Unit)→Option ((Int×Unit)×Unit)} (hL:qtL L) (hn:n≤1099511627776) (hN:n+10<N):∀M:Nat,FsOk P d n le φ (M:Int) (pdqG d N L M)
 |0=>fun xs a b l h h0 hab hb hM hp=>by omega
 |M+1=>by
  have:=qy1 d hφ hL hn hN (quS hφ hL hn hN M)
  exact this
theorem qu8 (hφ:Cmp P φ le) {L:(Int×Unit)→Option ((Int×Unit)×Unit)} (hL:qtL L) (hn:n≤1099511627776) (hN:n+10<N) {xs:List α} (h:Ck P n xs):qlQ P d n le 0 (n:Int) xs (quD d N L (xs,(φ,()))):=by
 have el:qn xs=(n:Int):=by rw [qj,h.len]
 have eA:qc1 .u64 (n:Int)=(n:Int):=by rw [qfA,qgM (by omega) (by omega)]
 obtain ⟨e,l1,-,-⟩:=hL n hn
 obtain ⟨out,o1,o2,o3⟩:=quS d hφ hL hn hN N xs 0 (n:Int) (e:Int) h (Int.le_refl 0) (by omega) (Int.le_refl _) (by omega) (fun w=>by omega)
 simp only [quD,qG,el,eA,l1,o1,qf,qh,Bool.and_self,cond_true]
 exact ⟨out,rfl,o2,o3⟩
end
end
end Go.Vi
set_option linter.unusedSimpArgs false
set_option maxRecDepth 100000
namespace Go.Vi
noncomputable section
def qfO:List UInt8:=[0,1,2,2,3,3,3,3,4,4,4,4,4,4,4,4,5,5,5,5,5,5,5,5,5,5,5,5,5,5,5,5,6,6,6,6,6,6,6,6,6,6,6,6,6,6,6,6,6,6,6,6,6,6,6,6,6,6,6,6,6,6,6,6,7,7,7,7,7,7,7,7,7,7,7,7,7,7,7,7,7,7,7,7,7,7,7,7,7,7,7,7,7,7,7,7,7,7,7,7,7,7,7,7,7,7,7,7,7,7,7,7,7,7,7,7,7,7,7,7,7,7,7,7,7,7,7,7,8,8,8,8,8,8,8,8,8,8,8,8,8,8,8,8,8,8,8,8,8,8,8,8,8,8,8,8,8,8,8,8,8,8,8,8,8,8,8,8,8,8,8,8,8,8,8,8,8,8,8,8,8,8,8,8,8,8,8,8,8,8,8,8,8,8,8,8,8,8,8,8,8,8,8,8,8,8,8,8,8,8,8,8,8,8,8,8,8,8,8,8,8,8,8,8,8,8,8,8,8,8,8,8,8,8,8,8,8,8,8,8,8,8,8,8,8,8,8,8,8,8,8,8,8,8,8,8]
def qwE (x:(Int×Unit)):Option ((Int×Unit)×Unit):=
 (bif (bif (leI 4294967296 x.1) then (leI 0 32) else true) then (qR (bif (leI 4294967296 x.1) then (qkW .u64 x.1 32) else x.1) (fun y0=>(qR (bif (leI 4294967296 x.1) then 32 else 0) (fun y1=>(bif (bif (leI 65536 y0) then (leI 0 16) else true) then (qR (bif (leI 65536 y0) then (qkW .u64 y0 16) else y0) (fun y2=>(qR (bif (leI 65536 y0) then (qS .i64 y1 16) else y1) (fun y3=>(bif (bif (leI 256 y2) then (leI 0 8) else true) then (qR (bif (leI 256 y2) then (qkW .u64 y2 8) else y2) (fun y4=>(qR (bif (leI 256 y2) then (qS .i64 y3 8) else y3) (fun y5=>(bif (inB (qc1 .u8 y4) (qn qfO)) then (some (((qS .i64 y5 (qc1 .i64 (qcP (qi qfO (qc1 .u8 y4) 0)))),()),())) else none))))) else none))))) else none))))) else none)
theorem qq6:∀m:Fin 256,qfO[m.val]? =some (qfO.getD m.val 0)∧(qfO.getD m.val 0).toNat≤8∧(1≤m.val→2^ (qfO.getD m.val 0).toNat≤2 * m.val)∧(m.val=0→(qfO.getD m.val 0).toNat=0):=by decide+kernel
theorem shr_n (x:Int) (n:Nat) (hn:n≤64) (h0:0≤x):qkW .u64 x (n:Int)=x / (2:Int)^n:=by
 rw [qlH]
 have e:min ((n:Int)).toNat IntKind.u64.bits=n:=by simp [IntKind.bits]; omega
 rw [e,Int.fdiv_eq_ediv_of_nonneg _ (by exact Int.le_of_lt (Int.pow_pos (by omega)))]
theorem qtj {y0 s0 k c:Nat} {n:Nat} (hn:n≤64) (hc:c=2^n) (h:y0 * 2^s0≤k) (hp:1≤k→1≤y0) (hs:s0≤56) (hns:n≤32):∃y1 s1:Nat,(bif (leI (c:Int) (y0:Int)) then (qkW .u64 (y0:Int) (n:Int)) else (y0:Int))=(y1:Int)∧(bif (leI (c:Int) (y0:Int)) then (qS .i64 (s0:Int) (n:Int)) else (s0:Int))=(s1:Int)∧y1 * 2^s1≤k∧(1≤k→1≤y1)∧s1≤s0+n∧(y1=y0 / c∧c≤y0∨y1=y0∧y0<c):=by
 by_cases q:c≤y0
 ·have e1:leI (c:Int) (y0:Int)=true:=leT (by omega)
  rw [e1,cond_true,cond_true,shr_n _ n hn (by omega),qat (by omega) (by omega)]
  refine ⟨y0 / c,s0+n,?_,by omega,?_,fun _=> ?_,Nat.le_refl _,.inl ⟨rfl,q⟩⟩
  ·rw [hc]; norm_cast
  ·rw [Nat.pow_add,Nat.mul_comm (2^s0),←Nat.mul_assoc,←hc]
   exact Nat.le_trans (Nat.mul_le_mul_right _ (Nat.div_mul_le_self _ _)) h
  ·have:0<c:=by rw [hc]; exact Nat.pow_pos (by omega)
   exact Nat.div_pos q this
 ·have e1:leI (c:Int) (y0:Int)=false:=leF (by omega)
  rw [e1,cond_false,cond_false]
  exact ⟨y0,s0,rfl,rfl,h,hp,by omega,.inr ⟨rfl,by omega⟩⟩
theorem qtT:qn qfO=256:=by rw [qj]; decide+kernel
theorem qup {m:Nat} (h:m<256):qi qfO (m:Int) 0=qfO.getD m 0:=by
 have:=(qq6 ⟨m,h⟩).1
 have hl:m<qfO.length:=(List.getElem?_eq_some_iff.1 this).1
 rw [qF _ hl]
 rw [List.getElem?_eq_getElem hl] at this
 injection this
theorem qvj:qtL qwE:=fun k hk=>by
 have l0:∀n:Nat,leI 0 (n:Int)=true:=fun n=>leT (by omega)
 have l32:leI 0 32=true:=leT (by omega)
 have l16:leI 0 16=true:=leT (by omega)
 have l8:leI 0 8=true:=leT (by omega)
 have bt:∀b:Bool,(bif b then true else true)=true:=fun b=>by cases b <;> rfl
 obtain ⟨y1,s1,a1,a2,a3,a4,a5,a6⟩:∃y1 s1:Nat,(bif (leI 4294967296 (k:Int)) then (qkW .u64 (k:Int) 32) else (k:Int))=(y1:Int)∧(bif (leI 4294967296 (k:Int)) then 32 else 0)=(s1:Int)∧y1 * 2^s1≤k∧(1≤k→1≤y1)∧s1≤32∧y1<4294967296:=by
  by_cases q:4294967296≤k
  ·have e1:leI 4294967296 (k:Int)=true:=leT (by omega)
   have e2:=shr_n (k:Int) 32 (by omega) (by omega)
   have e3:qkW .u64 (k:Int) 32=(k:Int) / (2:Int)^32:=e2
   rw [e1,cond_true,cond_true,e3]
   exact ⟨k / 4294967296,32,by omega,rfl,by omega,by omega,Nat.le_refl _,by omega⟩
  ·have e1:leI 4294967296 (k:Int)=false:=leF (by omega)
   rw [e1,cond_false,cond_false]
   exact ⟨k,0,rfl,rfl,by omega,id,by omega,by omega⟩
 obtain ⟨y2,s2,b1,b2,b3,b4,b5,b6⟩:=qtj (n:=16) (c:=65536) (by omega) (by decide) a3 a4 (by omega) (by omega)
 obtain ⟨y3,s3,c1,c2,c3,c4,c5,c6⟩:=qtj (n:=8) (c:=256) (by omega) (by decide) b3 b4 (by omega) (by omega)
 have h3:y3<256:=by omega
 have b1':(bif (leI 65536 (y1:Int)) then (qkW .u64 (y1:Int) 16) else (y1:Int))=(y2:Int):=b1
 have b2':(bif (leI 65536 (y1:Int)) then (qS .i64 (s1:Int) 16) else (s1:Int))=(s2:Int):=b2
 have c1':(bif (leI 256 (y2:Int)) then (qkW .u64 (y2:Int) 8) else (y2:Int))=(y3:Int):=c1
 have c2':(bif (leI 256 (y2:Int)) then (qS .i64 (s2:Int) 8) else (s2:Int))=(s3:Int):=c2
 have w8:qc1 .u8 (y3:Int)=(y3:Int):=by rw [qfA,qvP]; omega
 obtain ⟨_,t1,t2,t3⟩:=qq6 ⟨y3,h3⟩
 simp only at t1 t2 t3
 have ib:inB (y3:Int) 256=true:=by rw [qcZ]; simp; omega
 have e5:qS .i64 (s3:Int) (qc1 .i64 (qcP (qi qfO (y3:Int) 0)))=((s3+(qfO.getD y3 0).toNat:Nat):Int):=by
  rw [qup h3,qgv,qsh (by omega) (by omega),qat (by omega) (by omega)]
  omega
 refine ⟨s3+(qfO.getD y3 0).toNat,?_,?_⟩
 ·simp only [qwE,qG,l32,l16,l8,bt,cond_true,a1,a2,b1',b2',c1',c2',w8,qtT,ib,e5]
 ·have hp:1≤k→2^ (s3+(qfO.getD y3 0).toNat)≤2 * k:=fun hk1=>by
   have h4:=t2 (c4 hk1)
   rw [Nat.pow_add]
   calc 2^s3 * 2^ (qfO.getD y3 0).toNat≤2^s3 * (2 * y3):=Nat.mul_le_mul_left _ h4
    _=2 * (y3 * 2^s3):=by rw [Nat.mul_left_comm,Nat.mul_comm (2^s3)]
    _≤2 * k:=Nat.mul_le_mul_left _ c3
  refine ⟨?_,hp⟩
  by_cases hk1:1≤k
  ·have h5:=hp hk1
   have h6:2^ (s3+(qfO.getD y3 0).toNat)≤2^41:=by
    have:(2:Nat)^41=2199023255552:=by decide
    omega
   exact (Nat.pow_le_pow_iff_right (by omega)).1 h6
  ·have hk0:k=0:=by omega
   subst hk0
   have z1:leI 4294967296 (((0:Nat)):Int)=false:=leF (by omega)
   rw [z1] at a1 a2
   simp only [cond_false] at a1 a2
   have y10:y1=0:=by omega
   have s10:s1=0:=by omega
   have y20:y2=0:=by omega
   have z2:leI 65536 (y1:Int)=false:=leF (by omega)
   have z3:leI 256 (y2:Int)=false:=leF (by omega)
   rw [z2] at b2'
   rw [z3] at c2'
   simp only [cond_false] at b2' c2'
   have y30:y3=0:=by omega
   have:=t3 y30
   omega
end
end Go.Vi
