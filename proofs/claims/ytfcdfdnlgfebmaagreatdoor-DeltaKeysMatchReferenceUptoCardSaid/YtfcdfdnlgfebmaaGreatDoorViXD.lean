import Derived.Test.YtfcdfdnlgfebmaaGreatDoorViXC
import Derived.Lib.LaidTab
import Derived.Lib.ItoaNum
import Derived.Lib.ItoaLen
import Derived.Lib.AtoiAllCases
import Derived.Lib.ParseIntBTie
import Derived.Lib.AtoiErrMem
import Derived.Lib.AppendIntMem
set_option linter.unusedVariables false
set_option linter.unusedSimpArgs false
set_option linter.unnecessarySimpa false
set_option linter.unusedSectionVars false
namespace Go.Vi
open Go.RowKit
theorem qc7.ofBelow {w w':World} (h:Below w.heap.size w w'):qc7 (fun _=>False) w w':=⟨h.os,h.tape,h.output,h.size,fun k hk _=>h.block k hk⟩
theorem quB {w:World} {F:Nat→Prop} :(ts:List Ty)→ {y:denL ts} → {vs:List Value} →qdM w F ts y vs→qa5 w F (qdu (valRs ts) (qt0 ts y)) vs []
 |ts,_,_,h=>qiW ts h
theorem qmi {P:Program} {T:qly} {f:Nat} {fn:Func} (hf:P.funcs[f]? =some fn) (hb:fn.body.isSome=true) (hname:(fn.name == "runtime.NumGoroutine")=false) (ts us:List Ty) (φ:denL ts→Option (denL us))
  (h:∀(w:World) (F:Nat→Prop) (x:denL ts) (y:denL us) (as:List Value),qdD T w F→qdM w F ts x as→φ x=some y→
   Calls P f as.toArray w fun e w'=>∃vs,e= .returned (qfZ vs)∧qdM w' (fun b=>F b∨w.heap.size≤b) us y vs∧qc7 (fun _=>False) w w'):
  qi.okT P T f ⟨valPs ts,valRs us,fun x=>qf8 (fun y=>(qt0 us y,PMs.ioDflt (valPs ts))) (φ (qu9 ts x))⟩:=by
 obtain ⟨c,hc⟩:=Option.isSome_iff_exists.1 hb
 refine ⟨fun as w=>qgt hf hc hname as w,fun w F x y as g i hT hp hpre hn hy=> ?_⟩
 simp only [qbX,Option.map_eq_some_iff] at hy
 obtain ⟨z,hz,rfl⟩:=hy
 obtain ⟨k1,rfl,rfl⟩:=qjs ts hp
 refine (h w F _ z as hT k1 hz).mono ?_
 rintro e w' ⟨vs,rfl,hv,hk⟩
 refine ⟨_,rfl,vs,[],rfl,List.nodup_nil,fun b hb=>(by cases hb),qiW us (hv.mono us fun b hb=> ?_),qiK ts,hk.mono fun _ h=>h.elim⟩
 exact ⟨hb.elim .inl fun h=> .inr (.inr h),by simp,by simp⟩
theorem qpk (k:IntKind):(l:List Int)→(css:List (List Value))→css.length=l.length→(∀(i:Nat) (x:Int) (c:List Value),l[i]? =some x→css[i]? =some c→c=[.int k x])→css.flatten=l.map (fun z=> .int k z)
 |[],[],_,_=>rfl
 |[],_::_,h,_=>by simp at h
 |_::_,[],h,_=>by simp at h
 |x::l,c::css,h,hx=>by
  have h0:=hx 0 x c rfl rfl
  have ih:=qpk k l css (by simpa using h) fun i x c h1 h2=>hx (i+1) x c (by simpa using h1) (by simpa using h2)
  rw [List.flatten_cons,ih,h0]
  rfl
theorem qrx {P:Program} {T:qly} {w:World} {F:Nat→Prop} (hT:qdD T w F) {name:String} {g n:Nat} {k:IntKind} {tab zs:List Int} (hg:P.globalNamed name=some g) (ht:T g=some ⟨.arr n (.int k),tab⟩) (hz:tab=zs):Lib.TabIs P w name k zs:=by
 subst hz
 obtain ⟨_,_,cs,te,fz,h3,hl,css,hcl,rfl,hx⟩:=hT g _ ht
 have e:=qpk k tab css (by rw [hcl]; exact hl.symm) fun i x c h1 h2=>(hx i x c h1 h2).1
 rw [Lib.TabIs,World.var?,hg]
 simp only [Option.bind_some,h3,e]
theorem qjV {T:qly} {w:World} {F:Nat→Prop} (hT:qdD T w F) {g:Nat} (ht:T g=some ⟨.err,false⟩):∃te pe,w.cell? ⟨g,0,none⟩=some (.iface te pe):=by
 obtain ⟨_,_,cs,te,fz,h3,v,rfl,h4⟩:=hT g _ ht
 rcases h4 with ⟨h,_⟩|⟨_,t,x,rfl⟩
 ·cases h
 ·exact ⟨t,x,by simp [World.cell?,h3]⟩
theorem qfa (s:List UInt8):(⟨s.toArray⟩:ByteArray).data.toList=s:=by simp
theorem qiL (s:List UInt8):(⟨s.toArray⟩:ByteArray).size=s.length:=by
 show s.toArray.size=s.length
 simp
theorem qwe {P:Program} {T:qly} {f g:Nat} {fn:Func} {tab:List Int} (hf:P.funcs[f]? =some fn) (hb:fn.body.isSome=true) (hname:(fn.name == "runtime.NumGoroutine")=false)
  (hg:P.globalNamed "internal/strconv.uint64pow10" =some g) (ht:T g=some ⟨.arr 20 (.int .u64),tab⟩) (hz:tab=Lib.pow10Tab)
  (h:∀(n:Int),-9223372036854775808≤n→n≤9223372036854775807→∀(w:World),Lib.TabIs P w "internal/strconv.uint64pow10" .u64 Lib.pow10Tab→
   Calls P f #[.int .i64 n] w fun e w'=>e= .returned (.string ⟨(Lib.itoa n).toArray⟩)∧∃k os,w'=Sort.grow (w.drewN k) os):
  qi.okT P T f ⟨[.val (.int .i64)],[.val .str],fun x=>some ((Lib.itoa x.1,()),())⟩:=by
 have:=qmi (T:=T) hf hb hname [.int .i64] [.str] (fun x=>some (Lib.itoa x.1,())) (fun w F x y as hT hv hy=>by
  obtain ⟨v,r,rfl,h1,rfl⟩:=hv
  obtain ⟨rfl,hn⟩:=qaA.int h1
  injection hy with hy
  subst hy
  have hn': -9223372036854775808≤x.1∧x.1≤9223372036854775807:=by simpa [IntKind.has,IntKind.min,IntKind.max,IntKind.signed,IntKind.bits] using hn
  refine (h x.1 hn'.1 hn'.2 w (qrx hT hg ht hz)).mono ?_
  rintro e w' ⟨rfl,k,os,rfl⟩
  refine ⟨[_],rfl,⟨_,[],rfl,qaA.ofStr _ _ ?_,rfl⟩,qc7.ofBelow (Lib.below_grow _ _ (Nat.le_refl _) _ _)⟩
  have:=Lib.itoa_length_le x.1 hn'.1 hn'.2
  simp only [maxLen]
  omega)
 refine ⟨this.1,fun w F x y as g i a b c d e=>this.2 w F x y as g i a b c d ?_⟩
 injection e with e
 subst e
 simp only [qbX]
 rfl
def qr9 (s:List UInt8):Option (Int×Bool):=if s.length≤1000 then (match Lib.atoiAll s with
 | .ok v=>some (v,true)
 | .syntax=>some (0,false)
 | .range=>some (Lib.atoiSat s,false)) else none
theorem qmd (s:List UInt8):IntKind.i64.has (Lib.atoiSat s):=by
 unfold Lib.atoiSat
 split <;> exact ⟨by decide,by decide⟩
theorem ok_atoi {P:Program} {T:qly} {f g1 g2:Nat} {fn:Func} {tE tN:Nat} {nm:List UInt8} {tb:TypeId} (hf:P.funcs[f]? =some fn) (hb:fn.body.isSome=true) (hname:(fn.name == "runtime.NumGoroutine")=false)
  (h1:T g1=some ⟨.err,false⟩) (h2:T g2=some ⟨.err,false⟩)
  (hok:∀(s:ByteArray),s.size≤9223372036854775806→∀v,Lib.atoiAll s.data.toList= .ok v→∀(w:World),Calls P f #[.string s] w fun e w'=>e= .returned (.tuple #[.int .i64 v,.nilIface])∧(w'=w∨∃t,w'=Lib.bytesWorld w tb t))
  (hsy:∀(s:ByteArray),s.size≤281474976710656→Lib.atoiAll s.data.toList= .syntax→∀(ev:Value) (w:World),w.cell? ⟨g1,0,none⟩=some ev→(ev= .nilIface∨∃te pe,ev= .iface te pe)→
   Calls P f #[.string s] w fun e w'=>∃N,e= .returned (.tuple #[.int .i64 0,.iface tE (.pointer (some ⟨N,0,none⟩))])∧w.heap.size≤N∧w'.heap[N]? =some (.cells #[.string ⟨nm.toArray⟩,.string s,ev] tN (0,0))∧Below w.heap.size w w')
  (hra:∀(s:ByteArray),s.size≤281474976710656→Lib.atoiAll s.data.toList= .range→∀(ev:Value) (w:World),w.cell? ⟨g2,0,none⟩=some ev→(ev= .nilIface∨∃te pe,ev= .iface te pe)→
   Calls P f #[.string s] w fun e w'=>∃N,e= .returned (.tuple #[.int .i64 (Lib.atoiSat s.data.toList),.iface tE (.pointer (some ⟨N,0,none⟩))])∧w.heap.size≤N∧w'.heap[N]? =some (.cells #[.string ⟨nm.toArray⟩,.string s,ev] tN (0,0))∧Below w.heap.size w w'):
  qi.okT P T f ⟨[.val .str],[.val (.int .i64),.val .err],fun x=>qf8 (fun y=>((y.1,(y.2,())),())) (qr9 x.1)⟩:=by
 have:=qmi (T:=T) hf hb hname [.str] [.int .i64,.err] (fun x=>qf8 (fun y=>(y.1,(y.2,()))) (qr9 x.1)) (fun w F x y as hT hv hy=>by
  obtain ⟨v,r,rfl,k1,rfl⟩:=hv
  obtain ⟨rfl,hn⟩:=qaA.str k1
  simp only [qbX,Option.map_eq_some_iff] at hy
  obtain ⟨z,hz,rfl⟩:=hy
  unfold qr9 at hz
  split at hz
  case isFalse=>cases hz
  rename_i hl
  have hsz:(⟨x.1.toArray⟩:ByteArray).size≤1000:=by rw [qiL]; exact hl
  split at hz
  ·rename_i v hv
   injection hz with hz
   subst hz
   refine (hok _ (by omega) v (by rw [qfa]; exact hv) w).mono ?_
   rintro e w' ⟨rfl,hw⟩
   have hk:qc7 (fun _=>False) w w':=by
    rcases hw with rfl|⟨t,rfl⟩
    ·exact qc7.refl _ _
    ·exact qc7.ofBelow (Lib.bytesWorld_below _ _ _)
   refine ⟨[_,_],rfl,⟨_,_,rfl,qaA.ofInt _ _ ?_,_,_,rfl,qaA.ofErr (.inl ⟨rfl,rfl⟩),rfl⟩,hk⟩
   have:=Lib.atoiAll_bounds hv
   simpa [IntKind.has,IntKind.min,IntKind.max,IntKind.signed,IntKind.bits] using this
  ·rename_i hv
   injection hz with hz
   subst hz
   obtain ⟨te,pe,hc⟩:=qjV hT h1
   refine (hsy _ (by omega) (by rw [qfa]; exact hv) _ w hc (.inr ⟨te,pe,rfl⟩)).mono ?_
   rintro e w' ⟨N,rfl,_,_,hw⟩
   exact ⟨[_,_],rfl,⟨_,_,rfl,qaA.ofInt _ _ ⟨by decide,by decide⟩,_,_,rfl,qaA.ofErr (.inr ⟨rfl,_,_,rfl⟩),rfl⟩,qc7.ofBelow hw⟩
  ·rename_i hv
   injection hz with hz
   subst hz
   obtain ⟨te,pe,hc⟩:=qjV hT h2
   refine (hra _ (by omega) (by rw [qfa]; exact hv) _ w hc (.inr ⟨te,pe,rfl⟩)).mono ?_
   rintro e w' ⟨N,rfl,_,_,hw⟩
   exact ⟨[_,_],rfl,⟨_,_,rfl,by rw [qfa]; exact qaA.ofInt _ _ (qmd _),_,_,rfl,qaA.ofErr (.inr ⟨rfl,_,_,rfl⟩),rfl⟩,qc7.ofBelow hw⟩)
 refine ⟨this.1,fun w F x y as g i a b c d e=>this.2 w F x y as g i a b c d ?_⟩
 simp only [qbX,Option.map_map] at e⊢
 exact e
theorem qwt {P:Program} {T:qly} {f g1 g2:Nat} {fn:Func} {tE tN:Nat} {nm:List UInt8} {tb:TypeId} (hf:P.funcs[f]? =some fn) (hb:fn.body.isSome=true) (hname:(fn.name == "runtime.NumGoroutine")=false)
  (h1:T g1=some ⟨.err,false⟩) (h2:T g2=some ⟨.err,false⟩)
  (hok:∀(s:ByteArray),s.size≤9223372036854775806→∀v,Lib.parseIntB 64 s.data.toList= .ok v→∀(w:World),Calls P f #[.string s,.int .i64 10,.int .i64 64] w fun e w'=>e= .returned (.tuple #[.int .i64 v,.nilIface])∧(w'=w∨∃t,w'=Lib.bytesWorld w tb t))
  (hsy:∀(s:ByteArray),s.size≤281474976710656→Lib.parseIntB 64 s.data.toList= .syntax→∀(ev:Value) (w:World),w.cell? ⟨g1,0,none⟩=some ev→(ev= .nilIface∨∃te pe,ev= .iface te pe)→
   Calls P f #[.string s,.int .i64 10,.int .i64 64] w fun e w'=>∃N,e= .returned (.tuple #[.int .i64 0,.iface tE (.pointer (some ⟨N,0,none⟩))])∧w.heap.size≤N∧w'.heap[N]? =some (.cells #[.string ⟨nm.toArray⟩,.string s,ev] tN (0,0))∧Below w.heap.size w w')
  (hra:∀(s:ByteArray),s.size≤281474976710656→Lib.parseIntB 64 s.data.toList= .range→∀(ev:Value) (w:World),w.cell? ⟨g2,0,none⟩=some ev→(ev= .nilIface∨∃te pe,ev= .iface te pe)→
   Calls P f #[.string s,.int .i64 10,.int .i64 64] w fun e w'=>∃N,e= .returned (.tuple #[.int .i64 (Lib.intSat 64 s.data.toList),.iface tE (.pointer (some ⟨N,0,none⟩))])∧w.heap.size≤N∧w'.heap[N]? =some (.cells #[.string ⟨nm.toArray⟩,.string s,ev] tN (0,0))∧Below w.heap.size w w'):
  qi.okT P T f ⟨[.val .str,.val (.int .i64),.val (.int .i64)],[.val (.int .i64),.val .err],fun x=>if x.2.1=10∧x.2.2.1=64 then qf8 (fun y=>((y.1,(y.2,())),())) (qr9 x.1) else none⟩:=by
 have:=qmi (T:=T) hf hb hname [.str,.int .i64,.int .i64] [.int .i64,.err] (fun x=>if x.2.1=10∧x.2.2.1=64 then qf8 (fun y=>(y.1,(y.2,()))) (qr9 x.1) else none) (fun w F x y as hT hv hy=>by
  split at hy
  case isFalse=>cases hy
  rename_i hx
  obtain ⟨s,b,c,_⟩:=x
  obtain ⟨rfl,rfl⟩:=hx
  obtain ⟨v,r,rfl,k1,v2,r2,rfl,k2,v3,r3,rfl,k3,rfl⟩:=hv
  obtain ⟨rfl,hn⟩:=qaA.str k1
  obtain ⟨rfl,_⟩:=qaA.int k2
  obtain ⟨rfl,_⟩:=qaA.int k3
  simp only [qbX,Option.map_eq_some_iff] at hy
  obtain ⟨z,hz,rfl⟩:=hy
  unfold qr9 at hz
  split at hz
  case isFalse=>cases hz
  rename_i hl
  have hsz:(⟨s.toArray⟩:ByteArray).size≤1000:=by rw [qiL]; exact hl
  split at hz
  ·rename_i v hv
   injection hz with hz
   subst hz
   refine (hok ⟨s.toArray⟩ (by omega) v (by rw [qfa,Lib.parseIntB_64]; exact hv) w).mono ?_
   rintro e w' ⟨rfl,hw⟩
   have hk:qc7 (fun _=>False) w w':=by
    rcases hw with rfl|⟨t,rfl⟩
    ·exact qc7.refl _ _
    ·exact qc7.ofBelow (Lib.bytesWorld_below _ _ _)
   refine ⟨[_,_],rfl,⟨_,_,rfl,qaA.ofInt _ _ ?_,_,_,rfl,qaA.ofErr (.inl ⟨rfl,rfl⟩),rfl⟩,hk⟩
   have:=Lib.atoiAll_bounds hv
   simpa [IntKind.has,IntKind.min,IntKind.max,IntKind.signed,IntKind.bits] using this
  ·rename_i hv
   injection hz with hz
   subst hz
   obtain ⟨te,pe,hc⟩:=qjV hT h1
   refine (hsy ⟨s.toArray⟩ (by omega) (by rw [qfa,Lib.parseIntB_64]; exact hv) _ w hc (.inr ⟨te,pe,rfl⟩)).mono ?_
   rintro e w' ⟨N,rfl,_,_,hw⟩
   exact ⟨[_,_],rfl,⟨_,_,rfl,qaA.ofInt _ _ ⟨by decide,by decide⟩,_,_,rfl,qaA.ofErr (.inr ⟨rfl,_,_,rfl⟩),rfl⟩,qc7.ofBelow hw⟩
  ·rename_i hv
   injection hz with hz
   subst hz
   obtain ⟨te,pe,hc⟩:=qjV hT h2
   refine (hra ⟨s.toArray⟩ (by omega) (by rw [qfa,Lib.parseIntB_64]; exact hv) _ w hc (.inr ⟨te,pe,rfl⟩)).mono ?_
   rintro e w' ⟨N,rfl,_,_,hw⟩
   exact ⟨[_,_],rfl,⟨_,_,rfl,by rw [qfa,Lib.intSat_64]; exact qaA.ofInt _ _ (qmd _),_,_,rfl,qaA.ofErr (.inr ⟨rfl,_,_,rfl⟩),rfl⟩,qc7.ofBelow hw⟩)
 refine ⟨this.1,fun w F x y as g i a b c d e=>this.2 w F x y as g i a b c d ?_⟩
 simp only at e⊢
 by_cases hx:x.2.1=10∧x.2.2.1=64
 ·rw [if_pos hx] at e
  show qf8 _ (if x.2.1=10∧x.2.2.1=64 then _ else none)=_
  rw [if_pos hx]
  simp only [qbX,Option.map_map] at e⊢
  exact e
 ·rw [if_neg hx] at e
  cases e
def qnk (w:World) (g:Nat) (r:(t:Ty)×t.den):Prop:=g<w.heap.size∧∃(cs:List Value) (te:Nat) (fz:Nat×Nat),w.heap[g]? =some (.cells cs.toArray te fz)∧Rep w (fun b=>b<w.heap.size) r.1 r.2 cs
theorem qpf {P:Program} {w:World} {n:String} {g:Nat} {cs:Array Value} (hg:P.globalNamed n=some g) (h:w.var? P n=some cs):g<w.heap.size∧∃(te:Nat) (fz:Nat×Nat),w.heap[g]? =some (.cells cs te fz):=by
 rw [World.var?,hg] at h
 simp only [Option.bind_some] at h
 split at h
 ·rename_i c te fz e
  injection h with h
  subst h
  exact ⟨(Array.getElem?_eq_some_iff.1 e).1,te,fz,e⟩
 ·cases h
theorem qnk.err {P:Program} {w:World} {n:String} {g:Nat} {t:TypeId} {x:Value} (hg:P.globalNamed n=some g) (h:w.var? P n=some #[.iface t x]):qnk w g ⟨.err,false⟩:=by
 obtain ⟨h1,te,fz,h2⟩:=qpf hg h
 exact ⟨h1,[.iface t x],te,fz,h2,_,rfl,.inr ⟨rfl,t,x,rfl⟩⟩
theorem qlr {α β:Type} (f:α→β):(l:List α)→l.map f=(l.map fun z=>[f z]).flatten
 |[]=>rfl
 |x::l=>by simp only [List.map_cons,List.flatten_cons,←qlr f l]; rfl
theorem qnk.ints {P:Program} {w:World} {name:String} {g n:Nat} {k:IntKind} {tab zs:List Int} (hg:P.globalNamed name=some g) (hn:zs.length=n) (hk:zs.all (fun z=>decide (k.min≤z∧z≤k.max))=true) (ht:tab=zs) (h:Lib.TabIs P w name k zs):qnk w g ⟨.arr n (.int k),tab⟩:=by
 subst ht
 obtain ⟨h1,te,fz,h2⟩:=qpf hg h
 refine ⟨h1,tab.map (fun z=> .int k z),te,fz,h2,hn,tab.map (fun z=>[.int k z]),by rw [List.length_map,hn],qlr _ _,fun i x c hx hc=> ?_⟩
 rw [List.getElem?_map,hx] at hc
 injection hc with hc
 subst hc
 have h3:k.min≤x∧x≤k.max:=of_decide_eq_true (List.all_eq_true.1 hk x (List.mem_of_getElem? hx))
 exact ⟨rfl,h3⟩
def qjO (v:Int×(Int×(List UInt8×Unit))):List UInt8:=124::(Lib.itoa v.1++44::(Lib.itoa v.2.1++44::(Lib.itoa (v.2.2.1.length:Int)++44::v.2.2.1)))
def qeA (xs:List (Int×(Int×(List UInt8×Unit)))):List UInt8:=Lib.itoa (xs.length:Int)++(xs.map qjO).flatten
def qoo (s t:List UInt8):Option ((Int×Unit)×Unit):=match t with
 |[c]=>some ((Lib.indexByte s c,()),())
 |_=>none
theorem qih:(s:List UInt8)→(c:UInt8)→ -1≤Lib.indexByte s c∧Lib.indexByte s c<(s.length:Int)+1
 |[],_=>by simp [Lib.indexByte]
 |b::l,c=>by
  have:=qih l c
  simp only [Lib.indexByte]
  split
  ·simp only [List.length_cons]; omega
  ·split
   ·simp only [List.length_cons]; omega
   ·simp only [List.length_cons]; omega
theorem quu {P:Program} {T:qly} {f:Nat} {fn:Func} (hf:P.funcs[f]? =some fn) (hb:fn.body.isSome=true) (hname:(fn.name == "runtime.NumGoroutine")=false)
  (h:∀(s:ByteArray) (c:UInt8) (w:World),Calls P f #[.string s,.string ⟨#[c]⟩] w fun e w'=>e= .returned (.int .i64 (Lib.indexByte s.data.toList c))∧w'=w):
  qi.okT P T f ⟨[.val .str,.val .str],[.val (.int .i64)],fun x=>qoo x.1 x.2.1⟩:=by
 have:=qmi (T:=T) hf hb hname [.str,.str] [.int .i64] (fun x=>match x.2.1 with
  |[c]=>some (Lib.indexByte x.1 c,())
  |_=>none) (fun w F x y as hT hv hy=>by
  obtain ⟨v,r,rfl,h1,v2,r2,rfl,h2,rfl⟩:=hv
  obtain ⟨rfl,hn⟩:=qaA.str h1
  obtain ⟨rfl,hn2⟩:=qaA.str h2
  obtain ⟨s,t,u⟩:=x
  simp only at hy hn hn2⊢
  split at hy
  ·rename_i c
   injection hy with hy
   subst hy
   refine (h ⟨s.toArray⟩ c w).mono ?_
   rintro e w' ⟨rfl,rfl⟩
   refine ⟨[_],rfl,⟨_,[],rfl,qaA.ofInt _ _ ?_,rfl⟩,qc7.refl _ _⟩
   have h3:=qih s c
   simp only [maxLen] at hn
   simp [IntKind.has,IntKind.min,IntKind.max,IntKind.signed,IntKind.bits]
   omega
  ·cases hy)
 refine ⟨this.1,fun w F x y as g i a b c d e=>this.2 w F x y as g i a b c d ?_⟩
 obtain ⟨s,t,u⟩:=x
 simp only [qoo] at e
 simp only [qbX,qu9]
 split at e
 ·injection e with e
  subst e
  rfl
 ·cases e
end Go.Vi
namespace Go.Vi
theorem iterF_zero {S R:Type} (step:(S→Option R)→S→Option R) (s:S):qY 0 step s=none:=rfl
theorem qcG {S R:Type} (n:Nat) (step:(S→Option R)→S→Option R) (s:S):qY (n+1) step s=step (qY n step) s:=rfl
theorem qeK {S R:Type} {step:(S→Option R)→S→Option R} (m:S→Nat) (I:S→Prop) (out:S→R) (h:∀(ih:S→Option R) (s:S),I s→(∀s',I s'→m s'<m s→ih s'=some (out s'))→step ih s=some (out s)):∀(n:Nat) (s:S),I s→m s<n→qY n step s=some (out s)
 |0,s,_,hm=>absurd hm (Nat.not_lt_zero _)
 |n+1,s,hI,hm=>h (qY n step) s hI fun s' hI' hm'=>qeK m I out h n s' hI' (by omega)
theorem qd {α:Type} (x:α):qu (some x)=true:=by rw [qg7]; rfl
theorem qg {α:Type} (x d:α):qh (some x) d=x:=by rw [ql9]; rfl
theorem qgS {α:Type} :qu (none:Option α)=false:=by rw [qg7]; rfl
theorem qdm {z:Int} (h1: -9223372036854775808≤z) (h2:z<9223372036854775808):IntKind.wrap .i64 z=z:=by
 simp [IntKind.wrap,IntKind.signed,IntKind.bits]
 split <;> omega
theorem qG {α:Type} {c:Bool} {a b:α} (h:c=true):(bif c then a else b)=a:=by rw [h]; rfl
theorem qM {α:Type} {c:Bool} {a b:α} (h:c=false):(bif c then a else b)=b:=by rw [h]; rfl
theorem qaY {α:Type} {p:Prop} [Decidable p] {a b:α} :(bif decide p then a else b)=if p then a else b:=by by_cases h:p <;> simp [h]
theorem qb7 (x y:Int):eqI x y=decide (x=y):=by rw [qoz]; rfl
theorem qaW (x y:Int):neI x y= !decide (x=y):=by rw [qo9]; rfl
theorem qbg (x y:List UInt8):eqS x y=decide (x=y):=by rw [qqy]; by_cases h:x=y <;> simp [h]
theorem eqB_dec (x y:Bool):eqB x y=decide (x=y):=by rw [qox]; cases x <;> cases y <;> rfl
theorem quR {α:Type} (c:Bool) (a b:α):(bif c then a else b)=if c=true then a else b:=by cases c <;> rfl
theorem condO {α:Type} (c:Bool) (a b:Option α):(bif c then a else b)=if c=true then a else b:=by cases c <;> rfl
theorem condOr (c d:Bool):(bif c then c else d)=(c||d):=by cases c <;> rfl
theorem condB (c a b:Bool):(bif c then a else b)=((c&&a)||(!c&&b)):=by cases c <;> simp
theorem qiT {α:Type} {xs:List α} {i:Nat} {d x:α} (h:xs[i]? =some x):qf xs (i:Int) d=x:=by
 rw [qfB]
 simp [List.getD,h]
theorem qwd {i n:Nat} (h:i<n):inB (i:Int) (n:Int)=true:=by
 rw [qdc]
 simp
 omega
theorem qe4:(t:Ty)→(x:t.den)→1≤t.bulk x
 | .int _,_=>Nat.le_refl _
 | .bool,_=>Nat.le_refl _
 | .str,_=>Nat.le_add_left _ _
 | .unit,_=>Nat.le_refl _
 | .err,_=>Nat.le_refl _
 | .opt _,_=>Nat.le_refl _
 | .map _ _,_=>Nat.le_refl _
 | .pair a b,x=>by have:=qe4 a x.1; show 1≤a.bulk x.1+b.bulk x.2; omega
 | .slice e,xs=>Nat.le_add_left _ _
 | .arr _ e,xs=>Nat.le_add_left _ _
theorem qiP (e:Ty):(xs:List e.den)→xs.length+1≤(Ty.slice e).bulk xs
 |[]=>Nat.le_refl _
 |x::xs=>by
  have:=qiP e xs
  have h1:=qe4 e x
  simp only [Ty.bulk,List.map_cons,List.sum_cons,List.length_cons] at this⊢
  omega
end Go.Vi
namespace Go.Vi
theorem qmq {S R:Type} {step:(S→Option R)→S→Option R} {s0:S} (st:Nat→S) (n:Nat) (r:R) (h0:st 0=s0) (hs:∀i,i<n→∀ih,step ih (st i)=ih (st (i+1))) (he:∀ih,step ih (st n)=some r) {N:Nat} (hN:n<N):qY N step s0=some r:=by
 rw [←h0]
 have:∀k i,i+k=n→∀M,k<M→qY M step (st i)=some r:=by
  intro k
  induction k with
  |zero=>
   intro i hi M hM
   obtain ⟨M,rfl⟩:∃m,M=m+1:=⟨M - 1,by omega⟩
   rw [qcG,show i=n by omega]; exact he _
  |succ k ih=>
   intro i hi M hM
   obtain ⟨M,rfl⟩:∃m,M=m+1:=⟨M - 1,by omega⟩
   rw [qcG,hs i (by omega)]
   exact ih (i+1) (by omega) M (by omega)
 exact this n 0 (by omega) N hN
theorem qe7 {S R:Type} {step:(S→Option R)→S→Option R} {s0:S} (st:Nat→S) (n:Nat) (r:Option R) (h0:st 0=s0) (hs:∀i,i<n→∀ih,step ih (st i)=ih (st (i+1))) (he:∀ih,step ih (st n)=r) {N:Nat} (hN:n<N):qY N step s0=r:=by
 rw [←h0]
 have:∀k i,i+k=n→∀M,k<M→qY M step (st i)=r:=by
  intro k
  induction k with
  |zero=>
   intro i hi M hM
   obtain ⟨M,rfl⟩:∃m,M=m+1:=⟨M - 1,by omega⟩
   rw [qcG,show i=n by omega]; exact he _
  |succ k ih=>
   intro i hi M hM
   obtain ⟨M,rfl⟩:∃m,M=m+1:=⟨M - 1,by omega⟩
   rw [qcG,hs i (by omega)]
   exact ih (i+1) (by omega) M (by omega)
 exact this n 0 (by omega) N hN
theorem qcs (x y:Int):ltI x y=decide (x<y):=qbi x y
theorem qf2 (x y:Int):leI x y=decide (x≤y):=qbd x y
theorem qex (i n:Int):inB i n=decide (0≤i∧i<n):=by rw [qdc]; simp
theorem qoq (l h n:Int):inS l h n=decide (0≤l∧l≤h∧h≤n):=by rw [qkX]; simp
theorem qas {x y:Int} (h1: -9223372036854775808≤x+y) (h2:x+y<9223372036854775808):qI .i64 x y=x+y:=by rw [ql5,qdm h1 h2]
theorem qak {x y:Int} (h1: -9223372036854775808≤x - y) (h2:x - y<9223372036854775808):qE .i64 x y=x - y:=by rw [qko,qdm h1 h2]
theorem imul64 {x y:Int} (h1: -9223372036854775808≤x * y) (h2:x * y<9223372036854775808):qkw .i64 x y=x * y:=by rw [qdJ,qdm h1 h2]
theorem ineg64 {x:Int} (h1: -9223372036854775808<x) (h2:x<9223372036854775808):ineg .i64 x= -x:=by rw [qo0,qdm (by omega) (by omega)]; omega
theorem qqF {x:Int} (h1: -9223372036854775808≤x) (h2:x<9223372036854775808):qcr .i64 x=x:=by rw [qd7,qdm h1 h2]
theorem iquo64 {x y:Int} (hx:0≤x) (hy:0<y) (h2:x<9223372036854775808):qlL .i64 x y=x / y:=by
 have h3:x / y≤x:=Int.ediv_le_self _ hx
 have h4:0≤x / y:=Int.ediv_nonneg hx (by omega)
 rw [qiN,Int.tdiv_eq_ediv_of_nonneg hx,qdm (by omega) (by omega)]
theorem irem64 {x y:Int} (hx:0≤x):irem x y=x % y:=by rw [qoZ,Int.tmod_eq_emod_of_nonneg hx]
theorem qao {i:Nat} (h:i<4611686018427387904):qI .i64 (i:Int) 1=((i+1:Nat):Int):=by
 rw [ql5,qdm (by omega) (by omega)]
 omega
theorem qbt {α:Type} {xs:List α} {i:Nat} (h:i<xs.length):ltI (i:Int) (qn xs)=true:=by rw [qbi,qr]; simp; omega
theorem qaX {α:Type} {xs:List α} {i:Nat} (h:¬i<xs.length):ltI (i:Int) (qn xs)=false:=by rw [qbi,qr]; simp; omega
theorem qZ {α:Type} {xs:List α} {i:Nat} (h:i<xs.length):inB (i:Int) (qn xs)=true:=by rw [qr]; exact qwd h
theorem drop_cons' {α:Type} {xs:List α} {i:Nat} (h:i<xs.length):xs.drop i=xs[i]::xs.drop (i+1):=List.drop_eq_getElem_cons h
theorem qee {α:Type} {xs:List α} {i:Nat} (h:i<xs.length):xs.take (i+1)=xs.take i++[xs[i]]:=by rw [List.take_succ_eq_append_getElem h]
theorem qX {α:Type} {xs:List α} {i:Nat} (d:α) (h:i<xs.length):qf xs (i:Int) d=xs[i]:=qiT (List.getElem?_eq_getElem h)
theorem qeo {α β:Type} {xs:List α} {ys:List β} {b:Nat} (h:(xs.length+ys.length) * b≤140737488355328):qc2 (qn xs) (qn ys) b=true:=by
 rw [qj6,qr,qr]
 refine decide_eq_true ?_
 have:(((xs.length+ys.length) * b:Nat):Int)≤140737488355328:=by omega
 rwa [Int.natCast_mul,Int.natCast_add] at this
theorem qss {α:Type} (xs:List α) (i:Nat):qaI xs (i:Int) (qn xs)=xs.drop i:=by
 rw [qcF,qr]; simp
theorem ql0 {α:Type} (xs:List α) (i:Nat):qaI xs 0 (i:Int)=xs.take i:=by
 rw [qcF]; simp
theorem slice_at {α:Type} (xs:List α) (i j:Nat):qaI xs (i:Int) (j:Int)=(xs.take j).drop i:=by
 rw [qcF]; simp
theorem qrl {α:Type} {xs:List α} {i:Nat} (h:i≤xs.length):inS (i:Int) (qn xs) (qn xs)=true:=by
 rw [qkX,qr]; simp; omega
theorem quq (n:Int):IntKind.wrap .u8 n=n % 256:=by simp [IntKind.wrap,IntKind.signed,IntKind.bits]
theorem qq7 (n:Int):IntKind.wrap .u64 n=n % 18446744073709551616:=by simp [IntKind.wrap,IntKind.signed,IntKind.bits]
theorem qeT {n:Int} (h1:0≤n) (h2:n<18446744073709551616):IntKind.wrap .u64 n=n:=by rw [qq7]; omega
theorem wrap8_id {n:Int} (h1:0≤n) (h2:n<256):qcr .u8 n=n:=by rw [qd7,quq]; omega
theorem bv64 (n:Nat):BitVec.ofInt 64 (n:Int)=BitVec.ofNat 64 n:=by
 apply BitVec.eq_of_toInt_eq
 rw [BitVec.toInt_ofInt]
 exact (BitVec.toInt_ofNat' ..).symm
theorem qrv:IntKind.bits .i64=64:=rfl
theorem bor64 {a b:Nat} (ha:a<2^62) (hb:b<2^62):bor .i64 (a:Int) (b:Int)=((a|||b:Nat):Int):=by
 have hab:a|||b<2^62:=Nat.or_lt_two_pow ha hb
 rw [qqZ,qrv,bv64,bv64,BitVec.toNat_or,BitVec.toNat_ofNat,BitVec.toNat_ofNat,Nat.mod_eq_of_lt (by omega),Nat.mod_eq_of_lt (by omega),qdm (by omega) (by omega)]
theorem band64 {a b:Nat} (ha:a<2^62) (hb:b<2^62):quD .i64 (a:Int) (b:Int)=((a&&& b:Nat):Int):=by
 have hab:a&&& b<2^62:=Nat.and_lt_two_pow a hb
 rw [qlZ,qrv,bv64,bv64,BitVec.toNat_and,BitVec.toNat_ofNat,BitVec.toNat_ofNat,Nat.mod_eq_of_lt (by omega),Nat.mod_eq_of_lt (by omega),qdm (by omega) (by omega)]
theorem shl64 {a k:Nat} (hk:k<62) (h:a * 2^k<2^62):qkR .i64 (a:Int) (k:Int)=((a * 2^k:Nat):Int):=by
 rw [ql6,qrv,Int.toNat_natCast,Nat.min_eq_left (by omega)]
 have e:(a:Int) * 2^k=((a * 2^k:Nat):Int):=by push_cast; rfl
 rw [e,qdm (by omega) (by omega)]
theorem shr64 {a k:Nat} (hk:k<62):qjQ .i64 (a:Int) (k:Int)=((a / 2^k:Nat):Int):=by
 rw [qkx,qrv,Int.toNat_natCast,Nat.min_eq_left (by omega)]
 have e:(2:Int)^k=((2^k:Nat):Int):=by push_cast; rfl
 rw [e,Int.fdiv_eq_ediv_of_nonneg _ (Int.natCast_nonneg _)]
 push_cast; rfl
theorem mIdx_none {α β:Type} {xs:List (α×β)} {k:α} (h:¬qf9 xs k<xs.length):∀p∈xs,p.1≠k:=fun p hp he=>by
 apply h
 unfold qf9
 exact List.findIdx_lt_length_of_exists ⟨p,hp,by simp [he]⟩
theorem mIdx_key {α β:Type} {xs:List (α×β)} {k:α} (h:qf9 xs k<xs.length):(xs[qf9 xs k]'h).1=k:=by
 unfold qf9 at h⊢
 have:=List.findIdx_getElem (w:=h)
 simpa using this
theorem qix {α β:Type} (p:α×β) (xs:List (α×β)) (k:α) (d:β):qja (p::xs) k d=open Classical in if p.1=k then p.2 else qja xs k d:=by
 rw [qkF,qkF]
 have:qf9 (p::xs) k=open Classical in if p.1=k then 0 else qf9 xs k+1:=by
  unfold qf9
  rw [List.findIdx_cons]
  by_cases h:p.1=k <;> simp [h]
 rw [this]
 by_cases h:p.1=k <;> simp [h]
theorem qrj {α β:Type} (k:α) (d:β):qja ([]:List (α×β)) k d=d:=by rw [qkF]; rfl
theorem qvt {α β:Type} (k:α) (v:β):qnP ([]:List (α×β)) k v=[(k,v)]:=by rw [qkp]; rfl
theorem qsN {α β:Type} (p:α×β) (xs:List (α×β)) (k:α) (v:β):qnP (p::xs) k v=open Classical in if p.1=k then (p.1,v)::xs else p::qnP xs k v:=by
 rw [qkp,qkp]
 have:qf9 (p::xs) k=open Classical in if p.1=k then 0 else qf9 xs k+1:=by
  unfold qf9
  rw [List.findIdx_cons]
  by_cases h:p.1=k <;> simp [h]
 rw [this]
 by_cases h:p.1=k
 ·simp [h,qqO]
 ·simp only [h,if_false,List.length_cons,Nat.add_lt_add_iff_right]
  by_cases h2:qf9 xs k<xs.length
  ·simp only [h2,if_true,qqO,List.getElem?_cons_succ,List.getElem?_eq_getElem h2,List.set_cons_succ]
  ·simp [h2]
theorem qnp {α β:Type} (xs:List (α×β)) (k:α) (v:β) (k':α) (d:β):qja (qnP xs k v) k' d=open Classical in if k=k' then v else qja xs k' d:=by
 induction xs with
 |nil=>rw [qvt,qix]
 |cons p r ih=>
  rw [qsN]
  by_cases h:p.1=k
  ·rw [if_pos h,qix,qix]
   by_cases h2:k=k'
   ·simp [h,h2]
   ·simp [h,h2]
  ·rw [if_neg h,qix,qix,ih]
   by_cases h2:p.1=k'
   ·have:¬k=k':=fun e=>h (h2.trans e.symm)
    simp [h2,this]
   ·simp [h2]
noncomputable def qqg {α:Type} (ks:List α):List (α×Int):=ks.foldl (fun m k=>qnP m k (qI .i64 (qja m k 0) 1)) []
theorem qu0 {α:Type} :qqg ([]:List α)=[]:=rfl
theorem qnd {α:Type} (ks:List α) (k:α):qqg (ks++[k])=qnP (qqg ks) k (qI .i64 (qja (qqg ks) k 0) 1):=by simp [qqg]
theorem qvf {α:Type} (ks:List α) (h:ks.length<4611686018427387904) (k:α):0≤qja (qqg ks) k 0∧qja (qqg ks) k 0≤(ks.length:Int)∧(0<qja (qqg ks) k 0↔k∈ks):=by
 have key:∀(l:List α),l.length<4611686018427387904→∀k,0≤qja (qqg l.reverse) k 0∧qja (qqg l.reverse) k 0≤(l.length:Int)∧(0<qja (qqg l.reverse) k 0↔k∈l):=by
  intro l
  induction l with
  |nil=>intro _ k; simp [qu0,qrj]
  |cons a l ih=>
   intro hl k
   rw [List.length_cons] at hl
   rw [List.reverse_cons,qnd,qnp]
   obtain ⟨h1,h2,h3⟩:=ih (by omega) a
   obtain ⟨g1,g2,g3⟩:=ih (by omega) k
   by_cases e:a=k
   ·subst e
    rw [if_pos rfl,qas (by omega) (by omega),List.length_cons]
    refine ⟨by omega,by omega,by simp; omega⟩
   ·rw [if_neg e,List.length_cons]
    refine ⟨g1,by omega,by rw [g3]; simp [Ne.symm e]⟩
 have:=key ks.reverse (by simpa using h) k
 simpa using this
theorem qnX {α:Type} (ks:List α) (h:ks.length<4611686018427387904) (k:α):ltI 1 (qja (qnP (qqg ks) k (qI .i64 (qja (qqg ks) k 0) 1)) k 0)=open Classical in decide (k∈ks):=by
 obtain ⟨h1,h2,h3⟩:=qvf ks h k
 rw [qnp,if_pos rfl,qas (by omega) (by omega),qcs]
 by_cases hk:k∈ks
 ·have:=h3.2 hk
  simp [hk]; omega
 ·have:¬0<qja (qqg ks) k 0:=fun e=>hk (h3.1 e)
  simp [hk]; omega
def qaf {E:Type} (g:Nat→Option E):Nat→Option E
 |0=>none
 |n+1=>match qaf g n with
  |some e=>some e
  |none=>g n
theorem qa3 {E:Type} {g:Nat→Option E} : {n:Nat} →qaf g n=none→∀i,i<n→g i=none
 |0,_,i,hi=>by omega
 |n+1,h,i,hi=>by
  simp only [qaf] at h
  split at h
  ·cases h
  ·rename_i h0
   by_cases e:i=n
   ·rw [e]; exact h
   ·exact qa3 h0 i (by omega)
theorem qcS {E:Type} {g:Nat→Option E} {e:E} : {n:Nat} →qaf g n=some e→∃i,i<n∧g i=some e∧qaf g i=none
 |0,h=>by cases h
 |n+1,h=>by
  simp only [qaf] at h
  split at h
  ·rename_i e' h0
   injection h with h
   subst h
   obtain ⟨i,h1,h2⟩:=qcS h0
   exact ⟨i,by omega,h2⟩
  ·rename_i h0
   exact ⟨n,by omega,h,h0⟩
theorem qan {S R E:Type} {step:(S→Option R)→S→Option R} {s0:S} (st:Nat→S) (n:Nat) (g:Nat→Option E) (out:E→Option R) (fin:Option R) (h0:st 0=s0)
  (hs:∀i,i<n→qaf g i=none→∀ih,step ih (st i)=match g i with
   |some e=>out e
   |none=>ih (st (i+1)))
  (he:qaf g n=none→∀ih,step ih (st n)=fin) {N:Nat} (hN:n<N):qY N step s0=match qaf g n with
   |some e=>out e
   |none=>fin:=by
 rw [←h0]
 have:∀k i,i+k=n→qaf g i=none→∀M,k<M→qY M step (st i)=match qaf g n with
   |some e=>out e
   |none=>fin:=by
  intro k
  induction k with
  |zero=>
   intro i hi hg M hM
   obtain ⟨M,rfl⟩:∃m,M=m+1:=⟨M - 1,by omega⟩
   have hin:i=n:=by omega
   subst hin
   rw [qcG,hg]
   exact he hg _
  |succ k ih=>
   intro i hi hg M hM
   obtain ⟨M,rfl⟩:∃m,M=m+1:=⟨M - 1,by omega⟩
   rw [qcG,hs i (by omega) hg]
   cases hgi:g i with
   |none=>exact ih (i+1) (by omega) (by simp only [qaf,hg,hgi]) M (by omega)
   |some e=>
    have:∀m,qaf g (i+1+m)=some e:=by
     intro m
     induction m with
     |zero=>simp only [Nat.add_zero,qaf,hg,hgi]
     |succ m ihm=>rw [←Nat.add_assoc]; simp only [qaf,ihm]
    have:=this k
    rw [show i+1+k=n by omega] at this
    rw [this]
 exact this n 0 (by omega) rfl N hN
end Go.Vi
set_option linter.unusedSimpArgs false
set_option maxRecDepth 100000
namespace Go.Vi
noncomputable section
def qfA {α:Type} (d:α) (N:Nat) (x:((List α)×(Int×(Int×(((α×(α×Unit))→(Option (Int×Unit)))×Unit))))):(Option (Unit×((List α)×Unit))):=
 (qY (S:=((List α)×(Int×Unit))) (R:=(Unit×((List α)×Unit))) N (fun ih0=>(fun p1=>(bif (ltI p1.2.1 x.2.2.1) then (qY (S:=((List α)×(Int×Unit))) (R:=(Unit×((List α)×Unit))) N (fun ih2=>(fun p3=>(bif (((!(ltI x.2.1 p3.2.1))||(inB p3.2.1 (qn p3.1)))&&(((!(ltI x.2.1 p3.2.1))||(inB (qE .i64 p3.2.1 1) (qn p3.1)))&&((!(ltI x.2.1 p3.2.1))||(qu (x.2.2.2.1 ((qf p3.1 p3.2.1 d),((qf p3.1 (qE .i64 p3.2.1 1) d),()))))))) then (bif ((ltI x.2.1 p3.2.1)&&(ltI (qh (x.2.2.2.1 ((qf p3.1 p3.2.1 d),((qf p3.1 (qE .i64 p3.2.1 1) d),()))) (0,())).1 0)) then (bif ((inB (qE .i64 p3.2.1 1) (qn p3.1))&&((inB p3.2.1 (qn p3.1))&&((inB p3.2.1 (qn p3.1))&&(inB (qE .i64 p3.2.1 1) (qn (qaM p3.1 p3.2.1 (qf p3.1 (qE .i64 p3.2.1 1) d))))))) then (ih2 ((qaM (qaM p3.1 p3.2.1 (qf p3.1 (qE .i64 p3.2.1 1) d)) (qE .i64 p3.2.1 1) (qf p3.1 p3.2.1 d)),((qE .i64 p3.2.1 1),()))) else none) else (ih0 (p3.1,((qI .i64 p1.2.1 1),())))) else none))) (p1.1,(p1.2.1,()))) else (some ((),(p1.1,())))))) (x.1,((qI .i64 x.2.1 1),())))
def qhE {α:Type} (d:α) (N:Nat) (x:((List α)×(Int×(Int×(Int×(((α×(α×Unit))→(Option (Int×Unit)))×Unit)))))):(Option (Unit×((List α)×Unit))):=
 (qY (S:=((List α)×(Int×Unit))) (R:=(Unit×((List α)×Unit))) N (fun ih0=>(fun p1=>(bif (ltI p1.2.1 x.2.2.2.1) then (bif ((inB (qI .i64 x.2.2.1 p1.2.1) (qn p1.1))&&((inB (qI .i64 x.2.1 p1.2.1) (qn p1.1))&&((inB (qI .i64 x.2.1 p1.2.1) (qn p1.1))&&(inB (qI .i64 x.2.2.1 p1.2.1) (qn (qaM p1.1 (qI .i64 x.2.1 p1.2.1) (qf p1.1 (qI .i64 x.2.2.1 p1.2.1) d))))))) then (ih0 ((qaM (qaM p1.1 (qI .i64 x.2.1 p1.2.1) (qf p1.1 (qI .i64 x.2.2.1 p1.2.1) d)) (qI .i64 x.2.2.1 p1.2.1) (qf p1.1 (qI .i64 x.2.1 p1.2.1) d)),((qI .i64 p1.2.1 1),()))) else none) else (some ((),(p1.1,())))))) (x.1,(0,())))
def qdV {α:Type} (d:α) (N:Nat) (x:((List α)×(Int×(Int×(Int×(((α×(α×Unit))→(Option (Int×Unit)))×Unit)))))):(Option (Unit×((List α)×Unit))):=
 (qL (qE .i64 x.2.2.1 x.2.1) (fun y0=>(qY (S:=((List α)×(Int×(Int×Unit)))) (R:=(Unit×((List α)×Unit))) N (fun ih1=>(fun p2=>(bif (neI p2.2.1 p2.2.2.1) then (bif (bif (ltI p2.2.2.1 p2.2.1) then (qu (qhE d N (p2.1,((qE .i64 x.2.2.1 p2.2.1),(x.2.2.1,(p2.2.2.1,(x.2.2.2.2.1,()))))))) else (qu (qhE d N (p2.1,((qE .i64 x.2.2.1 p2.2.1),((qE .i64 (qI .i64 x.2.2.1 p2.2.2.1) p2.2.1),(p2.2.1,(x.2.2.2.2.1,())))))))) then (ih1 ((bif (ltI p2.2.2.1 p2.2.1) then (qh (qhE d N (p2.1,((qE .i64 x.2.2.1 p2.2.1),(x.2.2.1,(p2.2.2.1,(x.2.2.2.2.1,())))))) ((),(([]:List α),()))).2.1 else (qh (qhE d N (p2.1,((qE .i64 x.2.2.1 p2.2.1),((qE .i64 (qI .i64 x.2.2.1 p2.2.2.1) p2.2.1),(p2.2.1,(x.2.2.2.2.1,())))))) ((),(([]:List α),()))).2.1),((bif (ltI p2.2.2.1 p2.2.1) then (qE .i64 p2.2.1 p2.2.2.1) else p2.2.1),((bif (ltI p2.2.2.1 p2.2.1) then p2.2.2.1 else (qE .i64 p2.2.2.1 p2.2.1)),())))) else none) else (bif (qu (qhE d N (p2.1,((qE .i64 x.2.2.1 p2.2.1),(x.2.2.1,(p2.2.1,(x.2.2.2.2.1,()))))))) then (some ((),((qh (qhE d N (p2.1,((qE .i64 x.2.2.1 p2.2.1),(x.2.2.1,(p2.2.1,(x.2.2.2.2.1,())))))) ((),(([]:List α),()))).2.1,()))) else none)))) (x.1,(y0,((qE .i64 x.2.2.2.1 x.2.2.1),()))))))
def qms {α:Type} (d:α) (N:Nat) (Fs:((List α)×(Int×(Int×(Int×(((α×(α×Unit))→(Option (Int×Unit)))×Unit)))))→(Option (Unit×((List α)×Unit)))) (x:((List α)×(Int×(Int×(Int×(((α×(α×Unit))→(Option (Int×Unit)))×Unit)))))):(Option (Unit×((List α)×Unit))):=
 (bif (eqI (qE .i64 x.2.2.1 x.2.1) 1) then (qY (S:=((List α)×(Int×(Int×Unit)))) (R:=(Unit×((List α)×Unit))) N (fun ih0=>(fun p1=>(bif (ltI p1.2.1 p1.2.2.1) then (bif (leI 0 1) then (qL (qcr .i64 (qjQ .u64 (qcr .u64 (qI .i64 p1.2.1 p1.2.2.1)) 1)) (fun y2=>(bif ((inB y2 (qn p1.1))&&((inB x.2.1 (qn p1.1))&&(qu (x.2.2.2.2.1 ((qf p1.1 y2 d),((qf p1.1 x.2.1 d),())))))) then (ih0 (p1.1,((bif (ltI (qh (x.2.2.2.2.1 ((qf p1.1 y2 d),((qf p1.1 x.2.1 d),()))) (0,())).1 0) then (qI .i64 y2 1) else p1.2.1),((bif (ltI (qh (x.2.2.2.2.1 ((qf p1.1 y2 d),((qf p1.1 x.2.1 d),()))) (0,())).1 0) then p1.2.2.1 else y2),())))) else none))) else none) else (qY (S:=((List α)×(Int×Unit))) (R:=(Unit×((List α)×Unit))) N (fun ih2=>(fun p3=>(bif (ltI p3.2.1 (qE .i64 p1.2.1 1)) then (bif ((inB (qI .i64 p3.2.1 1) (qn p3.1))&&((inB p3.2.1 (qn p3.1))&&((inB p3.2.1 (qn p3.1))&&(inB (qI .i64 p3.2.1 1) (qn (qaM p3.1 p3.2.1 (qf p3.1 (qI .i64 p3.2.1 1) d))))))) then (ih2 ((qaM (qaM p3.1 p3.2.1 (qf p3.1 (qI .i64 p3.2.1 1) d)) (qI .i64 p3.2.1 1) (qf p3.1 p3.2.1 d)),((qI .i64 p3.2.1 1),()))) else none) else (some ((),(p3.1,())))))) (p1.1,(x.2.1,())))))) (x.1,(x.2.2.1,(x.2.2.2.1,())))) else (bif (eqI (qE .i64 x.2.2.2.1 x.2.2.1) 1) then (qY (S:=((List α)×(Int×(Int×Unit)))) (R:=(Unit×((List α)×Unit))) N (fun ih0=>(fun p1=>(bif (ltI p1.2.1 p1.2.2.1) then (bif (leI 0 1) then (qL (qcr .i64 (qjQ .u64 (qcr .u64 (qI .i64 p1.2.1 p1.2.2.1)) 1)) (fun y2=>(bif ((inB x.2.2.1 (qn p1.1))&&((inB y2 (qn p1.1))&&(qu (x.2.2.2.2.1 ((qf p1.1 x.2.2.1 d),((qf p1.1 y2 d),())))))) then (ih0 (p1.1,((bif (!(ltI (qh (x.2.2.2.2.1 ((qf p1.1 x.2.2.1 d),((qf p1.1 y2 d),()))) (0,())).1 0)) then (qI .i64 y2 1) else p1.2.1),((bif (!(ltI (qh (x.2.2.2.2.1 ((qf p1.1 x.2.2.1 d),((qf p1.1 y2 d),()))) (0,())).1 0)) then p1.2.2.1 else y2),())))) else none))) else none) else (qY (S:=((List α)×(Int×Unit))) (R:=(Unit×((List α)×Unit))) N (fun ih2=>(fun p3=>(bif (ltI p1.2.1 p3.2.1) then (bif ((inB (qE .i64 p3.2.1 1) (qn p3.1))&&((inB p3.2.1 (qn p3.1))&&((inB p3.2.1 (qn p3.1))&&(inB (qE .i64 p3.2.1 1) (qn (qaM p3.1 p3.2.1 (qf p3.1 (qE .i64 p3.2.1 1) d))))))) then (ih2 ((qaM (qaM p3.1 p3.2.1 (qf p3.1 (qE .i64 p3.2.1 1) d)) (qE .i64 p3.2.1 1) (qf p3.1 p3.2.1 d)),((qE .i64 p3.2.1 1),()))) else none) else (some ((),(p3.1,())))))) (p1.1,(x.2.2.1,())))))) (x.1,(x.2.1,(x.2.2.1,())))) else (bif (leI 0 1) then (qL (qcr .i64 (qjQ .u64 (qcr .u64 (qI .i64 x.2.1 x.2.2.2.1)) 1)) (fun y0=>(qL (qI .i64 y0 x.2.2.1) (fun y1=>(qL (bif (ltI y0 x.2.2.1) then (qE .i64 y1 x.2.2.2.1) else x.2.1) (fun y2=>(qL (bif (ltI y0 x.2.2.1) then y0 else x.2.2.1) (fun y3=>(qY (S:=((List α)×(Int×(Int×Unit)))) (R:=(Unit×((List α)×Unit))) N (fun ih4=>(fun p5=>(bif (ltI p5.2.1 p5.2.2.1) then (bif (leI 0 1) then (qL (qcr .i64 (qjQ .u64 (qcr .u64 (qI .i64 p5.2.1 p5.2.2.1)) 1)) (fun y6=>(bif ((inB (qE .i64 (qE .i64 y1 1) y6) (qn p5.1))&&((inB y6 (qn p5.1))&&(qu (x.2.2.2.2.1 ((qf p5.1 (qE .i64 (qE .i64 y1 1) y6) d),((qf p5.1 y6 d),())))))) then (ih4 (p5.1,((bif (!(ltI (qh (x.2.2.2.2.1 ((qf p5.1 (qE .i64 (qE .i64 y1 1) y6) d),((qf p5.1 y6 d),()))) (0,())).1 0)) then (qI .i64 y6 1) else p5.2.1),((bif (!(ltI (qh (x.2.2.2.2.1 ((qf p5.1 (qE .i64 (qE .i64 y1 1) y6) d),((qf p5.1 y6 d),()))) (0,())).1 0)) then p5.2.2.1 else y6),())))) else none))) else none) else (qL (qE .i64 y1 p5.2.1) (fun y6=>(qL ((ltI p5.2.1 x.2.2.1)&&(ltI x.2.2.1 y6)) (fun y7=>(bif (bif y7 then (qu (qdV d N (p5.1,(p5.2.1,(x.2.2.1,(y6,(x.2.2.2.2.1,()))))))) else true) then (qL ((ltI x.2.1 p5.2.1)&&(ltI p5.2.1 y0)) (fun y8=>(bif (bif y8 then (qu (Fs ((bif y7 then (qh (qdV d N (p5.1,(p5.2.1,(x.2.2.1,(y6,(x.2.2.2.2.1,())))))) ((),(([]:List α),()))).2.1 else p5.1),(x.2.1,(p5.2.1,(y0,(x.2.2.2.2.1,()))))))) else true) then (qL ((ltI y0 y6)&&(ltI y6 x.2.2.2.1)) (fun y9=>(bif (bif y9 then (qu (Fs ((bif y8 then (qh (Fs ((bif y7 then (qh (qdV d N (p5.1,(p5.2.1,(x.2.2.1,(y6,(x.2.2.2.2.1,())))))) ((),(([]:List α),()))).2.1 else p5.1),(x.2.1,(p5.2.1,(y0,(x.2.2.2.2.1,())))))) ((),(([]:List α),()))).2.1 else (bif y7 then (qh (qdV d N (p5.1,(p5.2.1,(x.2.2.1,(y6,(x.2.2.2.2.1,())))))) ((),(([]:List α),()))).2.1 else p5.1)),(y0,(y6,(x.2.2.2.1,(x.2.2.2.2.1,()))))))) else true) then (some ((),((bif y9 then (qh (Fs ((bif y8 then (qh (Fs ((bif y7 then (qh (qdV d N (p5.1,(p5.2.1,(x.2.2.1,(y6,(x.2.2.2.2.1,())))))) ((),(([]:List α),()))).2.1 else p5.1),(x.2.1,(p5.2.1,(y0,(x.2.2.2.2.1,())))))) ((),(([]:List α),()))).2.1 else (bif y7 then (qh (qdV d N (p5.1,(p5.2.1,(x.2.2.1,(y6,(x.2.2.2.2.1,())))))) ((),(([]:List α),()))).2.1 else p5.1)),(y0,(y6,(x.2.2.2.1,(x.2.2.2.2.1,())))))) ((),(([]:List α),()))).2.1 else (bif y8 then (qh (Fs ((bif y7 then (qh (qdV d N (p5.1,(p5.2.1,(x.2.2.1,(y6,(x.2.2.2.2.1,())))))) ((),(([]:List α),()))).2.1 else p5.1),(x.2.1,(p5.2.1,(y0,(x.2.2.2.2.1,())))))) ((),(([]:List α),()))).2.1 else (bif y7 then (qh (qdV d N (p5.1,(p5.2.1,(x.2.2.1,(y6,(x.2.2.2.2.1,())))))) ((),(([]:List α),()))).2.1 else p5.1))),()))) else none))) else none))) else none)))))))) (x.1,(y2,(y3,())))))))))))) else none)))
def qf3 {α:Type} (d:α) (N:Nat) (M:Nat):((List α)×(Int×(Int×(Int×(((α×(α×Unit))→(Option (Int×Unit)))×Unit)))))→(Option (Unit×((List α)×Unit))):=
 Nat.rec (motive:=fun _=>((List α)×(Int×(Int×(Int×(((α×(α×Unit))→(Option (Int×Unit)))×Unit)))))→(Option (Unit×((List α)×Unit)))) (fun _=>none) (fun _ Fs=>qms d N Fs) M
def qlz {α:Type} (d:α) (N:Nat):((List α)×(Int×(Int×(Int×(((α×(α×Unit))→(Option (Int×Unit)))×Unit)))))→(Option (Unit×((List α)×Unit))):=qf3 d N N
def qlJ {α:Type} (d:α) (N:Nat) (x:((List α)×(Int×(((α×(α×Unit))→(Option (Int×Unit)))×Unit)))):(Option (Unit×((List α)×Unit))):=
 (qY (S:=((List α)×(Int×(Int×Unit)))) (R:=(Unit×((List α)×Unit))) N (fun ih0=>(fun p1=>(bif (leI p1.2.2.1 x.2.1) then (bif (qu (qfA d N (p1.1,(p1.2.1,(p1.2.2.1,(x.2.2.1,())))))) then (qL (qh (qfA d N (p1.1,(p1.2.1,(p1.2.2.1,(x.2.2.1,()))))) ((),(([]:List α),()))).2.1 (fun ys2=>(qL p1.2.2.1 (fun y3=>(ih0 (ys2,(y3,((qI .i64 y3 20),())))))))) else none) else (bif (qu (qfA d N (p1.1,(p1.2.1,(x.2.1,(x.2.2.1,())))))) then (qY (S:=((List α)×(Int×Unit))) (R:=(Unit×((List α)×Unit))) N (fun ih2=>(fun p3=>(bif (ltI p3.2.1 x.2.1) then (qY (S:=((List α)×(Int×(Int×Unit)))) (R:=(Unit×((List α)×Unit))) N (fun ih4=>(fun p5=>(bif (leI p5.2.2.1 x.2.1) then (bif (qu (qlz d N (p5.1,(p5.2.1,((qI .i64 p5.2.1 p3.2.1),(p5.2.2.1,(x.2.2.1,()))))))) then (qL (qh (qlz d N (p5.1,(p5.2.1,((qI .i64 p5.2.1 p3.2.1),(p5.2.2.1,(x.2.2.1,())))))) ((),(([]:List α),()))).2.1 (fun ys6=>(qL p5.2.2.1 (fun y7=>(ih4 (ys6,(y7,((qI .i64 y7 (qkw .i64 2 p3.2.1)),())))))))) else none) else (qL (qI .i64 p5.2.1 p3.2.1) (fun y6=>(bif (bif (ltI y6 x.2.1) then (qu (qlz d N (p5.1,(p5.2.1,(y6,(x.2.1,(x.2.2.1,()))))))) else true) then (ih2 ((bif (ltI y6 x.2.1) then (qh (qlz d N (p5.1,(p5.2.1,(y6,(x.2.1,(x.2.2.1,())))))) ((),(([]:List α),()))).2.1 else p5.1),((qkw .i64 p3.2.1 2),()))) else none)))))) (p3.1,(0,((qkw .i64 2 p3.2.1),())))) else (some ((),(p3.1,())))))) ((qh (qfA d N (p1.1,(p1.2.1,(x.2.1,(x.2.2.1,()))))) ((),(([]:List α),()))).2.1,(20,()))) else none)))) (x.1,(0,(20,()))))
def qkf {α:Type} (d:α) (N:Nat) (x:((List α)×(((α×(α×Unit))→(Option (Int×Unit)))×Unit))):(Option (Unit×((List α)×Unit))):=
 (bif (qu (qlJ d N (x.1,((qn x.1),(x.2.1,()))))) then (some ((),((qh (qlJ d N (x.1,((qn x.1),(x.2.1,())))) ((),(([]:List α),()))).2.1,()))) else none)
theorem qcI {S R:Type} {st1 st2:(S→Option R)→S→Option R} (μ:S→Nat) (I:S→Prop) (Q:Option R→Option R→Prop)
  (hs:∀ih1 ih2 p,I p→(∀q,I q→μ q<μ p→Q (ih1 q) (ih2 q))→Q (st1 ih1 p) (st2 ih2 p)):∀(N:Nat) (p:S),I p→μ p<N→Q (qY N st1 p) (qY N st2 p)
 |0,p,_,h=>by omega
 |N+1,p,hI,h=>by
  rw [qcG,qcG]
  exact hs _ _ p hI fun q hq hm=>qcI μ I Q hs N q hq (by omega)
structure Ck {α:Type} (P:α→Prop) (n:Nat) (ys:List α):Prop where
 len:ys.length=n
 all:∀x∈ys,P x
def Alike {α:Type} (P:α→Prop) (φ ψ:(α×(α×Unit))→Option (Int×Unit)):Prop:=∀a b,P a→P b→∃c e,φ (a,(b,()))=some (c,())∧ψ (a,(b,()))=some (e,())∧(c<0↔e<0)
def Res {α:Type} (P:α→Prop) (n:Nat) (r s:Option (Unit×(List α×Unit))):Prop:=∃out,Ck P n out∧r=some ((),(out,()))∧s=some ((),(out,()))
theorem Ck.inB {α:Type} {P:α→Prop} {n:Nat} {ys:List α} (h:Ck P n ys) {i:Int} (h0:0≤i) (h1:i<(n:Int)):inB i (qn ys)=true:=by
 rw [qex,qr,h.len]; simp; omega
theorem Ck.get {α:Type} {P:α→Prop} {n:Nat} {ys:List α} (h:Ck P n ys) (d:α) {i:Int} (h0:0≤i) (h1:i<(n:Int)):P (qf ys i d):=by
 obtain ⟨k,rfl⟩:∃k:Nat,i=(k:Int):=⟨i.toNat,by omega⟩
 have hk:k<ys.length:=by rw [h.len]; omega
 rw [qX _ hk]
 exact h.all _ (List.getElem_mem hk)
theorem Ck.set {α:Type} {P:α→Prop} {n:Nat} {ys:List α} (h:Ck P n ys) (i:Int) {v:α} (hv:P v):Ck P n (qaM ys i v):=by
 rw [qcD]
 refine ⟨by rw [List.length_set]; exact h.len,fun x hx=> ?_⟩
 rcases List.mem_or_eq_of_mem_set hx with hx|rfl
 ·exact h.all x hx
 ·exact hv
theorem ltT {x y:Int} (h:x<y):ltI x y=true:=by rw [qcs]; exact decide_eq_true h
theorem ltF {x y:Int} (h:¬x<y):ltI x y=false:=by rw [qcs]; exact decide_eq_false h
theorem leT {x y:Int} (h:x≤y):leI x y=true:=by rw [qbd]; exact decide_eq_true h
theorem leF {x y:Int} (h:¬x≤y):leI x y=false:=by rw [qbd]; exact decide_eq_false h
theorem eqT {x y:Int} (h:x=y):eqI x y=true:=by rw [qb7]; exact decide_eq_true h
theorem eqF {x y:Int} (h:¬x=y):eqI x y=false:=by rw [qb7]; exact decide_eq_false h
theorem neT {x y:Int} (h:¬x=y):neI x y=true:=by rw [qaW]; simp [h]
theorem neF {x y:Int} (h:x=y):neI x y=false:=by rw [qaW]; simp [h]
theorem qkP {x y:Int} (hx:0≤x) (hy:0≤y) (h:x+y≤4398046511104):qcr .i64 (qjQ .u64 (qcr .u64 (qI .i64 x y)) 1)=(x+y) / 2:=by
 have e1:qI .i64 x y=x+y:=qas (by omega) (by omega)
 have e2:qcr .u64 (x+y)=x+y:=by rw [qd7,qq7]; omega
 have e3:qjQ .u64 (x+y) 1=(x+y) / 2:=by
  rw [qkx]
  have:(2:Int)^ (min (1:Int).toNat IntKind.u64.bits)=2:=by decide
  rw [this,Int.fdiv_eq_ediv_of_nonneg _ (by omega)]
 rw [e1,e2,e3,qqF (by omega) (by omega)]
section
variable {α:Type} {P:α→Prop} {n:Nat} (d:α) {φ ψ:(α×(α×Unit))→Option (Int×Unit)} {N:Nat}
theorem qqd (hφ:Alike P φ ψ) (hn:n≤1099511627776) (hN:n+1<N) {ys:List α} (h:Ck P n ys) {a b:Int} (ha:0≤a) (ha2:a≤(n:Int)) (hb:b≤(n:Int)):Res P n (qfA d N (ys,(a,(b,(φ,()))))) (qfA d N (ys,(a,(b,(ψ,()))))):=by
 simp only [qfA]
 have ea:qI .i64 a 1=a+1:=qas (by omega) (by omega)
 rw [ea]
 refine qcI (S:=List α×(Int×Unit)) (fun p=>(b - p.2.1).toNat) (fun p=>Ck P n p.1∧a+1≤p.2.1∧p.2.1≤(n:Int)+1) (Res P n) ?_ N _ ⟨h,by simp only; omega,by simp only; omega⟩ (by simp only; omega)
 rintro ih1 ih2 ⟨ys,i,⟨⟩⟩ ⟨h,hi,hi2⟩ hih
 simp only at h hi hi2 hih⊢
 by_cases hc:i<b
 ·simp only [ltT hc,cond_true]
  refine qcI (S:=List α×(Int×Unit)) (fun p=>(p.2.1 - a).toNat) (fun p=>Ck P n p.1∧a≤p.2.1∧p.2.1≤i) (Res P n) ?_ N _ ⟨h,by simp only; omega,by simp only; omega⟩ (by simp only; omega)
  rintro jh1 jh2 ⟨zs,j,⟨⟩⟩ ⟨hz,hj1,hj2⟩ hjh
  simp only at hz hj1 hj2 hjh⊢
  have ei:qI .i64 i 1=i+1:=qas (by omega) (by omega)
  by_cases hja:a<j
  ·have s1:qE .i64 j 1=j - 1:=qak (by omega) (by omega)
   obtain ⟨c,e,e1,e2,e3⟩:=hφ _ _ (hz.get d (i:=j) (by omega) (by omega)) (hz.get d (i:=j - 1) (by omega) (by omega))
   have b1:=hz.inB (i:=j) (by omega) (by omega)
   have b2:=hz.inB (i:=j - 1) (by omega) (by omega)
   have k1:=hz.set j (hz.get d (i:=j - 1) (by omega) (by omega))
   have b3:=k1.inB (i:=j - 1) (by omega) (by omega)
   have k2:=k1.set (j - 1) (hz.get d (i:=j) (by omega) (by omega))
   simp only [ltT hja,s1,b1,b2,e1,e2,qd,qg,Bool.not_true,Bool.false_or,Bool.and_self,cond_true,Bool.true_and]
   by_cases hc0:c<0
   ·simp only [ltT hc0,ltT (e3.1 hc0),b3,cond_true]
    exact hjh _ ⟨k2,by simp only; omega,by simp only; omega⟩ (by simp only; omega)
   ·simp only [ltF hc0,ltF (fun q=>hc0 (e3.2 q)),cond_false,ei]
    exact hih _ ⟨hz,by simp only; omega,by simp only; omega⟩ (by simp only; omega)
  ·simp only [ltF hja,Bool.not_false,Bool.true_or,Bool.and_self,cond_true,Bool.false_and,cond_false,ei]
   exact hih _ ⟨hz,by simp only; omega,by simp only; omega⟩ (by simp only; omega)
 ·simp only [ltF hc,cond_false]
  exact ⟨ys,h,rfl,rfl⟩
theorem qmH (hn:n≤1099511627776) (hN:n+1<N) {ys:List α} (h:Ck P n ys) {a b m:Int} (ha:0≤a) (hb:0≤b) (hm:0≤m) (ha2:a+m≤(n:Int)) (hb2:b+m≤(n:Int)):Res P n (qhE d N (ys,(a,(b,(m,(φ,())))))) (qhE d N (ys,(a,(b,(m,(ψ,())))))):=by
 simp only [qhE]
 refine qcI (S:=List α×(Int×Unit)) (fun p=>(m - p.2.1).toNat) (fun p=>Ck P n p.1∧0≤p.2.1) (Res P n) ?_ N _ ⟨h,by simp only; omega⟩ (by simp only; omega)
 rintro ih1 ih2 ⟨ys,i,⟨⟩⟩ ⟨h,hi⟩ hih
 simp only at h hi hih⊢
 by_cases hc:i<m
 ·have e1:qI .i64 a i=a+i:=qas (by omega) (by omega)
  have e2:qI .i64 b i=b+i:=qas (by omega) (by omega)
  have e3:qI .i64 i 1=i+1:=qas (by omega) (by omega)
  have b1:=h.inB (i:=a+i) (by omega) (by omega)
  have b2:=h.inB (i:=b+i) (by omega) (by omega)
  have k1:=h.set (a+i) (h.get d (i:=b+i) (by omega) (by omega))
  have b3:=k1.inB (i:=b+i) (by omega) (by omega)
  have k2:=k1.set (b+i) (h.get d (i:=a+i) (by omega) (by omega))
  simp only [ltT hc,e1,e2,e3,b1,b2,b3,Bool.and_self,cond_true]
  exact hih _ ⟨k2,by simp only; omega⟩ (by simp only; omega)
 ·simp only [ltF hc,cond_false]
  exact ⟨ys,h,rfl,rfl⟩
theorem qub (hn:n≤1099511627776) (hN:2 * n+1<N) {ys:List α} (h:Ck P n ys) {a m b:Int} (ha:0≤a) (h1:a<m) (h2:m<b) (hb:b≤(n:Int)):Res P n (qdV d N (ys,(a,(m,(b,(φ,())))))) (qdV d N (ys,(a,(m,(b,(ψ,())))))):=by
 have e1:qE .i64 m a=m - a:=qak (by omega) (by omega)
 have e2:qE .i64 b m=b - m:=qak (by omega) (by omega)
 simp only [qdV,qJ,e1,e2]
 refine qcI (S:=List α×(Int×(Int×Unit))) (fun p=>(p.2.1+p.2.2.1).toNat) (fun p=>Ck P n p.1∧1≤p.2.1∧p.2.1≤m - a∧1≤p.2.2.1∧p.2.2.1≤b - m) (Res P n) ?_ N _ ⟨h,by simp only; omega,by simp only; omega,by simp only; omega,by simp only; omega⟩ (by simp only; omega)
 rintro ih1 ih2 ⟨ys,i,j,⟨⟩⟩ ⟨h,hi,hi2,hj,hj2⟩ hih
 simp only at h hi hi2 hj hj2 hih⊢
 have s1:qE .i64 m i=m - i:=qak (by omega) (by omega)
 by_cases hc:i=j
 ·obtain ⟨out,k1,k2,k3⟩:=qmH (φ:=φ) (ψ:=ψ) d hn (by omega:n+1<N) h (a:=m - i) (b:=m) (m:=i) (by omega) (by omega) (by omega) (by omega) (by omega)
  simp only [neF hc,cond_false,s1,k2,k3,qd,qg,cond_true]
  exact ⟨out,k1,rfl,rfl⟩
 ·have s2:qI .i64 m j=m+j:=qas (by omega) (by omega)
  have s3:qE .i64 (m+j) i=m+j - i:=qak (by omega) (by omega)
  have s4:qE .i64 i j=i - j:=qak (by omega) (by omega)
  have s5:qE .i64 j i=j - i:=qak (by omega) (by omega)
  by_cases hq:j<i
  ·obtain ⟨out,k1,k2,k3⟩:=qmH (φ:=φ) (ψ:=ψ) d hn (by omega:n+1<N) h (a:=m - i) (b:=m) (m:=j) (by omega) (by omega) (by omega) (by omega) (by omega)
   simp only [neT hc,ltT hq,cond_true,s1,s4,k2,k3,qd,qg]
   exact hih _ ⟨k1,by simp only; omega,by simp only; omega,by simp only; omega,by simp only; omega⟩ (by simp only; omega)
  ·obtain ⟨out,k1,k2,k3⟩:=qmH (φ:=φ) (ψ:=ψ) d hn (by omega:n+1<N) h (a:=m - i) (b:=m+j - i) (m:=i) (by omega) (by omega) (by omega) (by omega) (by omega)
   simp only [neT hc,ltF hq,cond_true,cond_false,s1,s2,s3,s5,k2,k3,qd,qg]
   exact hih _ ⟨k1,by simp only; omega,by simp only; omega,by simp only; omega,by simp only; omega⟩ (by simp only; omega)
theorem qoh (hφ:Alike P φ ψ) (hn:n≤1099511627776) (hN:2 * n+1<N):∀(M:Nat) (ys:List α),Ck P n ys→∀(a m b:Int),0≤a→a<m→m<b→b≤(n:Int)→(b - a).toNat<M→Res P n (qf3 d N M (ys,(a,(m,(b,(φ,())))))) (qf3 d N M (ys,(a,(m,(b,(ψ,()))))))
 |0,_,_,_,_,_,_,_,_,_,h=>by omega
 |M+1,ys,h,a,m,b,ha,h1,h2,hb,hM=>by
  have ih:=qoh hφ hn hN M
  have unf:∀χ,qf3 d N (M+1) (ys,(a,(m,(b,(χ,())))))=qms d N (qf3 d N M) (ys,(a,(m,(b,(χ,()))))):=fun _=>rfl
  rw [unf,unf]
  have e1:qE .i64 m a=m - a:=qak (by omega) (by omega)
  have e2:qE .i64 b m=b - m:=qak (by omega) (by omega)
  have l01:leI 0 1=true:=leT (by omega)
  simp only [qms,qJ,e1,e2,l01,cond_true]
  by_cases q1:m - a=1
  ·simp only [eqT q1,cond_true]
   refine qcI (S:=List α×(Int×(Int×Unit))) (fun p=>(p.2.2.1 - p.2.1).toNat) (fun p=>Ck P n p.1∧m≤p.2.1∧p.2.1≤b∧p.2.2.1≤b) (Res P n) ?_ N _ ⟨h,by simp only; omega,by simp only; omega,by simp only; omega⟩ (by simp only; omega)
   rintro ih1 ih2 ⟨ys,i,j,⟨⟩⟩ ⟨h,hi,hi2,hj⟩ hih
   simp only at h hi hi2 hj hih⊢
   by_cases hc:i<j
   ·have em:=qkP (x:=i) (y:=j) (by omega) (by omega) (by omega)
    have em1:qI .i64 ((i+j) / 2) 1=(i+j) / 2+1:=qas (by omega) (by omega)
    obtain ⟨c,e,e3,e4,e5⟩:=hφ _ _ (h.get d (i:=(i+j) / 2) (by omega) (by omega)) (h.get d (i:=a) (by omega) (by omega))
    simp only [ltT hc,cond_true,em,em1,h.inB (i:=(i+j) / 2) (by omega) (by omega),h.inB (i:=a) (by omega) (by omega),e3,e4,qd,qg,Bool.and_self]
    by_cases hc0:c<0
    ·simp only [ltT hc0,ltT (e5.1 hc0),cond_true]
     exact hih _ ⟨h,by simp only; omega,by simp only; omega,by simp only; omega⟩ (by simp only; omega)
    ·simp only [ltF hc0,ltF (fun q=>hc0 (e5.2 q)),cond_false]
     exact hih _ ⟨h,by simp only; omega,by simp only; omega,by simp only; omega⟩ (by simp only; omega)
   ·simp only [ltF hc,cond_false]
    have ei:qE .i64 i 1=i - 1:=qak (by omega) (by omega)
    rw [ei]
    refine qcI (S:=List α×(Int×Unit)) (fun p=>(i - p.2.1).toNat) (fun p=>Ck P n p.1∧a≤p.2.1) (Res P n) ?_ N _ ⟨h,by simp only; omega⟩ (by simp only; omega)
    rintro jh1 jh2 ⟨zs,k,⟨⟩⟩ ⟨hz,hk⟩ hjh
    simp only at hz hk hjh⊢
    by_cases hk2:k<i - 1
    ·have s1:qI .i64 k 1=k+1:=qas (by omega) (by omega)
     have k1:=hz.set k (hz.get d (i:=k+1) (by omega) (by omega))
     have k2:=k1.set (k+1) (hz.get d (i:=k) (by omega) (by omega))
     simp only [ltT hk2,s1,hz.inB (i:=k) (by omega) (by omega),hz.inB (i:=k+1) (by omega) (by omega),k1.inB (i:=k+1) (by omega) (by omega),Bool.and_self,cond_true]
     exact hjh _ ⟨k2,by simp only; omega⟩ (by simp only; omega)
    ·simp only [ltF hk2,cond_false]
     exact ⟨zs,hz,rfl,rfl⟩
  simp only [eqF q1,cond_false]
  by_cases q2:b - m=1
  ·simp only [eqT q2,cond_true]
   refine qcI (S:=List α×(Int×(Int×Unit))) (fun p=>(p.2.2.1 - p.2.1).toNat) (fun p=>Ck P n p.1∧a≤p.2.1∧p.2.1≤m∧p.2.2.1≤m) (Res P n) ?_ N _ ⟨h,by simp only; omega,by simp only; omega,by simp only; omega⟩ (by simp only; omega)
   rintro ih1 ih2 ⟨ys,i,j,⟨⟩⟩ ⟨h,hi,hi2,hj⟩ hih
   simp only at h hi hi2 hj hih⊢
   by_cases hc:i<j
   ·have em:=qkP (x:=i) (y:=j) (by omega) (by omega) (by omega)
    have em1:qI .i64 ((i+j) / 2) 1=(i+j) / 2+1:=qas (by omega) (by omega)
    obtain ⟨c,e,e3,e4,e5⟩:=hφ _ _ (h.get d (i:=m) (by omega) (by omega)) (h.get d (i:=(i+j) / 2) (by omega) (by omega))
    simp only [ltT hc,cond_true,em,em1,h.inB (i:=(i+j) / 2) (by omega) (by omega),h.inB (i:=m) (by omega) (by omega),e3,e4,qd,qg,Bool.and_self]
    by_cases hc0:c<0
    ·simp only [ltT hc0,ltT (e5.1 hc0),Bool.not_true,cond_false]
     exact hih _ ⟨h,by simp only; omega,by simp only; omega,by simp only; omega⟩ (by simp only; omega)
    ·simp only [ltF hc0,ltF (fun q=>hc0 (e5.2 q)),Bool.not_false,cond_true]
     exact hih _ ⟨h,by simp only; omega,by simp only; omega,by simp only; omega⟩ (by simp only; omega)
   ·simp only [ltF hc,cond_false]
    refine qcI (S:=List α×(Int×Unit)) (fun p=>(p.2.1 - i).toNat) (fun p=>Ck P n p.1∧p.2.1≤m) (Res P n) ?_ N _ ⟨h,by simp only; omega⟩ (by simp only; omega)
    rintro jh1 jh2 ⟨zs,k,⟨⟩⟩ ⟨hz,hk⟩ hjh
    simp only at hz hk hjh⊢
    by_cases hk2:i<k
    ·have s1:qE .i64 k 1=k - 1:=qak (by omega) (by omega)
     have k1:=hz.set k (hz.get d (i:=k - 1) (by omega) (by omega))
     have k2:=k1.set (k - 1) (hz.get d (i:=k) (by omega) (by omega))
     simp only [ltT hk2,s1,hz.inB (i:=k) (by omega) (by omega),hz.inB (i:=k - 1) (by omega) (by omega),k1.inB (i:=k - 1) (by omega) (by omega),Bool.and_self,cond_true]
     exact hjh _ ⟨k2,by simp only; omega⟩ (by simp only; omega)
    ·simp only [ltF hk2,cond_false]
     exact ⟨zs,hz,rfl,rfl⟩
  simp only [eqF q2,cond_false]
  have em:=qkP (x:=a) (y:=b) (by omega) (by omega) (by omega)
  rw [em]
  generalize hmid:(a+b) / 2=mid
  have hm1:a<mid:=by omega
  have hm2:mid<b:=by omega
  have en:qI .i64 mid m=mid+m:=qas (by omega) (by omega)
  have en2:qE .i64 (mid+m) b=mid+m - b:=qak (by omega) (by omega)
  have en3:qE .i64 (mid+m) 1=mid+m - 1:=qak (by omega) (by omega)
  simp only [en,en2,en3]
  obtain ⟨st,r,hst,hr,g1,g2,g3,g4⟩:∃st r:Int,(bif ltI mid m then mid+m - b else a)=st∧(bif ltI mid m then mid else m)=r∧a≤st∧st≤r∧r≤mid∧r≤m∧mid+m - st≤b:=by
   by_cases hq:mid<m
   ·exact ⟨_,_,rfl,rfl,by rw [ltT hq]; simp only [cond_true]; omega⟩
   ·exact ⟨_,_,rfl,rfl,by rw [ltF hq]; simp only [cond_false]; omega⟩
  obtain ⟨g4,g5⟩:=g4
  simp only [hst,hr]
  refine qcI (S:=List α×(Int×(Int×Unit))) (fun p=>(p.2.2.1 - p.2.1).toNat) (fun p=>Ck P n p.1∧st≤p.2.1∧p.2.1≤r∧p.2.2.1≤r) (Res P n) ?_ N _ ⟨h,by simp only; omega,by simp only; omega,by simp only; omega⟩ (by simp only; omega)
  rintro ih1 ih2 ⟨ys,i,j,⟨⟩⟩ ⟨h,hi,hi2,hj⟩ hih
  simp only at h hi hi2 hj hih⊢
  by_cases hc:i<j
  ·have em:=qkP (x:=i) (y:=j) (by omega) (by omega) (by omega)
   have em1:qI .i64 ((i+j) / 2) 1=(i+j) / 2+1:=qas (by omega) (by omega)
   have em2:qE .i64 (mid+m - 1) ((i+j) / 2)=mid+m - 1 - (i+j) / 2:=qak (by omega) (by omega)
   obtain ⟨c,e,e3,e4,e5⟩:=hφ _ _ (h.get d (i:=mid+m - 1 - (i+j) / 2) (by omega) (by omega)) (h.get d (i:=(i+j) / 2) (by omega) (by omega))
   simp only [ltT hc,cond_true,em,em1,em2,h.inB (i:=mid+m - 1 - (i+j) / 2) (by omega) (by omega),h.inB (i:=(i+j) / 2) (by omega) (by omega),e3,e4,qd,qg,Bool.and_self]
   by_cases hc0:c<0
   ·simp only [ltT hc0,ltT (e5.1 hc0),Bool.not_true,cond_false]
    exact hih _ ⟨h,by simp only; omega,by simp only; omega,by simp only; omega⟩ (by simp only; omega)
   ·simp only [ltF hc0,ltF (fun q=>hc0 (e5.2 q)),Bool.not_false,cond_true]
    exact hih _ ⟨h,by simp only; omega,by simp only; omega,by simp only; omega⟩ (by simp only; omega)
  ·have ee:qE .i64 (mid+m) i=mid+m - i:=qak (by omega) (by omega)
   simp only [ltF hc,cond_false,ee]
   obtain ⟨zs,z1,z2,z3,z4⟩:∃zs,Ck P n zs∧(bif (ltI i m&&ltI m (mid+m - i)) then qu (qdV d N (ys,(i,(m,(mid+m - i,(φ,())))))) else true)=true∧(bif (ltI i m&&ltI m (mid+m - i)) then qu (qdV d N (ys,(i,(m,(mid+m - i,(ψ,())))))) else true)=true∧(bif (ltI i m&&ltI m (mid+m - i)) then (qh (qdV d N (ys,(i,(m,(mid+m - i,(φ,())))))) ((),(([]:List α),()))).2.1 else ys)=zs∧(bif (ltI i m&&ltI m (mid+m - i)) then (qh (qdV d N (ys,(i,(m,(mid+m - i,(ψ,())))))) ((),(([]:List α),()))).2.1 else ys)=zs:=by
    by_cases hq:i<m∧m<mid+m - i
    ·obtain ⟨out,k1,k2,k3⟩:=qub (φ:=φ) (ψ:=ψ) d hn hN h (a:=i) (m:=m) (b:=mid+m - i) (by omega) hq.1 hq.2 (by omega)
     exact ⟨out,k1,by simp only [ltT hq.1,ltT hq.2,Bool.and_self,cond_true,k2,k3,qd,qg,and_self]⟩
    ·have e:(ltI i m&&ltI m (mid+m - i))=false:=by
      by_cases hq1:i<m
      ·rw [ltF (fun hq2=>hq ⟨hq1,hq2⟩),Bool.and_false]
      ·rw [ltF hq1,Bool.false_and]
     exact ⟨ys,h,by simp only [e,cond_false,and_self]⟩
   obtain ⟨z4,z5⟩:=z4
   simp only [z2,z3,z4,z5,cond_true]
   obtain ⟨ws,w1,w2,w3,w4,w5⟩:∃ws,Ck P n ws∧(bif (ltI a i&&ltI i mid) then qu (qf3 d N M (zs,(a,(i,(mid,(φ,())))))) else true)=true∧(bif (ltI a i&&ltI i mid) then qu (qf3 d N M (zs,(a,(i,(mid,(ψ,())))))) else true)=true∧(bif (ltI a i&&ltI i mid) then (qh (qf3 d N M (zs,(a,(i,(mid,(φ,())))))) ((),(([]:List α),()))).2.1 else zs)=ws∧(bif (ltI a i&&ltI i mid) then (qh (qf3 d N M (zs,(a,(i,(mid,(ψ,())))))) ((),(([]:List α),()))).2.1 else zs)=ws:=by
    by_cases hq:a<i∧i<mid
    ·obtain ⟨out,k1,k2,k3⟩:=ih zs z1 a i mid ha hq.1 hq.2 (by omega) (by omega)
     exact ⟨out,k1,by simp only [ltT hq.1,ltT hq.2,Bool.and_self,cond_true,k2,k3,qd,qg,and_self]⟩
    ·have e:(ltI a i&&ltI i mid)=false:=by
      by_cases hq1:a<i
      ·rw [ltF (fun hq2=>hq ⟨hq1,hq2⟩),Bool.and_false]
      ·rw [ltF hq1,Bool.false_and]
     exact ⟨zs,z1,by simp only [e,cond_false,and_self]⟩
   simp only [w2,w3,w4,w5,cond_true]
   by_cases hq:mid<mid+m - i∧mid+m - i<b
   ·obtain ⟨out,k1,k2,k3⟩:=ih ws w1 mid (mid+m - i) b (by omega) hq.1 hq.2 hb (by omega)
    simp only [ltT hq.1,ltT hq.2,Bool.and_self,cond_true,k2,k3,qd,qg]
    exact ⟨out,k1,rfl,rfl⟩
   ·have e:(ltI mid (mid+m - i)&&ltI (mid+m - i) b)=false:=by
     by_cases hq1:mid<mid+m - i
     ·rw [ltF (fun hq2=>hq ⟨hq1,hq2⟩),Bool.and_false]
     ·rw [ltF hq1,Bool.false_and]
    simp only [e,cond_false,cond_true]
    exact ⟨ws,w1,rfl,rfl⟩
theorem qpt (hφ:Alike P φ ψ) (hn:n≤1099511627776) (hN:2 * n+1<N) {ys:List α} (h:Ck P n ys) {a m b:Int} (ha:0≤a) (h1:a<m) (h2:m<b) (hb:b≤(n:Int)):Res P n (qlz d N (ys,(a,(m,(b,(φ,())))))) (qlz d N (ys,(a,(m,(b,(ψ,())))))):=
 qoh d hφ hn hN N ys h a m b ha h1 h2 hb (by omega)
theorem que (hφ:Alike P φ ψ) (hn:n≤1099511627776) (hN:2 * n+100<N) {ys:List α} (h:Ck P n ys):Res P n (qlJ d N (ys,((n:Int),(φ,())))) (qlJ d N (ys,((n:Int),(ψ,())))):=by
 simp only [qlJ,qJ]
 refine qcI (S:=List α×(Int×(Int×Unit))) (fun p=>((n:Int)+20 - p.2.2.1).toNat) (fun p=>Ck P n p.1∧0≤p.2.1∧p.2.1≤(n:Int)∧p.2.2.1=p.2.1+20) (Res P n) ?_ N _ ⟨h,by simp only; omega,by simp only; omega,by simp only; omega⟩ (by simp only; omega)
 rintro ih1 ih2 ⟨ys,a,b,⟨⟩⟩ ⟨h,ha,ha2,hb⟩ hih
 simp only at h ha ha2 hb hih⊢
 by_cases hc:b≤(n:Int)
 ·obtain ⟨out,k1,k2,k3⟩:=qqd d hφ hn (by omega:n+1<N) h ha ha2 hc
  have e1:qI .i64 b 20=b+20:=qas (by omega) (by omega)
  simp only [leT hc,cond_true,k2,k3,qd,qg,e1]
  exact hih _ ⟨k1,by simp only; omega,by simp only; omega,by simp only⟩ (by simp only; omega)
 ·obtain ⟨out,k1,k2,k3⟩:=qqd d hφ hn (by omega:n+1<N) h ha ha2 (Int.le_refl (n:Int))
  simp only [leF hc,cond_false,k2,k3,qd,qg,cond_true]
  refine qcI (S:=List α×(Int×Unit)) (fun p=>((n:Int) - p.2.1).toNat) (fun p=>Ck P n p.1∧1≤p.2.1∧p.2.1≤2 * (n:Int)+20) (Res P n) ?_ N _ ⟨k1,by simp only; omega,by simp only; omega⟩ (by simp only; omega)
  rintro jh1 jh2 ⟨ys,s,⟨⟩⟩ ⟨h,hs,hs2⟩ hjh
  simp only at h hs hs2 hjh⊢
  by_cases hsn:s<(n:Int)
  ·have e1:qkw .i64 2 s=2 * s:=by rw [qdJ,qdm (by omega) (by omega)]
   have e2:qkw .i64 s 2=2 * s:=by rw [qdJ,qdm (by omega) (by omega)]; omega
   simp only [ltT hsn,cond_true,e1,e2]
   refine qcI (S:=List α×(Int×(Int×Unit))) (fun p=>((n:Int)+2 * s - p.2.2.1).toNat) (fun p=>Ck P n p.1∧0≤p.2.1∧p.2.1≤(n:Int)∧p.2.2.1=p.2.1+2 * s) (Res P n) ?_ N _ ⟨h,by simp only; omega,by simp only; omega,by simp only; omega⟩ (by simp only; omega)
   rintro kh1 kh2 ⟨ys,a,b,⟨⟩⟩ ⟨h,ha,ha2,hb⟩ hkh
   simp only at h ha ha2 hb hkh⊢
   have e3:qI .i64 a s=a+s:=qas (by omega) (by omega)
   by_cases hc:b≤(n:Int)
   ·obtain ⟨out,k1,k2,k3⟩:=qpt d hφ hn (by omega:2 * n+1<N) h (a:=a) (m:=a+s) (b:=b) ha (by omega) (by omega) hc
    have e4:qI .i64 b (2 * s)=b+2 * s:=qas (by omega) (by omega)
    simp only [leT hc,cond_true,e3,k2,k3,qd,qg,e4]
    exact hkh _ ⟨k1,by simp only; omega,by simp only; omega,by simp only⟩ (by simp only; omega)
   ·simp only [leF hc,cond_false,e3]
    by_cases hq:a+s<(n:Int)
    ·obtain ⟨out,k1,k2,k3⟩:=qpt d hφ hn (by omega:2 * n+1<N) h (a:=a) (m:=a+s) (b:=(n:Int)) ha (by omega) hq (Int.le_refl _)
     simp only [ltT hq,cond_true,k2,k3,qd,qg]
     exact hjh _ ⟨k1,by simp only; omega,by simp only; omega⟩ (by simp only; omega)
    ·simp only [ltF hq,cond_false,cond_true]
     exact hjh _ ⟨h,by simp only; omega,by simp only; omega⟩ (by simp only; omega)
  ·simp only [ltF hsn,cond_false]
   exact ⟨ys,h,rfl,rfl⟩
theorem qul (hφ:Alike P φ ψ) {ys:List α} (hn:ys.length≤1099511627776) (hN:2 * ys.length+100<N) (h:∀x∈ys,P x):∃out:List α,qkf d N (ys,(φ,()))=some ((),(out,()))∧qkf d N (ys,(ψ,()))=some ((),(out,()))∧out.length=ys.length∧∀x∈out,P x:=by
 obtain ⟨out,k1,k2,k3⟩:=que d hφ hn hN ⟨rfl,h⟩
 refine ⟨out,?_,?_,k1.len,k1.all⟩
 ·simp only [qkf,qr,k2,qd,qg,cond_true]
 ·simp only [qkf,qr,k3,qd,qg,cond_true]
end
end
end Go.Vi
set_option linter.unusedSimpArgs false
set_option linter.unusedVariables false
set_option maxRecDepth 100000
namespace Go.Vi
noncomputable section
def qnf {α:Type} (d:α) (N:Nat) (x:((List α)×(Int×(Int×(Int×(((α×(α×Unit))→(Option (Int×Unit)))×Unit)))))):(Option (Unit×((List α)×Unit))):=
 (qY (S:=((List α)×(Int×Unit))) (R:=(Unit×((List α)×Unit))) N (fun ih0=>(fun p1=>(qL (qI .i64 (qkw .i64 2 p1.2.1) 1) (fun y2=>(bif (leI x.2.2.1 y2) then (some ((),(p1.1,()))) else (bif (((!(ltI (qI .i64 y2 1) x.2.2.1))||(inB (qI .i64 x.2.2.2.1 y2) (qn p1.1)))&&(((!(ltI (qI .i64 y2 1) x.2.2.1))||(inB (qI .i64 (qI .i64 x.2.2.2.1 y2) 1) (qn p1.1)))&&((!(ltI (qI .i64 y2 1) x.2.2.1))||(qu (x.2.2.2.2.1 ((qf p1.1 (qI .i64 x.2.2.2.1 y2) d),((qf p1.1 (qI .i64 (qI .i64 x.2.2.2.1 y2) 1) d),()))))))) then (qL ((ltI (qI .i64 y2 1) x.2.2.1)&&(ltI (qh (x.2.2.2.2.1 ((qf p1.1 (qI .i64 x.2.2.2.1 y2) d),((qf p1.1 (qI .i64 (qI .i64 x.2.2.2.1 y2) 1) d),()))) (0,())).1 0)) (fun y3=>(qL (bif y3 then (qI .i64 y2 1) else y2) (fun y4=>(bif ((inB (qI .i64 x.2.2.2.1 p1.2.1) (qn p1.1))&&((inB (qI .i64 x.2.2.2.1 y4) (qn p1.1))&&(qu (x.2.2.2.2.1 ((qf p1.1 (qI .i64 x.2.2.2.1 p1.2.1) d),((qf p1.1 (qI .i64 x.2.2.2.1 y4) d),())))))) then (bif (!(ltI (qh (x.2.2.2.2.1 ((qf p1.1 (qI .i64 x.2.2.2.1 p1.2.1) d),((qf p1.1 (qI .i64 x.2.2.2.1 y4) d),()))) (0,())).1 0)) then (some ((),(p1.1,()))) else (bif ((inB (qI .i64 x.2.2.2.1 y4) (qn p1.1))&&((inB (qI .i64 x.2.2.2.1 p1.2.1) (qn p1.1))&&((inB (qI .i64 x.2.2.2.1 p1.2.1) (qn p1.1))&&(inB (qI .i64 x.2.2.2.1 y4) (qn (qaM p1.1 (qI .i64 x.2.2.2.1 p1.2.1) (qf p1.1 (qI .i64 x.2.2.2.1 y4) d))))))) then (ih0 ((qaM (qaM p1.1 (qI .i64 x.2.2.2.1 p1.2.1) (qf p1.1 (qI .i64 x.2.2.2.1 y4) d)) (qI .i64 x.2.2.2.1 y4) (qf p1.1 (qI .i64 x.2.2.2.1 p1.2.1) d)),(y4,()))) else none)) else none))))) else none)))))) (x.1,(x.2.1,())))
def qrV {α:Type} (d:α) (N:Nat) (x:((List α)×(Int×(Int×(((α×(α×Unit))→(Option (Int×Unit)))×Unit))))):(Option (Unit×((List α)×Unit))):=
 (qL (qE .i64 x.2.2.1 x.2.1) (fun y0=>(bif (neI 2 0) then (qY (S:=((List α)×(Int×Unit))) (R:=(Unit×((List α)×Unit))) N (fun ih1=>(fun p2=>(bif (leI 0 p2.2.1) then (bif (qu (qnf d N (p2.1,(p2.2.1,(y0,(x.2.1,(x.2.2.2.1,()))))))) then (ih1 ((qh (qnf d N (p2.1,(p2.2.1,(y0,(x.2.1,(x.2.2.2.1,())))))) ((),(([]:List α),()))).2.1,((qE .i64 p2.2.1 1),()))) else none) else (qY (S:=((List α)×(Int×Unit))) (R:=(Unit×((List α)×Unit))) N (fun ih3=>(fun p4=>(bif (leI 0 p4.2.1) then (bif ((inB (qI .i64 x.2.1 p4.2.1) (qn p4.1))&&((inB x.2.1 (qn p4.1))&&((inB x.2.1 (qn p4.1))&&(inB (qI .i64 x.2.1 p4.2.1) (qn (qaM p4.1 x.2.1 (qf p4.1 (qI .i64 x.2.1 p4.2.1) d))))))) then (bif (qu (qnf d N ((qaM (qaM p4.1 x.2.1 (qf p4.1 (qI .i64 x.2.1 p4.2.1) d)) (qI .i64 x.2.1 p4.2.1) (qf p4.1 x.2.1 d)),(0,(p4.2.1,(x.2.1,(x.2.2.2.1,()))))))) then (ih3 ((qh (qnf d N ((qaM (qaM p4.1 x.2.1 (qf p4.1 (qI .i64 x.2.1 p4.2.1) d)) (qI .i64 x.2.1 p4.2.1) (qf p4.1 x.2.1 d)),(0,(p4.2.1,(x.2.1,(x.2.2.2.1,())))))) ((),(([]:List α),()))).2.1,((qE .i64 p4.2.1 1),()))) else none) else none) else (some ((),(p4.1,())))))) (p2.1,((qE .i64 y0 1),())))))) (x.1,((qlL .i64 (qE .i64 y0 1) 2),()))) else none)))
def qbI {α:Type} (d:α) (N:Nat) (x:((List α)×(Int×(Int×(((α×(α×Unit))→(Option (Int×Unit)))×Unit))))):(Option (Unit×((List α)×Unit))):=
 (qY (S:=((List α)×(Int×(Int×Unit)))) (R:=(Unit×((List α)×Unit))) N (fun ih0=>(fun p1=>(bif (ltI p1.2.1 p1.2.2.1) then (bif ((inB p1.2.2.1 (qn p1.1))&&((inB p1.2.1 (qn p1.1))&&((inB p1.2.1 (qn p1.1))&&(inB p1.2.2.1 (qn (qaM p1.1 p1.2.1 (qf p1.1 p1.2.2.1 d))))))) then (qL (qI .i64 p1.2.1 1) (fun y2=>(ih0 ((qaM (qaM p1.1 p1.2.1 (qf p1.1 p1.2.2.1 d)) p1.2.2.1 (qf p1.1 p1.2.1 d)),(y2,((qE .i64 p1.2.2.1 1),())))))) else none) else (some ((),(p1.1,())))))) (x.1,(x.2.1,((qE .i64 x.2.2.1 1),()))))
def qit {α:Type} (d:α) (N:Nat) (x:((List α)×(Int×(Int×(Int×(((α×(α×Unit))→(Option (Int×Unit)))×Unit)))))):(Option ((Int×(Int×Unit))×((List α)×(Int×Unit)))):=
 (bif ((inB x.2.2.1 (qn x.1))&&((inB x.2.1 (qn x.1))&&(qu (x.2.2.2.2.1 ((qf x.1 x.2.2.1 d),((qf x.1 x.2.1 d),())))))) then (bif (ltI (qh (x.2.2.2.2.1 ((qf x.1 x.2.2.1 d),((qf x.1 x.2.1 d),()))) (0,())).1 0) then (some ((x.2.2.1,(x.2.1,())),(x.1,((qI .i64 x.2.2.2.1 1),())))) else (some ((x.2.1,(x.2.2.1,())),(x.1,(x.2.2.2.1,()))))) else none)
def qhM {α:Type} (d:α) (N:Nat) (x:((List α)×(Int×(Int×(Int×(Int×(((α×(α×Unit))→(Option (Int×Unit)))×Unit))))))):(Option ((Int×Unit)×((List α)×(Int×Unit)))):=
 (bif (qu (qit d N (x.1,(x.2.1,(x.2.2.1,(x.2.2.2.2.1,(x.2.2.2.2.2.1,()))))))) then (qL (qh (qit d N (x.1,(x.2.1,(x.2.2.1,(x.2.2.2.2.1,(x.2.2.2.2.2.1,())))))) ((0,(0,())),(([]:List α),(0,())))).2.1 (fun ys0=>(qL (qh (qit d N (x.1,(x.2.1,(x.2.2.1,(x.2.2.2.2.1,(x.2.2.2.2.2.1,())))))) ((0,(0,())),(([]:List α),(0,())))).1.1 (fun y1=>(qL (qh (qit d N (x.1,(x.2.1,(x.2.2.1,(x.2.2.2.2.1,(x.2.2.2.2.2.1,())))))) ((0,(0,())),(([]:List α),(0,())))).1.2.1 (fun y2=>(qL (qh (qit d N (x.1,(x.2.1,(x.2.2.1,(x.2.2.2.2.1,(x.2.2.2.2.2.1,())))))) ((0,(0,())),(([]:List α),(0,())))).2.2.1 (fun y3=>(bif (qu (qit d N (ys0,(y2,(x.2.2.2.1,(y3,(x.2.2.2.2.2.1,()))))))) then (qL (qh (qit d N (ys0,(y2,(x.2.2.2.1,(y3,(x.2.2.2.2.2.1,())))))) ((0,(0,())),(([]:List α),(0,())))).2.1 (fun ys4=>(qL (qh (qit d N (ys0,(y2,(x.2.2.2.1,(y3,(x.2.2.2.2.2.1,())))))) ((0,(0,())),(([]:List α),(0,())))).1.1 (fun y5=>(qL (qh (qit d N (ys0,(y2,(x.2.2.2.1,(y3,(x.2.2.2.2.2.1,())))))) ((0,(0,())),(([]:List α),(0,())))).1.2.1 (fun y6=>(qL (qh (qit d N (ys0,(y2,(x.2.2.2.1,(y3,(x.2.2.2.2.2.1,())))))) ((0,(0,())),(([]:List α),(0,())))).2.2.1 (fun y7=>(bif (qu (qit d N (ys4,(y1,(y5,(y7,(x.2.2.2.2.2.1,()))))))) then (qL (qh (qit d N (ys4,(y1,(y5,(y7,(x.2.2.2.2.2.1,())))))) ((0,(0,())),(([]:List α),(0,())))).2.1 (fun ys8=>(qL (qh (qit d N (ys4,(y1,(y5,(y7,(x.2.2.2.2.2.1,())))))) ((0,(0,())),(([]:List α),(0,())))).1.1 (fun y9=>(qL (qh (qit d N (ys4,(y1,(y5,(y7,(x.2.2.2.2.2.1,())))))) ((0,(0,())),(([]:List α),(0,())))).1.2.1 (fun y10=>(qL (qh (qit d N (ys4,(y1,(y5,(y7,(x.2.2.2.2.2.1,())))))) ((0,(0,())),(([]:List α),(0,())))).2.2.1 (fun y11=>(some ((y10,()),(ys8,(y11,())))))))))))) else none))))))))) else none))))))))) else none)
def qy {α:Type} (d:α) (N:Nat) (x:((List α)×(Int×(Int×(((α×(α×Unit))→(Option (Int×Unit)))×Unit))))):(Option ((Int×Unit)×((List α)×(Int×Unit)))):=
 (bif (qu (qhM d N (x.1,((qE .i64 x.2.1 1),(x.2.1,((qI .i64 x.2.1 1),(x.2.2.1,(x.2.2.2.1,())))))))) then (some (((qh (qhM d N (x.1,((qE .i64 x.2.1 1),(x.2.1,((qI .i64 x.2.1 1),(x.2.2.1,(x.2.2.2.1,()))))))) ((0,()),(([]:List α),(0,())))).1.1,()),((qh (qhM d N (x.1,((qE .i64 x.2.1 1),(x.2.1,((qI .i64 x.2.1 1),(x.2.2.1,(x.2.2.2.1,()))))))) ((0,()),(([]:List α),(0,())))).2.1,((qh (qhM d N (x.1,((qE .i64 x.2.1 1),(x.2.1,((qI .i64 x.2.1 1),(x.2.2.1,(x.2.2.2.1,()))))))) ((0,()),(([]:List α),(0,())))).2.2.1,())))) else none)
def qgq {α:Type} (d:α) (N:Nat) (x:((List α)×(Int×(Int×(((α×(α×Unit))→(Option (Int×Unit)))×Unit))))):(Option ((Int×(Int×Unit))×((List α)×Unit))):=
 (qL (qE .i64 x.2.2.1 x.2.1) (fun y0=>(bif (neI 4 0) then (qL (qI .i64 x.2.1 (qkw .i64 (qlL .i64 y0 4) 1)) (fun y1=>(bif (neI 4 0) then (qL (qI .i64 x.2.1 (qkw .i64 (qlL .i64 y0 4) 2)) (fun y2=>(bif (neI 4 0) then (qL (qI .i64 x.2.1 (qkw .i64 (qlL .i64 y0 4) 3)) (fun y3=>(bif (bif (leI 8 y0) then ((bif (leI 50 y0) then ((qu (qy d N (x.1,(y1,(0,(x.2.2.2.1,()))))))&&((qu (qy d N ((qh (qy d N (x.1,(y1,(0,(x.2.2.2.1,()))))) ((0,()),(([]:List α),(0,())))).2.1,(y2,((qh (qy d N (x.1,(y1,(0,(x.2.2.2.1,()))))) ((0,()),(([]:List α),(0,())))).2.2.1,(x.2.2.2.1,()))))))&&(qu (qy d N ((qh (qy d N ((qh (qy d N (x.1,(y1,(0,(x.2.2.2.1,()))))) ((0,()),(([]:List α),(0,())))).2.1,(y2,((qh (qy d N (x.1,(y1,(0,(x.2.2.2.1,()))))) ((0,()),(([]:List α),(0,())))).2.2.1,(x.2.2.2.1,()))))) ((0,()),(([]:List α),(0,())))).2.1,(y3,((qh (qy d N ((qh (qy d N (x.1,(y1,(0,(x.2.2.2.1,()))))) ((0,()),(([]:List α),(0,())))).2.1,(y2,((qh (qy d N (x.1,(y1,(0,(x.2.2.2.1,()))))) ((0,()),(([]:List α),(0,())))).2.2.1,(x.2.2.2.1,()))))) ((0,()),(([]:List α),(0,())))).2.2.1,(x.2.2.2.1,())))))))) else true)&&(qu (qhM d N ((bif (leI 50 y0) then (qh (qy d N ((qh (qy d N ((qh (qy d N (x.1,(y1,(0,(x.2.2.2.1,()))))) ((0,()),(([]:List α),(0,())))).2.1,(y2,((qh (qy d N (x.1,(y1,(0,(x.2.2.2.1,()))))) ((0,()),(([]:List α),(0,())))).2.2.1,(x.2.2.2.1,()))))) ((0,()),(([]:List α),(0,())))).2.1,(y3,((qh (qy d N ((qh (qy d N (x.1,(y1,(0,(x.2.2.2.1,()))))) ((0,()),(([]:List α),(0,())))).2.1,(y2,((qh (qy d N (x.1,(y1,(0,(x.2.2.2.1,()))))) ((0,()),(([]:List α),(0,())))).2.2.1,(x.2.2.2.1,()))))) ((0,()),(([]:List α),(0,())))).2.2.1,(x.2.2.2.1,()))))) ((0,()),(([]:List α),(0,())))).2.1 else x.1),((bif (leI 50 y0) then (qh (qy d N (x.1,(y1,(0,(x.2.2.2.1,()))))) ((0,()),(([]:List α),(0,())))).1.1 else y1),((bif (leI 50 y0) then (qh (qy d N ((qh (qy d N (x.1,(y1,(0,(x.2.2.2.1,()))))) ((0,()),(([]:List α),(0,())))).2.1,(y2,((qh (qy d N (x.1,(y1,(0,(x.2.2.2.1,()))))) ((0,()),(([]:List α),(0,())))).2.2.1,(x.2.2.2.1,()))))) ((0,()),(([]:List α),(0,())))).1.1 else y2),((bif (leI 50 y0) then (qh (qy d N ((qh (qy d N ((qh (qy d N (x.1,(y1,(0,(x.2.2.2.1,()))))) ((0,()),(([]:List α),(0,())))).2.1,(y2,((qh (qy d N (x.1,(y1,(0,(x.2.2.2.1,()))))) ((0,()),(([]:List α),(0,())))).2.2.1,(x.2.2.2.1,()))))) ((0,()),(([]:List α),(0,())))).2.1,(y3,((qh (qy d N ((qh (qy d N (x.1,(y1,(0,(x.2.2.2.1,()))))) ((0,()),(([]:List α),(0,())))).2.1,(y2,((qh (qy d N (x.1,(y1,(0,(x.2.2.2.1,()))))) ((0,()),(([]:List α),(0,())))).2.2.1,(x.2.2.2.1,()))))) ((0,()),(([]:List α),(0,())))).2.2.1,(x.2.2.2.1,()))))) ((0,()),(([]:List α),(0,())))).1.1 else y3),((bif (leI 50 y0) then (qh (qy d N ((qh (qy d N ((qh (qy d N (x.1,(y1,(0,(x.2.2.2.1,()))))) ((0,()),(([]:List α),(0,())))).2.1,(y2,((qh (qy d N (x.1,(y1,(0,(x.2.2.2.1,()))))) ((0,()),(([]:List α),(0,())))).2.2.1,(x.2.2.2.1,()))))) ((0,()),(([]:List α),(0,())))).2.1,(y3,((qh (qy d N ((qh (qy d N (x.1,(y1,(0,(x.2.2.2.1,()))))) ((0,()),(([]:List α),(0,())))).2.1,(y2,((qh (qy d N (x.1,(y1,(0,(x.2.2.2.1,()))))) ((0,()),(([]:List α),(0,())))).2.2.1,(x.2.2.2.1,()))))) ((0,()),(([]:List α),(0,())))).2.2.1,(x.2.2.2.1,()))))) ((0,()),(([]:List α),(0,())))).2.2.1 else 0),(x.2.2.2.1,()))))))))) else true) then (qL (bif (leI 8 y0) then (qh (qhM d N ((bif (leI 50 y0) then (qh (qy d N ((qh (qy d N ((qh (qy d N (x.1,(y1,(0,(x.2.2.2.1,()))))) ((0,()),(([]:List α),(0,())))).2.1,(y2,((qh (qy d N (x.1,(y1,(0,(x.2.2.2.1,()))))) ((0,()),(([]:List α),(0,())))).2.2.1,(x.2.2.2.1,()))))) ((0,()),(([]:List α),(0,())))).2.1,(y3,((qh (qy d N ((qh (qy d N (x.1,(y1,(0,(x.2.2.2.1,()))))) ((0,()),(([]:List α),(0,())))).2.1,(y2,((qh (qy d N (x.1,(y1,(0,(x.2.2.2.1,()))))) ((0,()),(([]:List α),(0,())))).2.2.1,(x.2.2.2.1,()))))) ((0,()),(([]:List α),(0,())))).2.2.1,(x.2.2.2.1,()))))) ((0,()),(([]:List α),(0,())))).2.1 else x.1),((bif (leI 50 y0) then (qh (qy d N (x.1,(y1,(0,(x.2.2.2.1,()))))) ((0,()),(([]:List α),(0,())))).1.1 else y1),((bif (leI 50 y0) then (qh (qy d N ((qh (qy d N (x.1,(y1,(0,(x.2.2.2.1,()))))) ((0,()),(([]:List α),(0,())))).2.1,(y2,((qh (qy d N (x.1,(y1,(0,(x.2.2.2.1,()))))) ((0,()),(([]:List α),(0,())))).2.2.1,(x.2.2.2.1,()))))) ((0,()),(([]:List α),(0,())))).1.1 else y2),((bif (leI 50 y0) then (qh (qy d N ((qh (qy d N ((qh (qy d N (x.1,(y1,(0,(x.2.2.2.1,()))))) ((0,()),(([]:List α),(0,())))).2.1,(y2,((qh (qy d N (x.1,(y1,(0,(x.2.2.2.1,()))))) ((0,()),(([]:List α),(0,())))).2.2.1,(x.2.2.2.1,()))))) ((0,()),(([]:List α),(0,())))).2.1,(y3,((qh (qy d N ((qh (qy d N (x.1,(y1,(0,(x.2.2.2.1,()))))) ((0,()),(([]:List α),(0,())))).2.1,(y2,((qh (qy d N (x.1,(y1,(0,(x.2.2.2.1,()))))) ((0,()),(([]:List α),(0,())))).2.2.1,(x.2.2.2.1,()))))) ((0,()),(([]:List α),(0,())))).2.2.1,(x.2.2.2.1,()))))) ((0,()),(([]:List α),(0,())))).1.1 else y3),((bif (leI 50 y0) then (qh (qy d N ((qh (qy d N ((qh (qy d N (x.1,(y1,(0,(x.2.2.2.1,()))))) ((0,()),(([]:List α),(0,())))).2.1,(y2,((qh (qy d N (x.1,(y1,(0,(x.2.2.2.1,()))))) ((0,()),(([]:List α),(0,())))).2.2.1,(x.2.2.2.1,()))))) ((0,()),(([]:List α),(0,())))).2.1,(y3,((qh (qy d N ((qh (qy d N (x.1,(y1,(0,(x.2.2.2.1,()))))) ((0,()),(([]:List α),(0,())))).2.1,(y2,((qh (qy d N (x.1,(y1,(0,(x.2.2.2.1,()))))) ((0,()),(([]:List α),(0,())))).2.2.1,(x.2.2.2.1,()))))) ((0,()),(([]:List α),(0,())))).2.2.1,(x.2.2.2.1,()))))) ((0,()),(([]:List α),(0,())))).2.2.1 else 0),(x.2.2.2.1,()))))))) ((0,()),(([]:List α),(0,())))).2.2.1 else 0) (fun y4=>(qL (bif (leI 8 y0) then (qh (qhM d N ((bif (leI 50 y0) then (qh (qy d N ((qh (qy d N ((qh (qy d N (x.1,(y1,(0,(x.2.2.2.1,()))))) ((0,()),(([]:List α),(0,())))).2.1,(y2,((qh (qy d N (x.1,(y1,(0,(x.2.2.2.1,()))))) ((0,()),(([]:List α),(0,())))).2.2.1,(x.2.2.2.1,()))))) ((0,()),(([]:List α),(0,())))).2.1,(y3,((qh (qy d N ((qh (qy d N (x.1,(y1,(0,(x.2.2.2.1,()))))) ((0,()),(([]:List α),(0,())))).2.1,(y2,((qh (qy d N (x.1,(y1,(0,(x.2.2.2.1,()))))) ((0,()),(([]:List α),(0,())))).2.2.1,(x.2.2.2.1,()))))) ((0,()),(([]:List α),(0,())))).2.2.1,(x.2.2.2.1,()))))) ((0,()),(([]:List α),(0,())))).2.1 else x.1),((bif (leI 50 y0) then (qh (qy d N (x.1,(y1,(0,(x.2.2.2.1,()))))) ((0,()),(([]:List α),(0,())))).1.1 else y1),((bif (leI 50 y0) then (qh (qy d N ((qh (qy d N (x.1,(y1,(0,(x.2.2.2.1,()))))) ((0,()),(([]:List α),(0,())))).2.1,(y2,((qh (qy d N (x.1,(y1,(0,(x.2.2.2.1,()))))) ((0,()),(([]:List α),(0,())))).2.2.1,(x.2.2.2.1,()))))) ((0,()),(([]:List α),(0,())))).1.1 else y2),((bif (leI 50 y0) then (qh (qy d N ((qh (qy d N ((qh (qy d N (x.1,(y1,(0,(x.2.2.2.1,()))))) ((0,()),(([]:List α),(0,())))).2.1,(y2,((qh (qy d N (x.1,(y1,(0,(x.2.2.2.1,()))))) ((0,()),(([]:List α),(0,())))).2.2.1,(x.2.2.2.1,()))))) ((0,()),(([]:List α),(0,())))).2.1,(y3,((qh (qy d N ((qh (qy d N (x.1,(y1,(0,(x.2.2.2.1,()))))) ((0,()),(([]:List α),(0,())))).2.1,(y2,((qh (qy d N (x.1,(y1,(0,(x.2.2.2.1,()))))) ((0,()),(([]:List α),(0,())))).2.2.1,(x.2.2.2.1,()))))) ((0,()),(([]:List α),(0,())))).2.2.1,(x.2.2.2.1,()))))) ((0,()),(([]:List α),(0,())))).1.1 else y3),((bif (leI 50 y0) then (qh (qy d N ((qh (qy d N ((qh (qy d N (x.1,(y1,(0,(x.2.2.2.1,()))))) ((0,()),(([]:List α),(0,())))).2.1,(y2,((qh (qy d N (x.1,(y1,(0,(x.2.2.2.1,()))))) ((0,()),(([]:List α),(0,())))).2.2.1,(x.2.2.2.1,()))))) ((0,()),(([]:List α),(0,())))).2.1,(y3,((qh (qy d N ((qh (qy d N (x.1,(y1,(0,(x.2.2.2.1,()))))) ((0,()),(([]:List α),(0,())))).2.1,(y2,((qh (qy d N (x.1,(y1,(0,(x.2.2.2.1,()))))) ((0,()),(([]:List α),(0,())))).2.2.1,(x.2.2.2.1,()))))) ((0,()),(([]:List α),(0,())))).2.2.1,(x.2.2.2.1,()))))) ((0,()),(([]:List α),(0,())))).2.2.1 else 0),(x.2.2.2.1,()))))))) ((0,()),(([]:List α),(0,())))).1.1 else y2) (fun y5=>(bif (eqI y4 0) then (some ((y5,(1,())),((bif (leI 8 y0) then (qh (qhM d N ((bif (leI 50 y0) then (qh (qy d N ((qh (qy d N ((qh (qy d N (x.1,(y1,(0,(x.2.2.2.1,()))))) ((0,()),(([]:List α),(0,())))).2.1,(y2,((qh (qy d N (x.1,(y1,(0,(x.2.2.2.1,()))))) ((0,()),(([]:List α),(0,())))).2.2.1,(x.2.2.2.1,()))))) ((0,()),(([]:List α),(0,())))).2.1,(y3,((qh (qy d N ((qh (qy d N (x.1,(y1,(0,(x.2.2.2.1,()))))) ((0,()),(([]:List α),(0,())))).2.1,(y2,((qh (qy d N (x.1,(y1,(0,(x.2.2.2.1,()))))) ((0,()),(([]:List α),(0,())))).2.2.1,(x.2.2.2.1,()))))) ((0,()),(([]:List α),(0,())))).2.2.1,(x.2.2.2.1,()))))) ((0,()),(([]:List α),(0,())))).2.1 else x.1),((bif (leI 50 y0) then (qh (qy d N (x.1,(y1,(0,(x.2.2.2.1,()))))) ((0,()),(([]:List α),(0,())))).1.1 else y1),((bif (leI 50 y0) then (qh (qy d N ((qh (qy d N (x.1,(y1,(0,(x.2.2.2.1,()))))) ((0,()),(([]:List α),(0,())))).2.1,(y2,((qh (qy d N (x.1,(y1,(0,(x.2.2.2.1,()))))) ((0,()),(([]:List α),(0,())))).2.2.1,(x.2.2.2.1,()))))) ((0,()),(([]:List α),(0,())))).1.1 else y2),((bif (leI 50 y0) then (qh (qy d N ((qh (qy d N ((qh (qy d N (x.1,(y1,(0,(x.2.2.2.1,()))))) ((0,()),(([]:List α),(0,())))).2.1,(y2,((qh (qy d N (x.1,(y1,(0,(x.2.2.2.1,()))))) ((0,()),(([]:List α),(0,())))).2.2.1,(x.2.2.2.1,()))))) ((0,()),(([]:List α),(0,())))).2.1,(y3,((qh (qy d N ((qh (qy d N (x.1,(y1,(0,(x.2.2.2.1,()))))) ((0,()),(([]:List α),(0,())))).2.1,(y2,((qh (qy d N (x.1,(y1,(0,(x.2.2.2.1,()))))) ((0,()),(([]:List α),(0,())))).2.2.1,(x.2.2.2.1,()))))) ((0,()),(([]:List α),(0,())))).2.2.1,(x.2.2.2.1,()))))) ((0,()),(([]:List α),(0,())))).1.1 else y3),((bif (leI 50 y0) then (qh (qy d N ((qh (qy d N ((qh (qy d N (x.1,(y1,(0,(x.2.2.2.1,()))))) ((0,()),(([]:List α),(0,())))).2.1,(y2,((qh (qy d N (x.1,(y1,(0,(x.2.2.2.1,()))))) ((0,()),(([]:List α),(0,())))).2.2.1,(x.2.2.2.1,()))))) ((0,()),(([]:List α),(0,())))).2.1,(y3,((qh (qy d N ((qh (qy d N (x.1,(y1,(0,(x.2.2.2.1,()))))) ((0,()),(([]:List α),(0,())))).2.1,(y2,((qh (qy d N (x.1,(y1,(0,(x.2.2.2.1,()))))) ((0,()),(([]:List α),(0,())))).2.2.1,(x.2.2.2.1,()))))) ((0,()),(([]:List α),(0,())))).2.2.1,(x.2.2.2.1,()))))) ((0,()),(([]:List α),(0,())))).2.2.1 else 0),(x.2.2.2.1,()))))))) ((0,()),(([]:List α),(0,())))).2.1 else x.1),()))) else (bif (eqI y4 12) then (some ((y5,(2,())),((bif (leI 8 y0) then (qh (qhM d N ((bif (leI 50 y0) then (qh (qy d N ((qh (qy d N ((qh (qy d N (x.1,(y1,(0,(x.2.2.2.1,()))))) ((0,()),(([]:List α),(0,())))).2.1,(y2,((qh (qy d N (x.1,(y1,(0,(x.2.2.2.1,()))))) ((0,()),(([]:List α),(0,())))).2.2.1,(x.2.2.2.1,()))))) ((0,()),(([]:List α),(0,())))).2.1,(y3,((qh (qy d N ((qh (qy d N (x.1,(y1,(0,(x.2.2.2.1,()))))) ((0,()),(([]:List α),(0,())))).2.1,(y2,((qh (qy d N (x.1,(y1,(0,(x.2.2.2.1,()))))) ((0,()),(([]:List α),(0,())))).2.2.1,(x.2.2.2.1,()))))) ((0,()),(([]:List α),(0,())))).2.2.1,(x.2.2.2.1,()))))) ((0,()),(([]:List α),(0,())))).2.1 else x.1),((bif (leI 50 y0) then (qh (qy d N (x.1,(y1,(0,(x.2.2.2.1,()))))) ((0,()),(([]:List α),(0,())))).1.1 else y1),((bif (leI 50 y0) then (qh (qy d N ((qh (qy d N (x.1,(y1,(0,(x.2.2.2.1,()))))) ((0,()),(([]:List α),(0,())))).2.1,(y2,((qh (qy d N (x.1,(y1,(0,(x.2.2.2.1,()))))) ((0,()),(([]:List α),(0,())))).2.2.1,(x.2.2.2.1,()))))) ((0,()),(([]:List α),(0,())))).1.1 else y2),((bif (leI 50 y0) then (qh (qy d N ((qh (qy d N ((qh (qy d N (x.1,(y1,(0,(x.2.2.2.1,()))))) ((0,()),(([]:List α),(0,())))).2.1,(y2,((qh (qy d N (x.1,(y1,(0,(x.2.2.2.1,()))))) ((0,()),(([]:List α),(0,())))).2.2.1,(x.2.2.2.1,()))))) ((0,()),(([]:List α),(0,())))).2.1,(y3,((qh (qy d N ((qh (qy d N (x.1,(y1,(0,(x.2.2.2.1,()))))) ((0,()),(([]:List α),(0,())))).2.1,(y2,((qh (qy d N (x.1,(y1,(0,(x.2.2.2.1,()))))) ((0,()),(([]:List α),(0,())))).2.2.1,(x.2.2.2.1,()))))) ((0,()),(([]:List α),(0,())))).2.2.1,(x.2.2.2.1,()))))) ((0,()),(([]:List α),(0,())))).1.1 else y3),((bif (leI 50 y0) then (qh (qy d N ((qh (qy d N ((qh (qy d N (x.1,(y1,(0,(x.2.2.2.1,()))))) ((0,()),(([]:List α),(0,())))).2.1,(y2,((qh (qy d N (x.1,(y1,(0,(x.2.2.2.1,()))))) ((0,()),(([]:List α),(0,())))).2.2.1,(x.2.2.2.1,()))))) ((0,()),(([]:List α),(0,())))).2.1,(y3,((qh (qy d N ((qh (qy d N (x.1,(y1,(0,(x.2.2.2.1,()))))) ((0,()),(([]:List α),(0,())))).2.1,(y2,((qh (qy d N (x.1,(y1,(0,(x.2.2.2.1,()))))) ((0,()),(([]:List α),(0,())))).2.2.1,(x.2.2.2.1,()))))) ((0,()),(([]:List α),(0,())))).2.2.1,(x.2.2.2.1,()))))) ((0,()),(([]:List α),(0,())))).2.2.1 else 0),(x.2.2.2.1,()))))))) ((0,()),(([]:List α),(0,())))).2.1 else x.1),()))) else (some ((y5,(0,())),((bif (leI 8 y0) then (qh (qhM d N ((bif (leI 50 y0) then (qh (qy d N ((qh (qy d N ((qh (qy d N (x.1,(y1,(0,(x.2.2.2.1,()))))) ((0,()),(([]:List α),(0,())))).2.1,(y2,((qh (qy d N (x.1,(y1,(0,(x.2.2.2.1,()))))) ((0,()),(([]:List α),(0,())))).2.2.1,(x.2.2.2.1,()))))) ((0,()),(([]:List α),(0,())))).2.1,(y3,((qh (qy d N ((qh (qy d N (x.1,(y1,(0,(x.2.2.2.1,()))))) ((0,()),(([]:List α),(0,())))).2.1,(y2,((qh (qy d N (x.1,(y1,(0,(x.2.2.2.1,()))))) ((0,()),(([]:List α),(0,())))).2.2.1,(x.2.2.2.1,()))))) ((0,()),(([]:List α),(0,())))).2.2.1,(x.2.2.2.1,()))))) ((0,()),(([]:List α),(0,())))).2.1 else x.1),((bif (leI 50 y0) then (qh (qy d N (x.1,(y1,(0,(x.2.2.2.1,()))))) ((0,()),(([]:List α),(0,())))).1.1 else y1),((bif (leI 50 y0) then (qh (qy d N ((qh (qy d N (x.1,(y1,(0,(x.2.2.2.1,()))))) ((0,()),(([]:List α),(0,())))).2.1,(y2,((qh (qy d N (x.1,(y1,(0,(x.2.2.2.1,()))))) ((0,()),(([]:List α),(0,())))).2.2.1,(x.2.2.2.1,()))))) ((0,()),(([]:List α),(0,())))).1.1 else y2),((bif (leI 50 y0) then (qh (qy d N ((qh (qy d N ((qh (qy d N (x.1,(y1,(0,(x.2.2.2.1,()))))) ((0,()),(([]:List α),(0,())))).2.1,(y2,((qh (qy d N (x.1,(y1,(0,(x.2.2.2.1,()))))) ((0,()),(([]:List α),(0,())))).2.2.1,(x.2.2.2.1,()))))) ((0,()),(([]:List α),(0,())))).2.1,(y3,((qh (qy d N ((qh (qy d N (x.1,(y1,(0,(x.2.2.2.1,()))))) ((0,()),(([]:List α),(0,())))).2.1,(y2,((qh (qy d N (x.1,(y1,(0,(x.2.2.2.1,()))))) ((0,()),(([]:List α),(0,())))).2.2.1,(x.2.2.2.1,()))))) ((0,()),(([]:List α),(0,())))).2.2.1,(x.2.2.2.1,()))))) ((0,()),(([]:List α),(0,())))).1.1 else y3),((bif (leI 50 y0) then (qh (qy d N ((qh (qy d N ((qh (qy d N (x.1,(y1,(0,(x.2.2.2.1,()))))) ((0,()),(([]:List α),(0,())))).2.1,(y2,((qh (qy d N (x.1,(y1,(0,(x.2.2.2.1,()))))) ((0,()),(([]:List α),(0,())))).2.2.1,(x.2.2.2.1,()))))) ((0,()),(([]:List α),(0,())))).2.1,(y3,((qh (qy d N ((qh (qy d N (x.1,(y1,(0,(x.2.2.2.1,()))))) ((0,()),(([]:List α),(0,())))).2.1,(y2,((qh (qy d N (x.1,(y1,(0,(x.2.2.2.1,()))))) ((0,()),(([]:List α),(0,())))).2.2.1,(x.2.2.2.1,()))))) ((0,()),(([]:List α),(0,())))).2.2.1,(x.2.2.2.1,()))))) ((0,()),(([]:List α),(0,())))).2.2.1 else 0),(x.2.2.2.1,()))))))) ((0,()),(([]:List α),(0,())))).2.1 else x.1),()))))))))) else none))) else none))) else none))) else none)))
def qcO {α:Type} (d:α) (N:Nat) (x:((List α)×(Int×(Int×(((α×(α×Unit))→(Option (Int×Unit)))×Unit))))):(Option ((Bool×Unit)×((List α)×Unit))):=
 (qL (qI .i64 x.2.1 1) (fun y0=>(qY (S:=((List α)×(Int×(Int×Unit)))) (R:=((Bool×Unit)×((List α)×Unit))) N (fun ih1=>(fun p2=>(bif (ltI p2.2.2.1 5) then (qY (S:=((List α)×(Int×Unit))) (R:=((Bool×Unit)×((List α)×Unit))) N (fun ih3=>(fun p4=>(bif (((!(ltI p4.2.1 x.2.2.1))||(inB p4.2.1 (qn p4.1)))&&(((!(ltI p4.2.1 x.2.2.1))||(inB (qE .i64 p4.2.1 1) (qn p4.1)))&&((!(ltI p4.2.1 x.2.2.1))||(qu (x.2.2.2.1 ((qf p4.1 p4.2.1 d),((qf p4.1 (qE .i64 p4.2.1 1) d),()))))))) then (bif ((ltI p4.2.1 x.2.2.1)&&(!(ltI (qh (x.2.2.2.1 ((qf p4.1 p4.2.1 d),((qf p4.1 (qE .i64 p4.2.1 1) d),()))) (0,())).1 0))) then (ih3 (p4.1,((qI .i64 p4.2.1 1),()))) else (bif (eqI p4.2.1 x.2.2.1) then (some ((true,()),(p4.1,()))) else (bif (ltI (qE .i64 x.2.2.1 x.2.1) 50) then (some ((false,()),(p4.1,()))) else (bif ((inB (qE .i64 p4.2.1 1) (qn p4.1))&&((inB p4.2.1 (qn p4.1))&&((inB p4.2.1 (qn p4.1))&&(inB (qE .i64 p4.2.1 1) (qn (qaM p4.1 p4.2.1 (qf p4.1 (qE .i64 p4.2.1 1) d))))))) then (bif (leI 2 (qE .i64 p4.2.1 x.2.1)) then (qY (S:=((List α)×(Int×Unit))) (R:=((Bool×Unit)×((List α)×Unit))) N (fun ih5=>(fun p6=>(bif (leI 1 p6.2.1) then (bif ((inB p6.2.1 (qn p6.1))&&((inB (qE .i64 p6.2.1 1) (qn p6.1))&&(qu (x.2.2.2.1 ((qf p6.1 p6.2.1 d),((qf p6.1 (qE .i64 p6.2.1 1) d),())))))) then (bif (!(ltI (qh (x.2.2.2.1 ((qf p6.1 p6.2.1 d),((qf p6.1 (qE .i64 p6.2.1 1) d),()))) (0,())).1 0)) then (bif (leI 2 (qE .i64 x.2.2.1 p4.2.1)) then (qY (S:=((List α)×(Int×Unit))) (R:=((Bool×Unit)×((List α)×Unit))) N (fun ih7=>(fun p8=>(bif (ltI p8.2.1 x.2.2.1) then (bif ((inB p8.2.1 (qn p8.1))&&((inB (qE .i64 p8.2.1 1) (qn p8.1))&&(qu (x.2.2.2.1 ((qf p8.1 p8.2.1 d),((qf p8.1 (qE .i64 p8.2.1 1) d),())))))) then (bif (!(ltI (qh (x.2.2.2.1 ((qf p8.1 p8.2.1 d),((qf p8.1 (qE .i64 p8.2.1 1) d),()))) (0,())).1 0)) then (ih1 (p8.1,(p4.2.1,((qI .i64 p2.2.2.1 1),())))) else (bif ((inB (qE .i64 p8.2.1 1) (qn p8.1))&&((inB p8.2.1 (qn p8.1))&&((inB p8.2.1 (qn p8.1))&&(inB (qE .i64 p8.2.1 1) (qn (qaM p8.1 p8.2.1 (qf p8.1 (qE .i64 p8.2.1 1) d))))))) then (ih7 ((qaM (qaM p8.1 p8.2.1 (qf p8.1 (qE .i64 p8.2.1 1) d)) (qE .i64 p8.2.1 1) (qf p8.1 p8.2.1 d)),((qI .i64 p8.2.1 1),()))) else none)) else none) else (ih1 (p8.1,(p4.2.1,((qI .i64 p2.2.2.1 1),()))))))) (p6.1,((qI .i64 p4.2.1 1),()))) else (ih1 (p6.1,(p4.2.1,((qI .i64 p2.2.2.1 1),()))))) else (bif ((inB (qE .i64 p6.2.1 1) (qn p6.1))&&((inB p6.2.1 (qn p6.1))&&((inB p6.2.1 (qn p6.1))&&(inB (qE .i64 p6.2.1 1) (qn (qaM p6.1 p6.2.1 (qf p6.1 (qE .i64 p6.2.1 1) d))))))) then (ih5 ((qaM (qaM p6.1 p6.2.1 (qf p6.1 (qE .i64 p6.2.1 1) d)) (qE .i64 p6.2.1 1) (qf p6.1 p6.2.1 d)),((qE .i64 p6.2.1 1),()))) else none)) else none) else (bif (leI 2 (qE .i64 x.2.2.1 p4.2.1)) then (qY (S:=((List α)×(Int×Unit))) (R:=((Bool×Unit)×((List α)×Unit))) N (fun ih7=>(fun p8=>(bif (ltI p8.2.1 x.2.2.1) then (bif ((inB p8.2.1 (qn p8.1))&&((inB (qE .i64 p8.2.1 1) (qn p8.1))&&(qu (x.2.2.2.1 ((qf p8.1 p8.2.1 d),((qf p8.1 (qE .i64 p8.2.1 1) d),())))))) then (bif (!(ltI (qh (x.2.2.2.1 ((qf p8.1 p8.2.1 d),((qf p8.1 (qE .i64 p8.2.1 1) d),()))) (0,())).1 0)) then (ih1 (p8.1,(p4.2.1,((qI .i64 p2.2.2.1 1),())))) else (bif ((inB (qE .i64 p8.2.1 1) (qn p8.1))&&((inB p8.2.1 (qn p8.1))&&((inB p8.2.1 (qn p8.1))&&(inB (qE .i64 p8.2.1 1) (qn (qaM p8.1 p8.2.1 (qf p8.1 (qE .i64 p8.2.1 1) d))))))) then (ih7 ((qaM (qaM p8.1 p8.2.1 (qf p8.1 (qE .i64 p8.2.1 1) d)) (qE .i64 p8.2.1 1) (qf p8.1 p8.2.1 d)),((qI .i64 p8.2.1 1),()))) else none)) else none) else (ih1 (p8.1,(p4.2.1,((qI .i64 p2.2.2.1 1),()))))))) (p6.1,((qI .i64 p4.2.1 1),()))) else (ih1 (p6.1,(p4.2.1,((qI .i64 p2.2.2.1 1),())))))))) ((qaM (qaM p4.1 p4.2.1 (qf p4.1 (qE .i64 p4.2.1 1) d)) (qE .i64 p4.2.1 1) (qf p4.1 p4.2.1 d)),((qE .i64 p4.2.1 1),()))) else (bif (leI 2 (qE .i64 x.2.2.1 p4.2.1)) then (qY (S:=((List α)×(Int×Unit))) (R:=((Bool×Unit)×((List α)×Unit))) N (fun ih5=>(fun p6=>(bif (ltI p6.2.1 x.2.2.1) then (bif ((inB p6.2.1 (qn p6.1))&&((inB (qE .i64 p6.2.1 1) (qn p6.1))&&(qu (x.2.2.2.1 ((qf p6.1 p6.2.1 d),((qf p6.1 (qE .i64 p6.2.1 1) d),())))))) then (bif (!(ltI (qh (x.2.2.2.1 ((qf p6.1 p6.2.1 d),((qf p6.1 (qE .i64 p6.2.1 1) d),()))) (0,())).1 0)) then (ih1 (p6.1,(p4.2.1,((qI .i64 p2.2.2.1 1),())))) else (bif ((inB (qE .i64 p6.2.1 1) (qn p6.1))&&((inB p6.2.1 (qn p6.1))&&((inB p6.2.1 (qn p6.1))&&(inB (qE .i64 p6.2.1 1) (qn (qaM p6.1 p6.2.1 (qf p6.1 (qE .i64 p6.2.1 1) d))))))) then (ih5 ((qaM (qaM p6.1 p6.2.1 (qf p6.1 (qE .i64 p6.2.1 1) d)) (qE .i64 p6.2.1 1) (qf p6.1 p6.2.1 d)),((qI .i64 p6.2.1 1),()))) else none)) else none) else (ih1 (p6.1,(p4.2.1,((qI .i64 p2.2.2.1 1),()))))))) ((qaM (qaM p4.1 p4.2.1 (qf p4.1 (qE .i64 p4.2.1 1) d)) (qE .i64 p4.2.1 1) (qf p4.1 p4.2.1 d)),((qI .i64 p4.2.1 1),()))) else (ih1 ((qaM (qaM p4.1 p4.2.1 (qf p4.1 (qE .i64 p4.2.1 1) d)) (qE .i64 p4.2.1 1) (qf p4.1 p4.2.1 d)),(p4.2.1,((qI .i64 p2.2.2.1 1),())))))) else none)))) else none))) (p2.1,(p2.2.1,()))) else (some ((false,()),(p2.1,())))))) (x.1,(y0,(0,()))))))
def qh8 {α:Type} (d:α) (N:Nat) (x:((List α)×(Int×(Int×(Int×(((α×(α×Unit))→(Option (Int×Unit)))×Unit)))))):(Option ((Int×Unit)×((List α)×Unit))):=
 (bif ((inB x.2.2.2.1 (qn x.1))&&((inB x.2.1 (qn x.1))&&((inB x.2.1 (qn x.1))&&(inB x.2.2.2.1 (qn (qaM x.1 x.2.1 (qf x.1 x.2.2.2.1 d))))))) then (qY (S:=((List α)×(Int×(Int×Unit)))) (R:=((Int×Unit)×((List α)×Unit))) N (fun ih0=>(fun p1=>(qY (S:=((List α)×(Int×(Int×Unit)))) (R:=((Int×Unit)×((List α)×Unit))) N (fun ih2=>(fun p3=>(bif (((!(leI p3.2.1 p3.2.2.1))||(inB x.2.1 (qn p3.1)))&&(((!(leI p3.2.1 p3.2.2.1))||(inB p3.2.1 (qn p3.1)))&&((!(leI p3.2.1 p3.2.2.1))||(qu (x.2.2.2.2.1 ((qf p3.1 x.2.1 d),((qf p3.1 p3.2.1 d),()))))))) then (bif ((leI p3.2.1 p3.2.2.1)&&(!(ltI (qh (x.2.2.2.2.1 ((qf p3.1 x.2.1 d),((qf p3.1 p3.2.1 d),()))) (0,())).1 0))) then (ih2 (p3.1,((qI .i64 p3.2.1 1),(p3.2.2.1,())))) else (qY (S:=((List α)×(Int×Unit))) (R:=((Int×Unit)×((List α)×Unit))) N (fun ih4=>(fun p5=>(bif (((!(leI p3.2.1 p5.2.1))||(inB x.2.1 (qn p5.1)))&&(((!(leI p3.2.1 p5.2.1))||(inB p5.2.1 (qn p5.1)))&&((!(leI p3.2.1 p5.2.1))||(qu (x.2.2.2.2.1 ((qf p5.1 x.2.1 d),((qf p5.1 p5.2.1 d),()))))))) then (bif ((leI p3.2.1 p5.2.1)&&(ltI (qh (x.2.2.2.2.1 ((qf p5.1 x.2.1 d),((qf p5.1 p5.2.1 d),()))) (0,())).1 0)) then (ih4 (p5.1,((qE .i64 p5.2.1 1),()))) else (bif (ltI p5.2.1 p3.2.1) then (some ((p3.2.1,()),(p5.1,()))) else (bif ((inB p5.2.1 (qn p5.1))&&((inB p3.2.1 (qn p5.1))&&((inB p3.2.1 (qn p5.1))&&(inB p5.2.1 (qn (qaM p5.1 p3.2.1 (qf p5.1 p5.2.1 d))))))) then (qL (qI .i64 p3.2.1 1) (fun y6=>(ih0 ((qaM (qaM p5.1 p3.2.1 (qf p5.1 p5.2.1 d)) p5.2.1 (qf p5.1 p3.2.1 d)),(y6,((qE .i64 p5.2.1 1),())))))) else none))) else none))) (p3.1,(p3.2.2.1,())))) else none))) (p1.1,(p1.2.1,(p1.2.2.1,())))))) ((qaM (qaM x.1 x.2.1 (qf x.1 x.2.2.2.1 d)) x.2.2.2.1 (qf x.1 x.2.1 d)),((qI .i64 x.2.1 1),((qE .i64 x.2.2.1 1),())))) else none)
def qgv {α:Type} (d:α) (N:Nat) (x:((List α)×(Int×(Int×(Int×(((α×(α×Unit))→(Option (Int×Unit)))×Unit)))))):(Option ((Int×(Bool×Unit))×((List α)×Unit))):=
 (bif ((inB x.2.2.2.1 (qn x.1))&&((inB x.2.1 (qn x.1))&&((inB x.2.1 (qn x.1))&&(inB x.2.2.2.1 (qn (qaM x.1 x.2.1 (qf x.1 x.2.2.2.1 d))))))) then (qY (S:=((List α)×(Int×Unit))) (R:=((Int×(Bool×Unit))×((List α)×Unit))) N (fun ih0=>(fun p1=>(bif (((!(leI p1.2.1 (qE .i64 x.2.2.1 1)))||(inB p1.2.1 (qn p1.1)))&&(((!(leI p1.2.1 (qE .i64 x.2.2.1 1)))||(inB x.2.1 (qn p1.1)))&&((!(leI p1.2.1 (qE .i64 x.2.2.1 1)))||(qu (x.2.2.2.2.1 ((qf p1.1 p1.2.1 d),((qf p1.1 x.2.1 d),()))))))) then (bif ((leI p1.2.1 (qE .i64 x.2.2.1 1))&&(ltI (qh (x.2.2.2.2.1 ((qf p1.1 p1.2.1 d),((qf p1.1 x.2.1 d),()))) (0,())).1 0)) then (ih0 (p1.1,((qI .i64 p1.2.1 1),()))) else (qY (S:=((List α)×(Int×Unit))) (R:=((Int×(Bool×Unit))×((List α)×Unit))) N (fun ih2=>(fun p3=>(bif (((!(leI p1.2.1 p3.2.1))||(inB p3.2.1 (qn p3.1)))&&(((!(leI p1.2.1 p3.2.1))||(inB x.2.1 (qn p3.1)))&&((!(leI p1.2.1 p3.2.1))||(qu (x.2.2.2.2.1 ((qf p3.1 p3.2.1 d),((qf p3.1 x.2.1 d),()))))))) then (bif ((leI p1.2.1 p3.2.1)&&(!(ltI (qh (x.2.2.2.2.1 ((qf p3.1 p3.2.1 d),((qf p3.1 x.2.1 d),()))) (0,())).1 0))) then (ih2 (p3.1,((qE .i64 p3.2.1 1),()))) else (bif (ltI p3.2.1 p1.2.1) then (bif ((inB x.2.1 (qn p3.1))&&((inB p3.2.1 (qn p3.1))&&((inB p3.2.1 (qn p3.1))&&(inB x.2.1 (qn (qaM p3.1 p3.2.1 (qf p3.1 x.2.1 d))))))) then (some ((p3.2.1,(true,())),((qaM (qaM p3.1 p3.2.1 (qf p3.1 x.2.1 d)) x.2.1 (qf p3.1 p3.2.1 d)),()))) else none) else (bif ((inB p3.2.1 (qn p3.1))&&((inB p1.2.1 (qn p3.1))&&((inB p1.2.1 (qn p3.1))&&(inB p3.2.1 (qn (qaM p3.1 p1.2.1 (qf p3.1 p3.2.1 d))))))) then (qL (qI .i64 p1.2.1 1) (fun y4=>(qY (S:=((List α)×(Int×(Int×Unit)))) (R:=((Int×(Bool×Unit))×((List α)×Unit))) N (fun ih5=>(fun p6=>(qY (S:=((List α)×(Int×(Int×Unit)))) (R:=((Int×(Bool×Unit))×((List α)×Unit))) N (fun ih7=>(fun p8=>(bif (((!(leI p8.2.1 p8.2.2.1))||(inB p8.2.1 (qn p8.1)))&&(((!(leI p8.2.1 p8.2.2.1))||(inB x.2.1 (qn p8.1)))&&((!(leI p8.2.1 p8.2.2.1))||(qu (x.2.2.2.2.1 ((qf p8.1 p8.2.1 d),((qf p8.1 x.2.1 d),()))))))) then (bif ((leI p8.2.1 p8.2.2.1)&&(ltI (qh (x.2.2.2.2.1 ((qf p8.1 p8.2.1 d),((qf p8.1 x.2.1 d),()))) (0,())).1 0)) then (ih7 (p8.1,((qI .i64 p8.2.1 1),(p8.2.2.1,())))) else (qY (S:=((List α)×(Int×Unit))) (R:=((Int×(Bool×Unit))×((List α)×Unit))) N (fun ih9=>(fun p10=>(bif (((!(leI p8.2.1 p10.2.1))||(inB p10.2.1 (qn p10.1)))&&(((!(leI p8.2.1 p10.2.1))||(inB x.2.1 (qn p10.1)))&&((!(leI p8.2.1 p10.2.1))||(qu (x.2.2.2.2.1 ((qf p10.1 p10.2.1 d),((qf p10.1 x.2.1 d),()))))))) then (bif ((leI p8.2.1 p10.2.1)&&(!(ltI (qh (x.2.2.2.2.1 ((qf p10.1 p10.2.1 d),((qf p10.1 x.2.1 d),()))) (0,())).1 0))) then (ih9 (p10.1,((qE .i64 p10.2.1 1),()))) else (bif (ltI p10.2.1 p8.2.1) then (bif ((inB x.2.1 (qn p10.1))&&((inB p10.2.1 (qn p10.1))&&((inB p10.2.1 (qn p10.1))&&(inB x.2.1 (qn (qaM p10.1 p10.2.1 (qf p10.1 x.2.1 d))))))) then (some ((p10.2.1,(false,())),((qaM (qaM p10.1 p10.2.1 (qf p10.1 x.2.1 d)) x.2.1 (qf p10.1 p10.2.1 d)),()))) else none) else (bif ((inB p10.2.1 (qn p10.1))&&((inB p8.2.1 (qn p10.1))&&((inB p8.2.1 (qn p10.1))&&(inB p10.2.1 (qn (qaM p10.1 p8.2.1 (qf p10.1 p10.2.1 d))))))) then (qL (qI .i64 p8.2.1 1) (fun y11=>(ih5 ((qaM (qaM p10.1 p8.2.1 (qf p10.1 p10.2.1 d)) p10.2.1 (qf p10.1 p8.2.1 d)),(y11,((qE .i64 p10.2.1 1),())))))) else none))) else none))) (p8.1,(p8.2.2.1,())))) else none))) (p6.1,(p6.2.1,(p6.2.2.1,())))))) ((qaM (qaM p3.1 p1.2.1 (qf p3.1 p3.2.1 d)) p3.2.1 (qf p3.1 p1.2.1 d)),(y4,((qE .i64 p3.2.1 1),())))))) else none))) else none))) (p1.1,((qE .i64 x.2.2.1 1),())))) else none))) ((qaM (qaM x.1 x.2.1 (qf x.1 x.2.2.2.1 d)) x.2.2.2.1 (qf x.1 x.2.1 d)),((qI .i64 x.2.1 1),()))) else none)
def qpI (x:(Int×Unit)):(Option ((Int×Unit)×(Int×Unit))):=
 (bif (leI 0 13) then (bif (leI 0 7) then (bif (leI 0 17) then (some (((qi0 .u64 (qi0 .u64 (qi0 .u64 x.1 (qkR .u64 x.1 13)) (qjQ .u64 (qi0 .u64 x.1 (qkR .u64 x.1 13)) 7)) (qkR .u64 (qi0 .u64 (qi0 .u64 x.1 (qkR .u64 x.1 13)) (qjQ .u64 (qi0 .u64 x.1 (qkR .u64 x.1 13)) 7)) 17)),()),((qi0 .u64 (qi0 .u64 (qi0 .u64 x.1 (qkR .u64 x.1 13)) (qjQ .u64 (qi0 .u64 x.1 (qkR .u64 x.1 13)) 7)) (qkR .u64 (qi0 .u64 (qi0 .u64 x.1 (qkR .u64 x.1 13)) (qjQ .u64 (qi0 .u64 x.1 (qkR .u64 x.1 13)) 7)) 17)),()))) else none) else none) else none)
def qrq (L:(Int×Unit)→Option ((Int×Unit)×Unit)) (x:(Int×Unit)):(Option ((Int×Unit)×Unit)):=
 (bif ((qu (L ((qcr .u64 x.1),())))&&(leI 0 (qh (L ((qcr .u64 x.1),())) ((0,()),())).1.1)) then (some (((qkR .u64 1 (qh (L ((qcr .u64 x.1),())) ((0,()),())).1.1),()),())) else none)
def qhI {α:Type} (d:α) (N:Nat) (L:(Int×Unit)→Option ((Int×Unit)×Unit)) (x:((List α)×(Int×(Int×(((α×(α×Unit))→(Option (Int×Unit)))×Unit))))):(Option (Unit×((List α)×Unit))):=
 (qL (qE .i64 x.2.2.1 x.2.1) (fun y0=>(bif (leI 8 y0) then (bif (qu ((qrq L) (y0,()))) then (qL y0 (fun y1=>(qL (qh ((qrq L) (y0,())) ((0,()),())).1.1 (fun y2=>(bif (neI 4 0) then (qY (S:=((List α)×(Int×(Int×Unit)))) (R:=(Unit×((List α)×Unit))) N (fun ih3=>(fun p4=>(bif (neI 4 0) then (bif (leI p4.2.2.1 (qI .i64 (qI .i64 x.2.1 (qkw .i64 (qlL .i64 y1 4) 2)) 1)) then (bif (qu (qpI (p4.2.1,()))) then (qL (qh (qpI (p4.2.1,())) ((0,()),(0,()))).2.1 (fun y5=>(qL (qcr .i64 (quD .u64 (qh (qpI (p4.2.1,())) ((0,()),(0,()))).1.1 (qE .u64 y2 1))) (fun y6=>(qL y5 (fun y7=>(qL (bif (leI y1 y6) then (qE .i64 y6 y1) else y6) (fun y8=>(bif ((inB (qI .i64 x.2.1 y8) (qn p4.1))&&((inB p4.2.2.1 (qn p4.1))&&((inB p4.2.2.1 (qn p4.1))&&(inB (qI .i64 x.2.1 y8) (qn (qaM p4.1 p4.2.2.1 (qf p4.1 (qI .i64 x.2.1 y8) d))))))) then (ih3 ((qaM (qaM p4.1 p4.2.2.1 (qf p4.1 (qI .i64 x.2.1 y8) d)) (qI .i64 x.2.1 y8) (qf p4.1 p4.2.2.1 d)),(y7,((qI .i64 p4.2.2.1 1),())))) else none))))))))) else none) else (some ((),(p4.1,())))) else none))) (x.1,((qcr .u64 y0),((qE .i64 (qI .i64 x.2.1 (qkw .i64 (qlL .i64 y1 4) 2)) 1),())))) else none))))) else none) else (some ((),(x.1,()))))))
def pdqS {α:Type} (d:α) (N:Nat) (L:(Int×Unit)→Option ((Int×Unit)×Unit)) (Fs:((List α)×(Int×(Int×(Int×(((α×(α×Unit))→(Option (Int×Unit)))×Unit)))))→(Option (Unit×((List α)×Unit)))) (x:((List α)×(Int×(Int×(Int×(((α×(α×Unit))→(Option (Int×Unit)))×Unit)))))):(Option (Unit×((List α)×Unit))):=
 (qY (S:=((List α)×(Int×(Int×(Int×(Bool×(Bool×Unit))))))) (R:=(Unit×((List α)×Unit))) N (fun ih0=>(fun p1=>(qL (qE .i64 p1.2.2.1 p1.2.1) (fun y2=>(bif (leI y2 12) then (bif (qu (qfA d N (p1.1,(p1.2.1,(p1.2.2.1,(x.2.2.2.2.1,())))))) then (some ((),((qh (qfA d N (p1.1,(p1.2.1,(p1.2.2.1,(x.2.2.2.2.1,()))))) ((),(([]:List α),()))).2.1,()))) else none) else (bif (eqI p1.2.2.2.1 0) then (bif (qu (qrV d N (p1.1,(p1.2.1,(p1.2.2.1,(x.2.2.2.2.1,())))))) then (some ((),((qh (qrV d N (p1.1,(p1.2.1,(p1.2.2.1,(x.2.2.2.2.1,()))))) ((),(([]:List α),()))).2.1,()))) else none) else (bif (bif (!p1.2.2.2.2.1) then (qu (qhI d N L (p1.1,(p1.2.1,(p1.2.2.1,(x.2.2.2.2.1,())))))) else true) then (qL (bif (!p1.2.2.2.2.1) then (qE .i64 p1.2.2.2.1 1) else p1.2.2.2.1) (fun y3=>(bif (qu (qgq d N ((bif (!p1.2.2.2.2.1) then (qh (qhI d N L (p1.1,(p1.2.1,(p1.2.2.1,(x.2.2.2.2.1,()))))) ((),(([]:List α),()))).2.1 else p1.1),(p1.2.1,(p1.2.2.1,(x.2.2.2.2.1,())))))) then (qL (qh (qgq d N ((bif (!p1.2.2.2.2.1) then (qh (qhI d N L (p1.1,(p1.2.1,(p1.2.2.1,(x.2.2.2.2.1,()))))) ((),(([]:List α),()))).2.1 else p1.1),(p1.2.1,(p1.2.2.1,(x.2.2.2.2.1,()))))) ((0,(0,())),(([]:List α),()))).2.1 (fun ys4=>(qL p1.2.1 (fun y5=>(qL p1.2.2.1 (fun y6=>(qL (qh (qgq d N ((bif (!p1.2.2.2.2.1) then (qh (qhI d N L (p1.1,(p1.2.1,(p1.2.2.1,(x.2.2.2.2.1,()))))) ((),(([]:List α),()))).2.1 else p1.1),(p1.2.1,(p1.2.2.1,(x.2.2.2.2.1,()))))) ((0,(0,())),(([]:List α),()))).1.1 (fun y7=>(qL (qh (qgq d N ((bif (!p1.2.2.2.2.1) then (qh (qhI d N L (p1.1,(p1.2.1,(p1.2.2.1,(x.2.2.2.2.1,()))))) ((),(([]:List α),()))).2.1 else p1.1),(p1.2.1,(p1.2.2.1,(x.2.2.2.2.1,()))))) ((0,(0,())),(([]:List α),()))).1.2.1 (fun y8=>(bif (bif (eqI y8 2) then (qu (qbI d N (ys4,(y5,(y6,(x.2.2.2.2.1,())))))) else true) then (qL (bif (eqI y8 2) then (qE .i64 (qE .i64 y6 1) (qE .i64 y7 y5)) else y7) (fun y9=>(qL (bif (eqI y8 2) then 1 else y8) (fun y10=>(qL ((p1.2.2.2.2.1&&p1.2.2.2.2.2.1)&&(eqI y10 1)) (fun y11=>(bif y11 then (bif (qu (qcO d N ((bif (eqI y8 2) then (qh (qbI d N (ys4,(y5,(y6,(x.2.2.2.2.1,()))))) ((),(([]:List α),()))).2.1 else ys4),(y5,(y6,(x.2.2.2.2.1,())))))) then (bif (qh (qcO d N ((bif (eqI y8 2) then (qh (qbI d N (ys4,(y5,(y6,(x.2.2.2.2.1,()))))) ((),(([]:List α),()))).2.1 else ys4),(y5,(y6,(x.2.2.2.2.1,()))))) ((false,()),(([]:List α),()))).1.1 then (some ((),((qh (qcO d N ((bif (eqI y8 2) then (qh (qbI d N (ys4,(y5,(y6,(x.2.2.2.2.1,()))))) ((),(([]:List α),()))).2.1 else ys4),(y5,(y6,(x.2.2.2.2.1,()))))) ((false,()),(([]:List α),()))).2.1,()))) else (bif (((!(ltI 0 y5))||(inB (qE .i64 y5 1) (qn (qh (qcO d N ((bif (eqI y8 2) then (qh (qbI d N (ys4,(y5,(y6,(x.2.2.2.2.1,()))))) ((),(([]:List α),()))).2.1 else ys4),(y5,(y6,(x.2.2.2.2.1,()))))) ((false,()),(([]:List α),()))).2.1)))&&(((!(ltI 0 y5))||(inB y9 (qn (qh (qcO d N ((bif (eqI y8 2) then (qh (qbI d N (ys4,(y5,(y6,(x.2.2.2.2.1,()))))) ((),(([]:List α),()))).2.1 else ys4),(y5,(y6,(x.2.2.2.2.1,()))))) ((false,()),(([]:List α),()))).2.1)))&&((!(ltI 0 y5))||(qu (x.2.2.2.2.1 ((qf (qh (qcO d N ((bif (eqI y8 2) then (qh (qbI d N (ys4,(y5,(y6,(x.2.2.2.2.1,()))))) ((),(([]:List α),()))).2.1 else ys4),(y5,(y6,(x.2.2.2.2.1,()))))) ((false,()),(([]:List α),()))).2.1 (qE .i64 y5 1) d),((qf (qh (qcO d N ((bif (eqI y8 2) then (qh (qbI d N (ys4,(y5,(y6,(x.2.2.2.2.1,()))))) ((),(([]:List α),()))).2.1 else ys4),(y5,(y6,(x.2.2.2.2.1,()))))) ((false,()),(([]:List α),()))).2.1 y9 d),()))))))) then (qL ((ltI 0 y5)&&(!(ltI (qh (x.2.2.2.2.1 ((qf (qh (qcO d N ((bif (eqI y8 2) then (qh (qbI d N (ys4,(y5,(y6,(x.2.2.2.2.1,()))))) ((),(([]:List α),()))).2.1 else ys4),(y5,(y6,(x.2.2.2.2.1,()))))) ((false,()),(([]:List α),()))).2.1 (qE .i64 y5 1) d),((qf (qh (qcO d N ((bif (eqI y8 2) then (qh (qbI d N (ys4,(y5,(y6,(x.2.2.2.2.1,()))))) ((),(([]:List α),()))).2.1 else ys4),(y5,(y6,(x.2.2.2.2.1,()))))) ((false,()),(([]:List α),()))).2.1 y9 d),()))) (0,())).1 0))) (fun y12=>(bif y12 then (bif (qu (qh8 d N ((qh (qcO d N ((bif (eqI y8 2) then (qh (qbI d N (ys4,(y5,(y6,(x.2.2.2.2.1,()))))) ((),(([]:List α),()))).2.1 else ys4),(y5,(y6,(x.2.2.2.2.1,()))))) ((false,()),(([]:List α),()))).2.1,(y5,(y6,(y9,(x.2.2.2.2.1,()))))))) then (qL (qh (qh8 d N ((qh (qcO d N ((bif (eqI y8 2) then (qh (qbI d N (ys4,(y5,(y6,(x.2.2.2.2.1,()))))) ((),(([]:List α),()))).2.1 else ys4),(y5,(y6,(x.2.2.2.2.1,()))))) ((false,()),(([]:List α),()))).2.1,(y5,(y6,(y9,(x.2.2.2.2.1,())))))) ((0,()),(([]:List α),()))).2.1 (fun ys13=>(qL y6 (fun y14=>(qL (qh (qh8 d N ((qh (qcO d N ((bif (eqI y8 2) then (qh (qbI d N (ys4,(y5,(y6,(x.2.2.2.2.1,()))))) ((),(([]:List α),()))).2.1 else ys4),(y5,(y6,(x.2.2.2.2.1,()))))) ((false,()),(([]:List α),()))).2.1,(y5,(y6,(y9,(x.2.2.2.2.1,())))))) ((0,()),(([]:List α),()))).1.1 (fun y15=>(ih0 (ys13,(y15,(y14,(y3,(p1.2.2.2.2.1,(p1.2.2.2.2.2.1,()))))))))))))) else none) else (bif (qu (qgv d N ((qh (qcO d N ((bif (eqI y8 2) then (qh (qbI d N (ys4,(y5,(y6,(x.2.2.2.2.1,()))))) ((),(([]:List α),()))).2.1 else ys4),(y5,(y6,(x.2.2.2.2.1,()))))) ((false,()),(([]:List α),()))).2.1,(y5,(y6,(y9,(x.2.2.2.2.1,()))))))) then (qL (qh (qgv d N ((qh (qcO d N ((bif (eqI y8 2) then (qh (qbI d N (ys4,(y5,(y6,(x.2.2.2.2.1,()))))) ((),(([]:List α),()))).2.1 else ys4),(y5,(y6,(x.2.2.2.2.1,()))))) ((false,()),(([]:List α),()))).2.1,(y5,(y6,(y9,(x.2.2.2.2.1,())))))) ((0,(false,())),(([]:List α),()))).2.1 (fun ys13=>(qL y5 (fun y14=>(qL y6 (fun y15=>(qL (qh (qgv d N ((qh (qcO d N ((bif (eqI y8 2) then (qh (qbI d N (ys4,(y5,(y6,(x.2.2.2.2.1,()))))) ((),(([]:List α),()))).2.1 else ys4),(y5,(y6,(x.2.2.2.2.1,()))))) ((false,()),(([]:List α),()))).2.1,(y5,(y6,(y9,(x.2.2.2.2.1,())))))) ((0,(false,())),(([]:List α),()))).1.1 (fun y16=>(qL (qh (qgv d N ((qh (qcO d N ((bif (eqI y8 2) then (qh (qbI d N (ys4,(y5,(y6,(x.2.2.2.2.1,()))))) ((),(([]:List α),()))).2.1 else ys4),(y5,(y6,(x.2.2.2.2.1,()))))) ((false,()),(([]:List α),()))).2.1,(y5,(y6,(y9,(x.2.2.2.2.1,())))))) ((0,(false,())),(([]:List α),()))).1.2.1 (fun y17=>(qL (qE .i64 y16 y14) (fun y18=>(qL (qE .i64 y15 y16) (fun y19=>(bif (neI 8 0) then (qL (qlL .i64 y2 8) (fun y20=>(bif (bif (ltI y18 y19) then (qu (Fs (ys13,(y14,(y16,(y3,(x.2.2.2.2.1,()))))))) else (qu (Fs (ys13,((qI .i64 y16 1),(y15,(y3,(x.2.2.2.2.1,())))))))) then (ih0 ((bif (ltI y18 y19) then (qh (Fs (ys13,(y14,(y16,(y3,(x.2.2.2.2.1,())))))) ((),(([]:List α),()))).2.1 else (qh (Fs (ys13,((qI .i64 y16 1),(y15,(y3,(x.2.2.2.2.1,())))))) ((),(([]:List α),()))).2.1),((bif (ltI y18 y19) then (qI .i64 y16 1) else y14),((bif (ltI y18 y19) then y15 else y16),(y3,((bif (ltI y18 y19) then (leI y20 y18) else (leI y20 y19)),(y17,()))))))) else none))) else none))))))))))))))) else none)))) else none)) else none) else (bif (((!(ltI 0 y5))||(inB (qE .i64 y5 1) (qn (bif (eqI y8 2) then (qh (qbI d N (ys4,(y5,(y6,(x.2.2.2.2.1,()))))) ((),(([]:List α),()))).2.1 else ys4))))&&(((!(ltI 0 y5))||(inB y9 (qn (bif (eqI y8 2) then (qh (qbI d N (ys4,(y5,(y6,(x.2.2.2.2.1,()))))) ((),(([]:List α),()))).2.1 else ys4))))&&((!(ltI 0 y5))||(qu (x.2.2.2.2.1 ((qf (bif (eqI y8 2) then (qh (qbI d N (ys4,(y5,(y6,(x.2.2.2.2.1,()))))) ((),(([]:List α),()))).2.1 else ys4) (qE .i64 y5 1) d),((qf (bif (eqI y8 2) then (qh (qbI d N (ys4,(y5,(y6,(x.2.2.2.2.1,()))))) ((),(([]:List α),()))).2.1 else ys4) y9 d),()))))))) then (qL ((ltI 0 y5)&&(!(ltI (qh (x.2.2.2.2.1 ((qf (bif (eqI y8 2) then (qh (qbI d N (ys4,(y5,(y6,(x.2.2.2.2.1,()))))) ((),(([]:List α),()))).2.1 else ys4) (qE .i64 y5 1) d),((qf (bif (eqI y8 2) then (qh (qbI d N (ys4,(y5,(y6,(x.2.2.2.2.1,()))))) ((),(([]:List α),()))).2.1 else ys4) y9 d),()))) (0,())).1 0))) (fun y12=>(bif y12 then (bif (qu (qh8 d N ((bif (eqI y8 2) then (qh (qbI d N (ys4,(y5,(y6,(x.2.2.2.2.1,()))))) ((),(([]:List α),()))).2.1 else ys4),(y5,(y6,(y9,(x.2.2.2.2.1,()))))))) then (qL (qh (qh8 d N ((bif (eqI y8 2) then (qh (qbI d N (ys4,(y5,(y6,(x.2.2.2.2.1,()))))) ((),(([]:List α),()))).2.1 else ys4),(y5,(y6,(y9,(x.2.2.2.2.1,())))))) ((0,()),(([]:List α),()))).2.1 (fun ys13=>(qL y6 (fun y14=>(qL (qh (qh8 d N ((bif (eqI y8 2) then (qh (qbI d N (ys4,(y5,(y6,(x.2.2.2.2.1,()))))) ((),(([]:List α),()))).2.1 else ys4),(y5,(y6,(y9,(x.2.2.2.2.1,())))))) ((0,()),(([]:List α),()))).1.1 (fun y15=>(ih0 (ys13,(y15,(y14,(y3,(p1.2.2.2.2.1,(p1.2.2.2.2.2.1,()))))))))))))) else none) else (bif (qu (qgv d N ((bif (eqI y8 2) then (qh (qbI d N (ys4,(y5,(y6,(x.2.2.2.2.1,()))))) ((),(([]:List α),()))).2.1 else ys4),(y5,(y6,(y9,(x.2.2.2.2.1,()))))))) then (qL (qh (qgv d N ((bif (eqI y8 2) then (qh (qbI d N (ys4,(y5,(y6,(x.2.2.2.2.1,()))))) ((),(([]:List α),()))).2.1 else ys4),(y5,(y6,(y9,(x.2.2.2.2.1,())))))) ((0,(false,())),(([]:List α),()))).2.1 (fun ys13=>(qL y5 (fun y14=>(qL y6 (fun y15=>(qL (qh (qgv d N ((bif (eqI y8 2) then (qh (qbI d N (ys4,(y5,(y6,(x.2.2.2.2.1,()))))) ((),(([]:List α),()))).2.1 else ys4),(y5,(y6,(y9,(x.2.2.2.2.1,())))))) ((0,(false,())),(([]:List α),()))).1.1 (fun y16=>(qL (qh (qgv d N ((bif (eqI y8 2) then (qh (qbI d N (ys4,(y5,(y6,(x.2.2.2.2.1,()))))) ((),(([]:List α),()))).2.1 else ys4),(y5,(y6,(y9,(x.2.2.2.2.1,())))))) ((0,(false,())),(([]:List α),()))).1.2.1 (fun y17=>(qL (qE .i64 y16 y14) (fun y18=>(qL (qE .i64 y15 y16) (fun y19=>(bif (neI 8 0) then (qL (qlL .i64 y2 8) (fun y20=>(bif (bif (ltI y18 y19) then (qu (Fs (ys13,(y14,(y16,(y3,(x.2.2.2.2.1,()))))))) else (qu (Fs (ys13,((qI .i64 y16 1),(y15,(y3,(x.2.2.2.2.1,())))))))) then (ih0 ((bif (ltI y18 y19) then (qh (Fs (ys13,(y14,(y16,(y3,(x.2.2.2.2.1,())))))) ((),(([]:List α),()))).2.1 else (qh (Fs (ys13,((qI .i64 y16 1),(y15,(y3,(x.2.2.2.2.1,())))))) ((),(([]:List α),()))).2.1),((bif (ltI y18 y19) then (qI .i64 y16 1) else y14),((bif (ltI y18 y19) then y15 else y16),(y3,((bif (ltI y18 y19) then (leI y20 y18) else (leI y20 y19)),(y17,()))))))) else none))) else none))))))))))))))) else none)))) else none)))))))) else none))))))))))) else none))) else none))))))) (x.1,(x.2.1,(x.2.2.1,(x.2.2.2.1,(true,(true,())))))))
def pdqG {α:Type} (d:α) (N:Nat) (L:(Int×Unit)→Option ((Int×Unit)×Unit)) (M:Nat):((List α)×(Int×(Int×(Int×(((α×(α×Unit))→(Option (Int×Unit)))×Unit)))))→(Option (Unit×((List α)×Unit))):=
 Nat.rec (motive:=fun _=>((List α)×(Int×(Int×(Int×(((α×(α×Unit))→(Option (Int×Unit)))×Unit)))))→(Option (Unit×((List α)×Unit)))) (fun _=>none) (fun _ Fs=>pdqS d N L Fs) M
def qvD {α:Type} (d:α) (N:Nat) (L:(Int×Unit)→Option ((Int×Unit)×Unit)) (x:((List α)×(((α×(α×Unit))→(Option (Int×Unit)))×Unit))):(Option (Unit×((List α)×Unit))):=
 (qL (qn x.1) (fun y0=>(bif ((qu (L ((qcr .u64 y0),())))&&(qu (pdqG d N L N (x.1,(0,(y0,((qh (L ((qcr .u64 y0),())) ((0,()),())).1.1,(x.2.1,())))))))) then (some ((),((qh (pdqG d N L N (x.1,(0,(y0,((qh (L ((qcr .u64 y0),())) ((0,()),())).1.1,(x.2.1,())))))) ((),(([]:List α),()))).2.1,()))) else none)))
theorem qat {S R:Type} {st:(S→Option R)→S→Option R} (μ:S→Nat) (I:S→Prop) (Q:Option R→Prop)
  (hs:∀ih p,I p→(∀q,I q→μ q<μ p→Q (ih q))→Q (st ih p)):∀(N:Nat) (p:S),I p→μ p<N→Q (qY N st p)
 |0,p,_,h=>by omega
 |N+1,p,hI,h=>by
  rw [qcG]
  exact hs _ p hI fun q hq hm=>qat μ I Q hs N q hq (by omega)
structure Cmp {α:Type} (P:α→Prop) (φ:(α×(α×Unit))→Option (Int×Unit)) (le:α→α→Prop):Prop where
 ans:∀a b,P a→P b→∃c,φ (a,(b,()))=some (c,())∧(c<0↔¬le b a)
 tot:∀a b,P a→P b→le a b∨le b a
 trans:∀a b c,P a→P b→P c→le a b→le b c→le a c
section
variable {α:Type} {P:α→Prop} {n:Nat} (d:α) {φ:(α×(α×Unit))→Option (Int×Unit)} {le:α→α→Prop} {N:Nat}
theorem Cmp.refl (h:Cmp P φ le) {a:α} (ha:P a):le a a:=(h.tot a a ha ha).elim id id
structure Seg (d:α) (n:Nat) (a b:Int) (xs ys:List α):Prop where
 perm:ys.Perm xs
 out:∀k:Int,0≤k→k<(n:Int)→(k<a∨b≤k)→qf ys k d=qf xs k d
 inn:∀k:Int,a≤k→k<b→∃m,a≤m∧m<b∧qf ys k d=qf xs m d
theorem Seg.refl (a b:Int) (xs:List α):Seg d n a b xs xs:=⟨.refl _,fun _ _ _ _=>rfl,fun k h1 h2=>⟨k,h1,h2,rfl⟩⟩
theorem Seg.trans {a b:Int} {xs ys zs:List α} (h1:Seg d n a b xs ys) (h2:Seg d n a b ys zs):Seg d n a b xs zs:=
 ⟨h2.perm.trans h1.perm,fun k q1 q2 q3=>(h2.out k q1 q2 q3).trans (h1.out k q1 q2 q3),fun k q1 q2=>by
  obtain ⟨m,m1,m2,m3⟩:=h2.inn k q1 q2
  obtain ⟨l,l1,l2,l3⟩:=h1.inn m m1 m2
  exact ⟨l,l1,l2,m3.trans l3⟩⟩
theorem Seg.mono {a b a' b':Int} {xs ys:List α} (h:Seg d n a b xs ys) (h0:0≤a') (hn:b'≤(n:Int)) (ha:a'≤a) (hb:b≤b'):Seg d n a' b' xs ys:=
 ⟨h.perm,fun k q1 q2 q3=>h.out k q1 q2 (by omega),fun k q1 q2=>by
  by_cases hk:a≤k∧k<b
  ·obtain ⟨m,m1,m2,m3⟩:=h.inn k hk.1 hk.2
   exact ⟨m,by omega,by omega,m3⟩
  ·exact ⟨k,q1,q2,h.out k (by omega) (by omega) (by omega)⟩⟩
theorem Seg.ck {a b:Int} {xs ys:List α} (h:Seg d n a b xs ys) (hx:Ck P n xs):Ck P n ys:=
 ⟨by rw [h.perm.length_eq]; exact hx.len,fun x q=>hx.all x (h.perm.mem_iff.1 q)⟩
theorem qpT {xs:List α} (hl:xs.length=n) {i k:Int} (h0:0≤i) (h1:i<(n:Int)) (h2:0≤k) (v:α):qf (qaM xs i v) k d=if k=i then v else qf xs k d:=by
 rw [qfB,qfB,qcD]
 by_cases h:k=i
 ·subst h
  rw [if_pos rfl,List.getD_eq_getElem?_getD,List.getElem?_set_self (by omega)]
  rfl
 ·rw [if_neg h,List.getD_eq_getElem?_getD,List.getD_eq_getElem?_getD,List.getElem?_set_ne (by omega)]
def swp (xs:List α) (i j:Int):List α:=qaM (qaM xs i (qf xs j d)) j (qf xs i d)
theorem qd6 {xs:List α} (hl:xs.length=n) {i j:Int} (i0:0≤i) (i1:i<(n:Int)) (j0:0≤j) (j1:j<(n:Int)) (k:Int) (h2:0≤k):qf (swp d xs i j) k d=if k=j then qf xs i d else if k=i then qf xs j d else qf xs k d:=by
 unfold swp
 rw [qpT d (n:=n) (by rw [qcD,List.length_set]; exact hl) j0 j1 h2,qpT d hl i0 i1 h2]
theorem qdr {xs:List α} (hl:xs.length=n) {a b i j:Int} (a0:0≤a) (bn:b≤(n:Int)) (i0:a≤i) (i1:i<b) (j0:a≤j) (j1:j<b):Seg d n a b xs (swp d xs i j):=by
 have g:=qd6 d hl (i:=i) (j:=j) (by omega) (by omega) (by omega) (by omega)
 refine ⟨?_,fun k q1 q2 q3=> ?_,fun k q1 q2=> ?_⟩
 ·unfold swp
  have hi:i.toNat<xs.length:=by omega
  have hj:j.toNat<xs.length:=by omega
  have e1:qf xs i d=xs[i.toNat]:=by rw [qfB,List.getD_eq_getElem?_getD,List.getElem?_eq_getElem hi]; rfl
  have e2:qf xs j d=xs[j.toNat]:=by rw [qfB,List.getD_eq_getElem?_getD,List.getElem?_eq_getElem hj]; rfl
  rw [e1,e2,qcD,qcD]
  exact List.set_set_perm hi hj
 ·rw [g k q1,if_neg (by omega),if_neg (by omega)]
 ·rw [g k (by omega)]
  by_cases h1:k=j
  ·exact ⟨i,i0,i1,by rw [if_pos h1]⟩
  ·by_cases h2:k=i
   ·exact ⟨j,j0,j1,by rw [if_neg h1,if_pos h2]⟩
   ·exact ⟨k,q1,q2,by rw [if_neg h1,if_neg h2]⟩
theorem swp_inB (xs:List α) (i j k:Int) (v w:α):inB k (qn (qaM (qaM xs i v) j w))=inB k (qn xs):=by
 rw [qex,qex,qr,qr,qcD,qcD,List.length_set,List.length_set]
theorem qdf (xs:List α) (i k:Int) (v:α):inB k (qn (qaM xs i v))=inB k (qn xs):=by
 rw [qex,qex,qr,qr,qcD,List.length_set]
def Srt (d:α) (le:α→α→Prop) (a b:Int) (xs:List α):Prop:=∀i j,a≤i→i≤j→j<b→le (qf xs i d) (qf xs j d)
def qkQ (P:α→Prop) (d:α) (n:Nat) (le:α→α→Prop) (a b:Int) (xs:List α) (r:Option (Unit×(List α×Unit))):Prop:=∃out,r=some ((),(out,()))∧Seg d n a b xs out∧Srt d le a b out
theorem qiX (hφ:Cmp P φ le) (hn:n≤1099511627776) (hN:n+1<N) {xs:List α} (h:Ck P n xs) {a b:Int} (ha:0≤a) (ha2:a≤(n:Int)) (hb:b≤(n:Int)):qkQ P d n le a b xs (qfA d N (xs,(a,(b,(φ,()))))):=by
 simp only [qfA]
 have ea:qI .i64 a 1=a+1:=qas (by omega) (by omega)
 rw [ea]
 by_cases hab:¬a<b
 ·obtain ⟨M,rfl⟩:∃M,N=M+1:=⟨N - 1,by omega⟩
  rw [qcG]
  simp only [ltF (show ¬a+1<b by omega),cond_false]
  exact ⟨xs,rfl,.refl d a b xs,fun i j h1 h2 h3=>by omega⟩
 refine qat (S:=List α×(Int×Unit)) (fun p=>(b - p.2.1).toNat) (fun p=>Seg d n a b xs p.1∧a+1≤p.2.1∧p.2.1≤(n:Int)+1∧Srt d le a p.2.1 p.1) (qkQ P d n le a b xs) ?_ N _ ⟨.refl d a b xs,by simp only; omega,by simp only; omega,fun i j h1 h2 h3=>by
  simp only at h3
  have:i=j:=by omega
  subst this
  exact hφ.refl (h.get d (by omega) (by omega))⟩ (by simp only; omega)
 rintro ih ⟨ys,i,⟨⟩⟩ ⟨hs,hi,hi2,hsrt⟩ hih
 simp only at hs hi hi2 hsrt hih⊢
 by_cases hc:i<b
 ·simp only [ltT hc,cond_true]
  refine qat (S:=List α×(Int×Unit)) (fun p=>(p.2.1 - a).toNat) (fun p=>Seg d n a b xs p.1∧a≤p.2.1∧p.2.1≤i∧∀x y,a≤x→x<y→y≤i→y≠p.2.1→le (qf p.1 x d) (qf p.1 y d)) (qkQ P d n le a b xs) ?_ N _ ⟨hs,by simp only; omega,by simp only; omega,fun x y h1 h2 h3 h4=>hsrt x y h1 (by omega) (by simp only at h4⊢; omega)⟩ (by simp only; omega)
  rintro jh ⟨zs,j,⟨⟩⟩ ⟨hz,hj1,hj2,hord⟩ hjh
  simp only at hz hj1 hj2 hord hjh⊢
  have hzc:=hz.ck d h
  have ei:qI .i64 i 1=i+1:=qas (by omega) (by omega)
  have fin:(a<j→le (qf zs (j - 1) d) (qf zs j d))→Srt d le a (i+1) zs:=fun hle x y h1 h2 h3=>by
   by_cases hxy:x=y
   ·subst hxy; exact hφ.refl (hzc.get d (by omega) (by omega))
   by_cases hyj:y=j
   ·subst hyj
    by_cases hx:x=y - 1
    ·rw [hx]; exact hle (by omega)
    ·exact hφ.trans _ _ _ (hzc.get d (by omega) (by omega)) (hzc.get d (i:=y - 1) (by omega) (by omega)) (hzc.get d (by omega) (by omega)) (hord x (y - 1) h1 (by omega) (by omega) (by omega)) (hle (by omega))
   ·exact hord x y h1 (by omega) (by omega) hyj
  by_cases hja:a<j
  ·have s1:qE .i64 j 1=j - 1:=qak (by omega) (by omega)
   have pj:=hzc.get d (i:=j) (by omega) (by omega)
   have pk:=hzc.get d (i:=j - 1) (by omega) (by omega)
   obtain ⟨c,e1,e3⟩:=hφ.ans _ _ pj pk
   have b1:=hzc.inB (i:=j) (by omega) (by omega)
   have b2:=hzc.inB (i:=j - 1) (by omega) (by omega)
   simp only [ltT hja,s1,b1,b2,e1,qd,qg,Bool.not_true,Bool.false_or,Bool.and_self,cond_true,Bool.true_and,qdf]
   by_cases hc0:c<0
   ·simp only [ltT hc0,cond_true]
    have hnle:=e3.1 hc0
    have hle:le (qf zs j d) (qf zs (j - 1) d):=(hφ.tot _ _ pj pk).elim id (fun q=>absurd q hnle)
    have hsg:=qdr d hzc.len (a:=a) (b:=b) (i:=j) (j:=j - 1) ha hb (by omega) (by omega) (by omega) (by omega)
    have g:=qd6 d hzc.len (i:=j) (j:=j - 1) (by omega) (by omega) (by omega) (by omega)
    refine hjh (swp d zs j (j - 1),(j - 1,())) ⟨hz.trans d hsg,by simp only; omega,by simp only; omega,fun x y h1 h2 h3 h4=> ?_⟩ (by simp only; omega)
    simp only at h4⊢
    rw [g x (by omega),g y (by omega)]
    rw [if_neg h4]
    by_cases hy:y=j
    ·rw [if_pos hy]
     by_cases hx:x=j - 1
     ·rw [if_pos hx]; exact hle
     ·rw [if_neg hx,if_neg (by omega)]; exact hord x (j - 1) h1 (by omega) (by omega) (by omega)
    ·rw [if_neg hy]
     by_cases hx:x=j - 1
     ·rw [if_pos hx]; exact hord j y (by omega) (by omega) h3 hy
     ·rw [if_neg hx]
      by_cases hx2:x=j
      ·rw [if_pos hx2]; exact hord (j - 1) y (by omega) (by omega) h3 hy
      ·rw [if_neg hx2]; exact hord x y h1 h2 h3 hy
   ·simp only [ltF hc0,cond_false,ei]
    have hle:le (qf zs (j - 1) d) (qf zs j d):=Classical.byContradiction fun q=>hc0 (e3.2 q)
    exact hih _ ⟨hz,by simp only; omega,by simp only; omega,fin fun _=>hle⟩ (by simp only; omega)
  ·simp only [ltF hja,Bool.not_false,Bool.true_or,Bool.and_self,cond_true,Bool.false_and,cond_false,ei]
   exact hih _ ⟨hz,by simp only; omega,by simp only; omega,fin fun q=>absurd q hja⟩ (by simp only; omega)
 ·simp only [ltF hc,cond_false]
  exact ⟨ys,rfl,hs,fun x y h1 h2 h3=>hsrt x y h1 h2 (by omega)⟩
def qvc (d:α) (le:α→α→Prop) (f hi:Int) (ys:List α) (k:Int):Prop:=(2 * k+1<hi→le (qf ys (f+(2 * k+1)) d) (qf ys (f+k) d))∧(2 * k+2<hi→le (qf ys (f+(2 * k+2)) d) (qf ys (f+k) d))
theorem qvq (hφ:Cmp P φ le) {ys:List α} (h:Ck P n ys) {f hi:Int} (f0:0≤f) (fn:f+hi≤(n:Int)) (hp:∀k,0≤k→k<hi→qvc d le f hi ys k):∀(m:Nat),(m:Int)<hi→le (qf ys (f+m) d) (qf ys (f+0) d):=by
 intro m
 induction m using Nat.strongRecOn with
 |ind m ih=>
  intro hm
  by_cases h0:m=0
  ·subst h0; exact hφ.refl (h.get d (by omega) (by omega))
  ·have hpp:=hp (((m - 1) / 2:Nat):Int) (by omega) (by omega)
   have ihp:=ih ((m - 1) / 2) (by omega) (by omega)
   refine hφ.trans _ _ _ (h.get d (by omega) (by omega)) (h.get d (i:=f+(((m - 1) / 2:Nat):Int)) (by omega) (by omega)) (h.get d (by omega) (by omega)) ?_ ihp
   rcases Nat.mod_two_eq_zero_or_one (m - 1) with hq|hq
   ·have:=hpp.1 (by omega)
    rwa [show f+(2 * (((m - 1) / 2:Nat):Int)+1)=f+(m:Int) by omega] at this
   ·have:=hpp.2 (by omega)
    rwa [show f+(2 * (((m - 1) / 2:Nat):Int)+2)=f+(m:Int) by omega] at this
structure Sft (d:α) (le:α→α→Prop) (f lo hi:Int) (ys:List α) (r:Int):Prop where
 rest:∀k,lo≤k→k<hi→k≠r→qvc d le f hi ys k
 up:∀p,lo≤p→(2 * p+1=r∨2 * p+2=r)→(2 * r+1<hi→le (qf ys (f+(2 * r+1)) d) (qf ys (f+p) d))∧(2 * r+2<hi→le (qf ys (f+(2 * r+2)) d) (qf ys (f+p) d))
theorem Sft.done {f lo hi:Int} {ys:List α} {r:Int} (h:Sft d le f lo hi ys r) (hr:qvc d le f hi ys r):∀k,lo≤k→k<hi→qvc d le f hi ys k:=fun k h1 h2=>by
 by_cases hk:k=r
 ·rw [hk]; exact hr
 ·exact h.rest k h1 h2 hk
theorem Sft.step (hφ:Cmp P φ le) {ys:List α} (hc:Ck P n ys) {f lo hi:Int} (f0:0≤f) (fn:f+hi≤(n:Int)) (l0:0≤lo) {r c:Int} (h:Sft d le f lo hi ys r) (hr:lo≤r) (hcr:c=2 * r+1∨c=2 * r+2) (hch:c<hi)
  (hle:le (qf ys (f+r) d) (qf ys (f+c) d)) (hmax:∀o,(o=2 * r+1∨o=2 * r+2)→o<hi→le (qf ys (f+o) d) (qf ys (f+c) d)):Sft d le f lo hi (swp d ys (f+r) (f+c)) c:=by
 have g:=qd6 d hc.len (i:=f+r) (j:=f+c) (by omega) (by omega) (by omega) (by omega)
 have gc:qf (swp d ys (f+r) (f+c)) (f+c) d=qf ys (f+r) d:=by rw [g _ (by omega),if_pos rfl]
 have gr:qf (swp d ys (f+r) (f+c)) (f+r) d=qf ys (f+c) d:=by rw [g _ (by omega),if_neg (by omega),if_pos rfl]
 have go:∀k,0≤k→k≠r→k≠c→qf (swp d ys (f+r) (f+c)) (f+k) d=qf ys (f+k) d:=fun k h0 h1 h2=>by rw [g _ (by omega),if_neg (by omega),if_neg (by omega)]
 have key:∀k,lo≤k→k<hi→k≠c→∀o,(o=2 * k+1∨o=2 * k+2)→o<hi→le (qf (swp d ys (f+r) (f+c)) (f+o) d) (qf (swp d ys (f+r) (f+c)) (f+k) d):=fun k k1 k2 k3 o ho oh=>by
  by_cases hk:k=r
  ·subst hk
   rw [gr]
   by_cases hoc:o=c
   ·rw [hoc,gc]; exact hle
   ·rw [go o (by omega) (by omega) hoc]; exact hmax o ho oh
  ·have hold:=h.rest k k1 k2 hk
   by_cases hor:o=r
   ·rw [hor,gr,go k (by omega) hk k3]
    have hu:=h.up k k1 (by omega)
    rcases hcr with q|q
    ·rw [q]; exact hu.1 (by omega)
    ·rw [q]; exact hu.2 (by omega)
   ·rw [go o (by omega) hor (by omega),go k (by omega) hk k3]
    rcases ho with q|q
    ·rw [q]; exact hold.1 (by omega)
    ·rw [q]; exact hold.2 (by omega)
 refine ⟨fun k k1 k2 k3=>⟨fun q=>key k k1 k2 k3 _ (.inl rfl) q,fun q=>key k k1 k2 k3 _ (.inr rfl) q⟩,fun p p1 p2=> ?_⟩
 have hp:p=r:=by omega
 subst hp
 have hold:=h.rest c (by omega) hch (by omega)
 rw [gr]
 exact ⟨fun q=>by rw [go _ (by omega) (by omega) (by omega)]; exact hold.1 q,fun q=>by rw [go _ (by omega) (by omega) (by omega)]; exact hold.2 q⟩
theorem qpP (hφ:Cmp P φ le) (hn:n≤1099511627776) (hN:n+1<N) {xs:List α} (h:Ck P n xs) {f lo hi:Int} (f0:0≤f) (l0:0≤lo) (lh:lo≤hi) (fn:f+hi≤(n:Int)) (hp:∀k,lo<k→k<hi→qvc d le f hi xs k):
  ∃out,qnf d N (xs,(lo,(hi,(f,(φ,())))))=some ((),(out,()))∧Seg d n (f+lo) (f+hi) xs out∧∀k,lo≤k→k<hi→qvc d le f hi out k:=by
 simp only [qnf,qJ]
 refine qat (S:=List α×(Int×Unit)) (fun p=>(hi - p.2.1).toNat) (fun p=>Seg d n (f+lo) (f+hi) xs p.1∧lo≤p.2.1∧p.2.1≤hi∧Sft d le f lo hi p.1 p.2.1) (fun r=>∃out,r=some ((),(out,()))∧Seg d n (f+lo) (f+hi) xs out∧∀k,lo≤k→k<hi→qvc d le f hi out k) ?_ N _ ⟨.refl d _ _ xs,by simp only; omega,by simp only; omega,fun k k1 k2 k3=>hp k (by simp only at k3; omega) k2,fun p p1 p2=>by simp only at p2; omega⟩ (by simp only; omega)
 rintro ih ⟨ys,r,⟨⟩⟩ ⟨hs,hr,hrh,hsf⟩ hih
 simp only at hs hr hrh hsf hih⊢
 have hc:=hs.ck d h
 have e1:qkw .i64 2 r=2 * r:=by rw [qdJ,qdm (by omega) (by omega)]
 have e2:qI .i64 (2 * r) 1=2 * r+1:=qas (by omega) (by omega)
 simp only [e1,e2]
 by_cases q:hi≤2 * r+1
 ·simp only [leT q,cond_true]
  exact ⟨ys,rfl,hs,hsf.done d ⟨fun w=>by omega,fun w=>by omega⟩⟩
 have e3:qI .i64 (2 * r+1) 1=2 * r+2:=by rw [qas (by omega) (by omega)]; omega
 have e4:qI .i64 f (2 * r+1)=f+(2 * r+1):=qas (by omega) (by omega)
 have e5:qI .i64 (f+(2 * r+1)) 1=f+(2 * r+2):=by rw [qas (by omega) (by omega)]; omega
 have e6:qI .i64 f r=f+r:=qas (by omega) (by omega)
 have b1:=hc.inB (i:=f+(2 * r+1)) (by omega) (by omega)
 have b0:=hc.inB (i:=f+r) (by omega) (by omega)
 have p1:=hc.get d (i:=f+(2 * r+1)) (by omega) (by omega)
 have p0:=hc.get d (i:=f+r) (by omega) (by omega)
 simp only [leF q,cond_false,e3,e4,e5,e6]
 obtain ⟨c,hc1,hc2,hcx,w1,w2⟩:∃c,(c=2 * r+1∨c=2 * r+2)∧c<hi∧(∀o,(o=2 * r+1∨o=2 * r+2)→o<hi→le (qf ys (f+o) d) (qf ys (f+c) d))∧
   ((!ltI (2 * r+2) hi||inB (f+(2 * r+1)) (qn ys))&&((!ltI (2 * r+2) hi||inB (f+(2 * r+2)) (qn ys))&&(!ltI (2 * r+2) hi||qu (φ (qf ys (f+(2 * r+1)) d,(qf ys (f+(2 * r+2)) d,()))))))=true∧
   (bif (ltI (2 * r+2) hi&&ltI (qh (φ (qf ys (f+(2 * r+1)) d,(qf ys (f+(2 * r+2)) d,()))) (0,())).1 0) then 2 * r+2 else 2 * r+1)=c:=by
  by_cases q2:2 * r+2<hi
  ·have b2:=hc.inB (i:=f+(2 * r+2)) (by omega) (by omega)
   have p2:=hc.get d (i:=f+(2 * r+2)) (by omega) (by omega)
   obtain ⟨c,a1,a2⟩:=hφ.ans _ _ p1 p2
   by_cases q3:c<0
   ·have hle:=(hφ.tot _ _ p1 p2).elim id (fun w=>absurd w (a2.1 q3))
    exact ⟨2 * r+2,.inr rfl,q2,fun o ho _=>by
     rcases ho with w|w
     ·rw [w]; exact hle
     ·rw [w]; exact hφ.refl p2,by simp only [ltT q2,b1,b2,a1,qd,Bool.not_true,Bool.false_or,Bool.and_self,qg,ltT q3,cond_true,and_self]⟩
   ·have hle:le (qf ys (f+(2 * r+2)) d) (qf ys (f+(2 * r+1)) d):=Classical.byContradiction fun w=>q3 (a2.2 w)
    exact ⟨2 * r+1,.inl rfl,by omega,fun o ho _=>by
     rcases ho with w|w
     ·rw [w]; exact hφ.refl p1
     ·rw [w]; exact hle,by simp only [ltT q2,b1,b2,a1,qd,Bool.not_true,Bool.false_or,Bool.and_self,qg,ltF q3,Bool.and_false,cond_false,and_self]⟩
  ·exact ⟨2 * r+1,.inl rfl,by omega,fun o ho w=>by
    rcases ho with w2|w2
    ·rw [w2]; exact hφ.refl p1
    ·omega,by simp only [ltF q2,Bool.not_false,Bool.true_or,Bool.and_self,Bool.false_and,cond_false,and_self]⟩
 have e7:qI .i64 f c=f+c:=qas (by omega) (by omega)
 have bc:=hc.inB (i:=f+c) (by omega) (by omega)
 have pc:=hc.get d (i:=f+c) (by omega) (by omega)
 obtain ⟨v,a1,a2⟩:=hφ.ans _ _ p0 pc
 simp only [w1,w2,cond_true,e7,b0,bc,a1,qd,qg,Bool.and_self,qdf]
 by_cases q3:v<0
 ·have hle:=(hφ.tot _ _ p0 pc).elim id (fun w=>absurd w (a2.1 q3))
  simp only [ltT q3,Bool.not_true,cond_false]
  exact hih (swp d ys (f+r) (f+c),(c,())) ⟨hs.trans d (qdr d hc.len (by omega) fn (by omega) (by omega) (by omega) (by omega)),by simp only; omega,by simp only; omega,hsf.step d hφ hc f0 fn l0 hr hc1 hc2 hle hcx⟩ (by simp only; omega)
 ·have hle:le (qf ys (f+c) d) (qf ys (f+r) d):=Classical.byContradiction fun w=>q3 (a2.2 w)
  simp only [ltF q3,Bool.not_false,cond_true]
  refine ⟨ys,rfl,hs,hsf.done d ⟨fun w=> ?_,fun w=> ?_⟩⟩
  ·exact hφ.trans _ _ _ p1 pc p0 (hcx _ (.inl rfl) w) hle
  ·exact hφ.trans _ _ _ (hc.get d (i:=f+(2 * r+2)) (by omega) (by omega)) pc p0 (hcx _ (.inr rfl) w) hle
theorem quM (hφ:Cmp P φ le) (hn:n≤1099511627776) (hN:n+1<N) {xs:List α} (h:Ck P n xs) {a b:Int} (ha:0≤a) (hab:a<b) (hb:b≤(n:Int)):qkQ P d n le a b xs (qrV d N (xs,(a,(b,(φ,()))))):=by
 have e1:qE .i64 b a=b - a:=qak (by omega) (by omega)
 have e2:qE .i64 (b - a) 1=b - a - 1:=qak (by omega) (by omega)
 have e3:qlL .i64 (b - a - 1) 2=(b - a - 1) / 2:=by
  rw [qiN,Int.tdiv_eq_ediv_of_nonneg (by omega),qdm (by omega) (by omega)]
 simp only [qrV,qJ,e1,e2,e3,neT (show ¬(2:Int)=0 by omega),cond_true]
 generalize hhi:b - a=hi at *
 refine qat (S:=List α×(Int×Unit)) (fun p=>(p.2.1+1).toNat) (fun p=>Seg d n a b xs p.1∧ -1≤p.2.1∧p.2.1<hi∧∀k,p.2.1<k→k<hi→qvc d le a hi p.1 k) (qkQ P d n le a b xs) ?_ N _ ⟨.refl d _ _ xs,by simp only; omega,by simp only; omega,fun k k1 k2=>⟨fun w=>by simp only at k1; omega,fun w=>by simp only at k1; omega⟩⟩ (by simp only; omega)
 rintro ih ⟨ys,i,⟨⟩⟩ ⟨hs,hi0,hi1,hhp⟩ hih
 simp only at hs hi0 hi1 hhp hih⊢
 have hc:=hs.ck d h
 by_cases q:0≤i
 ·obtain ⟨out,r1,r2,r3⟩:=qpP d hφ hn hN hc ha q (by omega:i≤hi) (by omega) (fun k k1 k2=>hhp k k1 k2)
  have e4:qE .i64 i 1=i - 1:=qak (by omega) (by omega)
  simp only [leT q,cond_true,r1,qd,qg,e4]
  exact hih _ ⟨hs.trans d (r2.mono d ha hb (by omega) (by omega)),by simp only; omega,by simp only; omega,fun k k1 k2=>r3 k (by simp only at k1; omega) k2⟩ (by simp only; omega)
 simp only [leF q,cond_false]
 refine qat (S:=List α×(Int×Unit)) (fun p=>(p.2.1+1).toNat) (fun p=>Seg d n a b xs p.1∧ -1≤p.2.1∧p.2.1<hi∧(∀k,0≤k→k<p.2.1+1→qvc d le a (p.2.1+1) p.1 k)∧∀x y,0≤x→x<y→y<hi→p.2.1<y→le (qf p.1 (a+x) d) (qf p.1 (a+y) d)) (qkQ P d n le a b xs) ?_ N _ ⟨hs,by simp only; omega,by simp only; omega,fun k k1 k2=>by
  have hk:=hhp k (by omega) (by simp only at k2; omega)
  have e:hi - 1+1=hi:=by omega
  simp only [e]
  exact hk,fun x y h1 h2 h3 h4=>by simp only at h4; omega⟩ (by simp only; omega)
 rintro jh ⟨zs,j,⟨⟩⟩ ⟨hz,hj0,hj1,hheap,htail⟩ hjh
 simp only at hz hj0 hj1 hheap htail hjh⊢
 have hzc:=hz.ck d h
 by_cases q2:0≤j
 ·have e4:qE .i64 j 1=j - 1:=qak (by omega) (by omega)
  have e5:qI .i64 a j=a+j:=qas (by omega) (by omega)
  have b1:=hzc.inB (i:=a+j) (by omega) (by omega)
  have b0:=hzc.inB (i:=a) (by omega) (by omega)
  have hsw:=qdr d hzc.len (a:=a) (b:=a+j+1) (i:=a) (j:=a+j) ha (by omega) (by omega) (by omega) (by omega) (by omega)
  have g:=qd6 d hzc.len (i:=a) (j:=a+j) (by omega) (by omega) (by omega) (by omega)
  have hwc:=hsw.ck d hzc
  have hmax:=qvq d hφ hzc ha (hi:=j+1) (by omega) hheap
  have hmax':∀x,0≤x→x≤j→le (qf zs (a+x) d) (qf zs a d):=fun x x0 x1=>by
   obtain ⟨m,rfl⟩:∃m:Nat,x=(m:Int):=⟨x.toNat,by omega⟩
   have:=hmax m (by omega)
   rwa [show a+0=a by omega] at this
  obtain ⟨out,r1,r2,r3⟩:=qpP d hφ hn hN hwc ha (Int.le_refl 0) (by omega:(0:Int)≤j) (by omega) (fun k k1 k2=>by
   have hk:=hheap k (by omega) (by omega)
   refine ⟨fun w=> ?_,fun w=> ?_⟩
   ·rw [g _ (by omega),g _ (by omega),if_neg (by omega),if_neg (by omega),if_neg (by omega),if_neg (by omega)]; exact hk.1 (by omega)
   ·rw [g _ (by omega),g _ (by omega),if_neg (by omega),if_neg (by omega),if_neg (by omega),if_neg (by omega)]; exact hk.2 (by omega))
  simp only [leT q2,cond_true,e4,e5,b0,b1,qdf,Bool.and_self]
  have r1':qnf d N (qaM (qaM zs a (qf zs (a+j) d)) (a+j) (qf zs a d),(0,(j,(a,(φ,())))))=some ((),(out,())):=r1
  simp only [r1',qd,qg,cond_true]
  refine hjh _ ⟨hz.trans d ((hsw.mono d ha hb (by omega) (by omega)).trans d (r2.mono d ha hb (by omega) (by omega))),by simp only; omega,by simp only; omega,fun k k1 k2=> ?_,fun x y x0 xy yh yj=> ?_⟩ (by simp only; omega)
  ·have e:j - 1+1=j:=by omega
   simp only [e]
   exact r3 k k1 (by simp only at k2; omega)
  ·simp only at yj⊢
   have gy:qf out (a+y) d=qf (swp d zs a (a+j)) (a+y) d:=r2.out _ (by omega) (by omega) (.inr (by omega))
   obtain ⟨x',x'0,x'y,hx'⟩:∃x',0≤x'∧(x'<j∨(x'=x∧j≤x))∧qf out (a+x) d=qf (swp d zs a (a+j)) (a+x') d:=by
    by_cases hxj:x<j
    ·obtain ⟨m,m1,m2,m3⟩:=r2.inn (a+x) (by omega) (by omega)
     exact ⟨m - a,by omega,.inl (by omega),by rw [m3]; congr 1; omega⟩
    ·exact ⟨x,x0,.inr ⟨rfl,by omega⟩,r2.out _ (by omega) (by omega) (.inr (by omega))⟩
   rw [hx',gy,g _ (by omega),g _ (by omega)]
   by_cases hyj:y=j
   ·rw [if_pos (by omega:a+y=a+j)]
    rw [if_neg (by omega:¬a+x'=a+j)]
    by_cases hx0:x'=0
    ·rw [if_pos (by omega:a+x'=a)]; exact hmax' j q2 (Int.le_refl j)
    ·rw [if_neg (by omega:¬a+x'=a)]; exact hmax' x' x'0 (by omega)
   ·rw [if_neg (by omega:¬a+y=a+j),if_neg (by omega:¬a+y=a)]
    by_cases hxj:x'=j
    ·rw [if_pos (by omega:a+x'=a+j)]
     have:=htail 0 y (by omega) (by omega) yh (by omega)
     rwa [show a+0=a by omega] at this
    ·rw [if_neg (by omega:¬a+x'=a+j)]
     by_cases hx0:x'=0
     ·rw [if_pos (by omega:a+x'=a)]; exact htail j y q2 (by omega) yh (by omega)
     ·rw [if_neg (by omega:¬a+x'=a)]; exact htail x' y x'0 (by omega) yh (by omega)
 ·simp only [leF q2,cond_false]
  refine ⟨zs,rfl,hz,fun x y h1 h2 h3=> ?_⟩
  by_cases hxy:x=y
  ·rw [hxy]; exact hφ.refl (hzc.get d (by omega) (by omega))
  ·have:=htail (x - a) (y - a) (by omega) (by omega) (by omega) (by omega)
   rwa [show a+(x - a)=x by omega,show a+(y - a)=y by omega] at this
theorem qtp (hn:n≤1099511627776) (hN:n+1<N) {xs:List α} (h:Ck P n xs) {a b:Int} (ha:0≤a) (hab:a<b) (hb:b≤(n:Int)):∃out,qbI d N (xs,(a,(b,(φ,()))))=some ((),(out,()))∧Seg d n a b xs out:=by
 have e1:qE .i64 b 1=b - 1:=qak (by omega) (by omega)
 simp only [qbI,qJ,e1]
 refine qat (S:=List α×(Int×(Int×Unit))) (fun p=>(p.2.2.1 - p.2.1).toNat) (fun p=>Seg d n a b xs p.1∧a≤p.2.1∧p.2.2.1<b) (fun r=>∃out,r=some ((),(out,()))∧Seg d n a b xs out) ?_ N _ ⟨.refl d _ _ xs,by simp only; omega,by simp only; omega⟩ (by simp only; omega)
 rintro ih ⟨ys,i,j,⟨⟩⟩ ⟨hs,hi,hj⟩ hih
 simp only at hs hi hj hih⊢
 have hc:=hs.ck d h
 by_cases q:i<j
 ·have e2:qI .i64 i 1=i+1:=qas (by omega) (by omega)
  have e3:qE .i64 j 1=j - 1:=qak (by omega) (by omega)
  simp only [ltT q,cond_true,e2,e3,hc.inB (i:=i) (by omega) (by omega),hc.inB (i:=j) (by omega) (by omega),qdf,Bool.and_self]
  exact hih (swp d ys i j,(i+1,(j - 1,()))) ⟨hs.trans d (qdr d hc.len ha hb hi (by omega) (by omega) hj),by simp only; omega,by simp only; omega⟩ (by simp only; omega)
 ·simp only [ltF q,cond_false]
  exact ⟨ys,rfl,hs⟩
theorem qtd (hφ:Cmp P φ le) (hn:n≤1099511627776) (hN:n+1<N) {xs:List α} (h:Ck P n xs) {a b pv:Int} (ha:0≤a) (hpa:a≤pv) (hpb:pv<b) (hb:b≤(n:Int)):
  ∃out mid,qh8 d N (xs,(a,(b,(pv,(φ,())))))=some ((mid,()),(out,()))∧Seg d n a b xs out∧a<mid∧mid≤b∧∀k,a≤k→k<mid→le (qf out k d) (qf xs pv d):=by
 have e1:qE .i64 b 1=b - 1:=qak (by omega) (by omega)
 have e2:qI .i64 a 1=a+1:=qas (by omega) (by omega)
 have pp:=h.get d (i:=pv) (by omega) (by omega)
 simp only [qh8,qJ,e1,e2,h.inB (i:=a) (by omega) (by omega),h.inB (i:=pv) (by omega) (by omega),qdf,Bool.and_self,cond_true]
 have g:=qd6 d h.len (i:=a) (j:=pv) (by omega) (by omega) (by omega) (by omega)
 have ini:qaM (qaM xs a (qf xs pv d)) pv (qf xs a d)=swp d xs a pv:=rfl
 have ga:qf (swp d xs a pv) a d=qf xs pv d:=by
  rw [g a ha]
  by_cases q:a=pv
  ·rw [if_pos q,q]
  ·rw [if_neg q,if_pos rfl]
 rw [ini]
 obtain ⟨p,hp⟩:∃p,qf xs pv d=p:=⟨_,rfl⟩
 rw [hp] at pp ga
 rw [hp]
 refine qat (S:=List α×(Int×(Int×Unit))) (fun q=>(q.2.2.1+1 - q.2.1).toNat) (fun q=>Seg d n a b xs q.1∧a<q.2.1∧q.2.1≤b∧q.2.2.1<b∧qf q.1 a d=p∧∀k,a≤k→k<q.2.1→le (qf q.1 k d) p) (fun r=>∃out mid,r=some ((mid,()),(out,()))∧Seg d n a b xs out∧a<mid∧mid≤b∧∀k,a≤k→k<mid→le (qf out k d) p) ?_ N _ ⟨qdr d h.len ha hb (by omega) (by omega) hpa hpb,by simp only; omega,by simp only; omega,by simp only; omega,ga,fun k k1 k2=>by
  have:k=a:=by simp only at k2; omega
  rw [this,ga]; exact hφ.refl pp⟩ (by simp only; omega)
 rintro ih ⟨ys,i,j,⟨⟩⟩ ⟨hs,hi,hib,hj,hya,hlo⟩ hih
 simp only at hs hi hib hj hya hlo hih⊢
 have hc:=hs.ck d h
 have ba:=hc.inB (i:=a) (by omega) (by omega)
 refine qat (S:=List α×(Int×(Int×Unit))) (fun q=>(q.2.2.1+1 - q.2.1).toNat) (fun q=>q.1=ys∧i≤q.2.1∧q.2.1≤b∧q.2.2.1=j∧∀k,a≤k→k<q.2.1→le (qf ys k d) p) (fun r=>∃out mid,r=some ((mid,()),(out,()))∧Seg d n a b xs out∧a<mid∧mid≤b∧∀k,a≤k→k<mid→le (qf out k d) p) ?_ N _ ⟨rfl,by simp only; omega,hib,rfl,hlo⟩ (by simp only; omega)
 rintro jh ⟨ys',i2,j',⟨⟩⟩ ⟨hy',hi2,hi2b,hj',hlo2⟩ hjh
 simp only at hy' hi2 hi2b hj' hlo2 hjh⊢
 subst hy'
 subst hj'
 obtain ⟨t1,w1,w2,w3⟩:∃t1:Bool,(((!(leI i2 j'))||(inB a (qn ys')))&&(((!(leI i2 j'))||(inB i2 (qn ys')))&&((!(leI i2 j'))||(qu (φ ((qf ys' a d),((qf ys' i2 d),())))))))=true∧((leI i2 j')&&(!(ltI (qh (φ ((qf ys' a d),((qf ys' i2 d),()))) (0,())).1 0)))=t1∧(t1=true→i2≤j'∧le (qf ys' i2 d) p):=by
  by_cases q:i2≤j'
  ·have pi:=hc.get d (i:=i2) (by omega) (by omega)
   obtain ⟨c,a1,a2⟩:=hφ.ans _ _ (by rw [hya]; exact pp:P (qf ys' a d)) pi
   refine ⟨_,by simp only [leT q,ba,hc.inB (i:=i2) (by omega) (by omega),a1,qd,Bool.not_true,Bool.false_or,Bool.and_self],rfl,fun ht=>⟨q,?_⟩⟩
   rw [leT q,a1,qg,Bool.true_and] at ht
   rw [hya] at a2
   exact Classical.byContradiction fun w=>by
    rw [ltT (a2.2 w)] at ht; cases ht
  ·exact ⟨false,by simp only [leF q,Bool.not_false,Bool.true_or,Bool.and_self],by simp only [leF q,Bool.false_and],fun w=>by cases w⟩
 simp only [w1,w2,cond_true]
 cases t1 with
 |true=>
  obtain ⟨v1,v2⟩:=w3 rfl
  have e3:qI .i64 i2 1=i2+1:=qas (by omega) (by omega)
  simp only [cond_true,e3]
  exact hjh _ ⟨rfl,by simp only; omega,by simp only; omega,rfl,fun k k1 k2=>by
   by_cases hk:k=i2
   ·rw [hk]; exact v2
   ·exact hlo2 k k1 (by simp only at k2; omega)⟩ (by simp only; omega)
 |false=>
  simp only [cond_false]
  refine qat (S:=List α×(Int×Unit)) (fun q=>(q.2.1+1 - i2).toNat) (fun q=>q.1=ys'∧q.2.1≤j') (fun r=>∃out mid,r=some ((mid,()),(out,()))∧Seg d n a b xs out∧a<mid∧mid≤b∧∀k,a≤k→k<mid→le (qf out k d) p) ?_ N _ ⟨rfl,by simp only; omega⟩ (by simp only; omega)
  rintro kh ⟨ys2,j2,⟨⟩⟩ ⟨hy2,hj2⟩ hkh
  simp only at hy2 hj2 hkh⊢
  subst hy2
  obtain ⟨t2,u1,u2,u3,u4⟩:∃t2:Bool,(((!(leI i2 j2))||(inB a (qn ys2)))&&(((!(leI i2 j2))||(inB j2 (qn ys2)))&&((!(leI i2 j2))||(qu (φ ((qf ys2 a d),((qf ys2 j2 d),())))))))=true∧((leI i2 j2)&&(ltI (qh (φ ((qf ys2 a d),((qf ys2 j2 d),()))) (0,())).1 0))=t2∧(t2=true→i2≤j2)∧(t2=false→i2≤j2→le (qf ys2 j2 d) p):=by
   by_cases q:i2≤j2
   ·have pi:=hc.get d (i:=j2) (by omega) (by omega)
    obtain ⟨c,a1,a2⟩:=hφ.ans _ _ (by rw [hya]; exact pp:P (qf ys2 a d)) pi
    refine ⟨_,by simp only [leT q,ba,hc.inB (i:=j2) (by omega) (by omega),a1,qd,Bool.not_true,Bool.false_or,Bool.and_self],rfl,fun _=>q,fun ht _=> ?_⟩
    rw [leT q,a1,qg,Bool.true_and] at ht
    rw [hya] at a2
    exact Classical.byContradiction fun w=>by
     rw [ltT (a2.2 w)] at ht; cases ht
   ·exact ⟨false,by simp only [leF q,Bool.not_false,Bool.true_or,Bool.and_self],by simp only [leF q,Bool.false_and],(fun w=>by cases w),fun _ w=>absurd w q⟩
  simp only [u1,u2,cond_true]
  have e4:t2=true∨i2≤j2→qE .i64 j2 1=j2 - 1:=fun w=>by
   have:i2≤j2:=w.elim u3 id
   exact qak (by omega) (by omega)
  cases t2 with
  |true=>
   have v1:=u3 rfl
   simp only [cond_true,e4 (.inl rfl)]
   exact hkh _ ⟨rfl,by simp only; omega⟩ (by simp only; omega)
  |false=>
   simp only [cond_false]
   by_cases q:j2<i2
   ·simp only [ltT q,cond_true]
    exact ⟨ys2,i2,rfl,hs,by omega,hi2b,hlo2⟩
   ·have v2:=u4 rfl (by omega)
    have e3:qI .i64 i2 1=i2+1:=qas (by omega) (by omega)
    simp only [ltF q,cond_false,hc.inB (i:=i2) (by omega) (by omega),hc.inB (i:=j2) (by omega) (by omega),Bool.and_self,cond_true,e3,e4 (.inr (by omega))]
    have g2:=qd6 d hc.len (i:=i2) (j:=j2) (by omega) (by omega) (by omega) (by omega)
    refine hih (swp d ys2 i2 j2,(i2+1,(j2 - 1,()))) ⟨hs.trans d (qdr d hc.len ha hb (by omega) (by omega) (by omega) (by omega)),by simp only; omega,by simp only; omega,by simp only; omega,?_,fun k k1 k2=> ?_⟩ (by simp only; omega)
    ·simp only
     rw [g2 a ha,if_neg (by omega),if_neg (by omega)]; exact hya
    ·simp only at k2⊢
     rw [g2 k (by omega)]
     by_cases hk:k=j2
     ·rw [if_pos hk]
      by_cases hij:i2=j2
      ·rw [hij]; exact v2
      ·omega
     ·rw [if_neg hk]
      by_cases hk2:k=i2
      ·rw [if_pos hk2]; exact v2
      ·rw [if_neg hk2]; exact hlo2 k k1 (by omega)
theorem qoy (hφ:Cmp P φ le) {G b1 b2:Bool} {u v:α} (h1:G=true→b1=true) (h2:G=true→b2=true) (hP:G=true→P u∧P v):
  (((!G)||b1)&&(((!G)||b2)&&((!G)||qu (φ (u,(v,()))))))=true∧(G=true→(ltI (qh (φ (u,(v,()))) (0,())).1 0=true→¬le v u)∧(ltI (qh (φ (u,(v,()))) (0,())).1 0=false→le v u)):=by
 cases G with
 |false=>exact ⟨rfl,fun q=>by cases q⟩
 |true=>
  obtain ⟨pu,pv⟩:=hP rfl
  obtain ⟨c,a1,a2⟩:=hφ.ans u v pu pv
  rw [h1 rfl,h2 rfl,a1]
  refine ⟨by simp only [qd,Bool.not_true,Bool.false_or,Bool.and_self],fun _=>⟨fun q=> ?_,fun q=> ?_⟩⟩
  ·rw [qg] at q
   by_cases hc:c<0
   ·exact a2.1 hc
   ·rw [ltF hc] at q; cases q
  ·rw [qg] at q
   by_cases hc:c<0
   ·rw [ltT hc] at q; cases q
   ·exact Classical.byContradiction fun w=>hc (a2.2 w)
theorem Cmp.flip (hφ:Cmp P φ le) {u v:α} (pu:P u) (pv:P v) (h:¬le v u):le u v:=(hφ.tot u v pu pv).elim id fun q=>absurd q h
structure qsH (d:α) (n:Nat) (le:α→α→Prop) (a b:Int) (xs:List α) (p:α) (ys:List α) (i j:Int):Prop where
 seg:Seg d n a b xs ys
 ai:a<i
 ij:i≤j+1
 jb:j<b
 at_:qf ys a d=p
 lo:∀k,a<k→k<i→le (qf ys k d) p
 hi:∀k,j<k→k<b→le p (qf ys k d)
def qqx (d:α) (n:Nat) (le:α→α→Prop) (a b:Int) (xs:List α) (r:Option ((Int×(Bool×Unit))×(List α×Unit))):Prop:=∃out mid fl,r=some ((mid,(fl,())),(out,()))∧Seg d n a b xs out∧a≤mid∧mid<b∧(∀k,a≤k→k<mid→le (qf out k d) (qf out mid d))∧∀k,mid<k→k<b→le (qf out mid d) (qf out k d)
theorem qsH.fin {a b:Int} {xs ys:List α} {p:α} {i j:Int} (h:qsH d n le a b xs p ys i j) (hc:Ck P n ys) (ha:0≤a) (hb:b≤(n:Int)) (hij:j<i) (fl:Bool):qqx d n le a b xs (some ((j,(fl,())),(swp d ys j a,()))):=by
 have h1:=h.ai; have h2:=h.ij; have h3:=h.jb
 have g:=qd6 d hc.len (i:=j) (j:=a) (by omega) (by omega) (by omega) (by omega)
 have gj:qf (swp d ys j a) j d=p:=by
  rw [g j (by omega)]
  by_cases q:j=a
  ·rw [if_pos q,q]; exact h.at_
  ·rw [if_neg q,if_pos rfl]; exact h.at_
 refine ⟨_,j,fl,rfl,h.seg.trans d (qdr d hc.len ha hb (by omega) (by omega) (by omega) (by omega)),by omega,by omega,fun k k1 k2=> ?_,fun k k1 k2=> ?_⟩
 ·rw [gj,g k (by omega)]
  by_cases q:k=a
  ·rw [if_pos q]; exact h.lo j (by omega) (by omega)
  ·rw [if_neg q,if_neg (by omega)]; exact h.lo k (by omega) (by omega)
 ·rw [gj,g k (by omega),if_neg (by omega),if_neg (by omega)]; exact h.hi k k1 k2
theorem qsH.swap {a b:Int} {xs ys:List α} {p:α} {i j:Int} (h:qsH d n le a b xs p ys i j) (hc:Ck P n ys) (ha:0≤a) (hb:b≤(n:Int)) (hij:i<j) (hj:le (qf ys j d) p) (hi:le p (qf ys i d)):qsH d n le a b xs p (swp d ys i j) (i+1) (j - 1):=by
 have h1:=h.ai; have h2:=h.ij; have h3:=h.jb
 have g:=qd6 d hc.len (i:=i) (j:=j) (by omega) (by omega) (by omega) (by omega)
 refine ⟨h.seg.trans d (qdr d hc.len ha hb (by omega) (by omega) (by omega) (by omega)),by omega,by omega,by omega,?_,fun k k1 k2=> ?_,fun k k1 k2=> ?_⟩
 ·rw [g a ha,if_neg (by omega),if_neg (by omega)]; exact h.at_
 ·rw [g k (by omega),if_neg (by omega)]
  by_cases q:k=i
  ·rw [if_pos q]; exact hj
  ·rw [if_neg q]; exact h.lo k k1 (by omega)
 ·rw [g k (by omega)]
  by_cases q:k=j
  ·rw [if_pos q]; exact hi
  ·rw [if_neg q,if_neg (by omega)]; exact h.hi k (by omega) k2
theorem qtg (hφ:Cmp P φ le) (hn:n≤1099511627776) (hN:n+1<N) {xs:List α} (h:Ck P n xs) {a b pv:Int} (ha:0≤a) (hpa:a≤pv) (hpb:pv<b) (hb:b≤(n:Int)):qqx d n le a b xs (qgv d N (xs,(a,(b,(pv,(φ,())))))):=by
 have e1:qE .i64 b 1=b - 1:=qak (by omega) (by omega)
 have e2:qI .i64 a 1=a+1:=qas (by omega) (by omega)
 have pp:=h.get d (i:=pv) (by omega) (by omega)
 simp only [qgv,qJ,e1,e2,h.inB (i:=a) (by omega) (by omega),h.inB (i:=pv) (by omega) (by omega),qdf,Bool.and_self,cond_true]
 have g:=qd6 d h.len (i:=a) (j:=pv) (by omega) (by omega) (by omega) (by omega)
 have ini:qaM (qaM xs a (qf xs pv d)) pv (qf xs a d)=swp d xs a pv:=rfl
 have ga:qf (swp d xs a pv) a d=qf xs pv d:=by
  rw [g a ha]
  by_cases q:a=pv
  ·rw [if_pos q,q]
  ·rw [if_neg q,if_pos rfl]
 rw [ini]
 obtain ⟨p,hp⟩:∃p,qf xs pv d=p:=⟨_,rfl⟩
 rw [hp] at pp ga
 have hs0:=qdr d h.len ha hb (i:=a) (j:=pv) (by omega) (by omega) hpa hpb
 have hc0:=hs0.ck d h
 refine qat (S:=List α×(Int×Unit)) (fun q=>(b - q.2.1).toNat) (fun q=>q.1=swp d xs a pv∧a<q.2.1∧q.2.1≤b∧∀k,a<k→k<q.2.1→le (qf (swp d xs a pv) k d) p) (qqx d n le a b xs) ?_ N _ ⟨rfl,by simp only; omega,by simp only; omega,fun k k1 k2=>by simp only at k2; omega⟩ (by simp only; omega)
 rintro ih ⟨ys,i,⟨⟩⟩ ⟨hy,hi,hib,hlo⟩ hih
 simp only at hy hi hib hlo hih⊢
 subst hy
 generalize swp d xs a pv=ys at *
 have ba:=hc0.inB (i:=a) (by omega) (by omega)
 obtain ⟨w1,w2⟩:=qoy hφ (G:=leI i (b - 1)) (b1:=inB i (qn ys)) (b2:=inB a (qn ys)) (u:=qf ys i d) (v:=qf ys a d) (fun q=>by
   have:i≤b - 1:=by rw [qbd] at q; exact of_decide_eq_true q
   exact hc0.inB (by omega) (by omega)) (fun _=>ba) (fun q=>by
   have:i≤b - 1:=by rw [qbd] at q; exact of_decide_eq_true q
   exact ⟨hc0.get d (by omega) (by omega),by rw [ga]; exact pp⟩)
 simp only [w1,cond_true]
 by_cases q1:(leI i (b - 1)&&ltI (qh (φ (qf ys i d,(qf ys a d,()))) (0,())).1 0)=true
 ·simp only [q1,cond_true]
  simp only [Bool.and_eq_true] at q1
  have:i≤b - 1:=by have:=q1.1; rw [qbd] at this; exact of_decide_eq_true this
  have e3:qI .i64 i 1=i+1:=qas (by omega) (by omega)
  have hle:=(w2 q1.1).1 q1.2
  rw [ga] at hle
  rw [e3]
  exact hih _ ⟨rfl,by simp only; omega,by simp only; omega,fun k k1 k2=>by
   by_cases hk:k=i
   ·rw [hk]; exact hφ.flip (hc0.get d (by omega) (by omega)) pp hle
   ·exact hlo k k1 (by simp only at k2; omega)⟩ (by simp only; omega)
 have q1f:(leI i (b - 1)&&ltI (qh (φ (qf ys i d,(qf ys a d,()))) (0,())).1 0)=false:=by simpa using q1
 have hi1:i≤b - 1→le p (qf ys i d):=fun w=>by
  rw [leT w,Bool.true_and] at q1f
  have:=(w2 (leT w)).2 q1f
  rwa [ga] at this
 simp only [q1f,cond_false]
 refine qat (S:=List α×(Int×Unit)) (fun q=>(q.2.1+1 - i).toNat) (fun q=>q.1=ys∧i≤q.2.1+1∧q.2.1<b∧∀k,q.2.1<k→k<b→le p (qf ys k d)) (qqx d n le a b xs) ?_ N _ ⟨rfl,by simp only; omega,by simp only; omega,fun k k1 k2=>by simp only at k1; omega⟩ (by simp only; omega)
 rintro jh ⟨ys',j,⟨⟩⟩ ⟨hy',hj1,hj2,hhi⟩ hjh
 simp only at hy' hj1 hj2 hhi hjh⊢
 subst hy'
 obtain ⟨u1,u2⟩:=qoy hφ (G:=leI i j) (b1:=inB j (qn ys')) (b2:=inB a (qn ys')) (u:=qf ys' j d) (v:=qf ys' a d) (fun q=>by
   have:i≤j:=by rw [qbd] at q; exact of_decide_eq_true q
   exact hc0.inB (by omega) (by omega)) (fun _=>ba) (fun q=>by
   have:i≤j:=by rw [qbd] at q; exact of_decide_eq_true q
   exact ⟨hc0.get d (by omega) (by omega),by rw [ga]; exact pp⟩)
 simp only [u1,cond_true]
 by_cases q2:(leI i j&& !ltI (qh (φ (qf ys' j d,(qf ys' a d,()))) (0,())).1 0)=true
 ·simp only [q2,cond_true]
  simp only [Bool.and_eq_true,Bool.not_eq_true'] at q2
  have:i≤j:=by have:=q2.1; rw [qbd] at this; exact of_decide_eq_true this
  have e3:qE .i64 j 1=j - 1:=qak (by omega) (by omega)
  have hle:=(u2 q2.1).2 q2.2
  rw [ga] at hle
  rw [e3]
  exact hjh _ ⟨rfl,by simp only; omega,by simp only; omega,fun k k1 k2=>by
   by_cases hk:k=j
   ·rw [hk]; exact hle
   ·exact hhi k (by simp only at k1; omega) k2⟩ (by simp only; omega)
 have q2f:(leI i j&& !ltI (qh (φ (qf ys' j d,(qf ys' a d,()))) (0,())).1 0)=false:=by simpa using q2
 simp only [q2f,cond_false]
 have hinv:qsH d n le a b xs p ys' i j:=⟨hs0,hi,hj1,hj2,ga,hlo,hhi⟩
 by_cases q3:j<i
 ·simp only [ltT q3,cond_true,ba,hc0.inB (i:=j) (by omega) (by omega),Bool.and_self]
  exact hinv.fin d hc0 ha hb q3 true
 simp only [ltF q3,cond_false,hc0.inB (i:=i) (by omega) (by omega),hc0.inB (i:=j) (by omega) (by omega),Bool.and_self,cond_true]
 have hij:i≤j:=by omega
 have ltj:ltI (qh (φ (qf ys' j d,(qf ys' a d,()))) (0,())).1 0=true:=by
  rw [leT hij,Bool.true_and] at q2f
  simpa using q2f
 have nlj:=(u2 (leT hij)).1 ltj
 rw [ga] at nlj
 have hjp:=hφ.flip (hc0.get d (i:=j) (by omega) (by omega)) pp nlj
 have hpi:=hi1 (by omega)
 have hne:i≠j:=fun w=>nlj (by rw [←w]; exact hpi)
 have e3:qI .i64 i 1=i+1:=qas (by omega) (by omega)
 have e4:qE .i64 j 1=j - 1:=qak (by omega) (by omega)
 rw [e3,e4]
 have hinv2:=hinv.swap d hc0 ha hb (by omega) hjp hpi
 refine qat (S:=List α×(Int×(Int×Unit))) (fun q=>(q.2.2.1+1 - q.2.1).toNat) (fun q=>qsH d n le a b xs p q.1 q.2.1 q.2.2.1) (qqx d n le a b xs) ?_ N (swp d ys' i j,(i+1,(j - 1,()))) hinv2 (by simp only; omega)
 clear hinv2 hinv hne hpi hjp nlj ltj hij q3 q2f q2 u1 u2 hhi hj1 hj2 hjh hi1 q1f q1 w1 w2 hlo hi hib hih e3 e4 jh ih
 rintro ih ⟨zs,i,j,⟨⟩⟩ hz hih
 simp only at hz hih⊢
 have hzc:=hz.seg.ck d h
 have za:=hz.at_
 have z1:=hz.ai; have z2:=hz.ij; have z3:=hz.jb
 have ba:=hzc.inB (i:=a) (by omega) (by omega)
 refine qat (S:=List α×(Int×(Int×Unit))) (fun q=>(q.2.2.1+1 - q.2.1).toNat) (fun q=>q.1=zs∧q.2.2.1=j∧i≤q.2.1∧qsH d n le a b xs p zs q.2.1 j) (qqx d n le a b xs) ?_ N _ ⟨rfl,rfl,Int.le_refl _,hz⟩ (by simp only; omega)
 rintro jh ⟨zs',i2,j',⟨⟩⟩ ⟨hy',hj',hi2,hz2⟩ hjh
 simp only at hy' hj' hi2 hz2 hjh⊢
 subst hy'
 subst hj'
 have y1:=hz2.ai; have y2:=hz2.ij
 obtain ⟨w1,w2⟩:=qoy hφ (G:=leI i2 j') (b1:=inB i2 (qn zs')) (b2:=inB a (qn zs')) (u:=qf zs' i2 d) (v:=qf zs' a d) (fun q=>by
   have:i2≤j':=by rw [qbd] at q; exact of_decide_eq_true q
   exact hzc.inB (by omega) (by omega)) (fun _=>ba) (fun q=>by
   have:i2≤j':=by rw [qbd] at q; exact of_decide_eq_true q
   exact ⟨hzc.get d (by omega) (by omega),by rw [za]; exact pp⟩)
 simp only [w1,cond_true]
 by_cases q1:(leI i2 j'&&ltI (qh (φ (qf zs' i2 d,(qf zs' a d,()))) (0,())).1 0)=true
 ·simp only [q1,cond_true]
  simp only [Bool.and_eq_true] at q1
  have:i2≤j':=by have:=q1.1; rw [qbd] at this; exact of_decide_eq_true this
  have e3:qI .i64 i2 1=i2+1:=qas (by omega) (by omega)
  have hle:=(w2 q1.1).1 q1.2
  rw [za] at hle
  rw [e3]
  have hnew:qsH d n le a b xs p zs' (i2+1) j':=⟨hz2.seg,by omega,by omega,hz2.jb,za,fun k k1 k2=>by
   by_cases hk:k=i2
   ·rw [hk]; exact hφ.flip (hzc.get d (by omega) (by omega)) pp hle
   ·exact hz2.lo k k1 (by omega),hz2.hi⟩
  exact hjh _ ⟨rfl,rfl,by simp only; omega,hnew⟩ (by simp only; omega)
 have q1f:(leI i2 j'&&ltI (qh (φ (qf zs' i2 d,(qf zs' a d,()))) (0,())).1 0)=false:=by simpa using q1
 have hi1:i2≤j'→le p (qf zs' i2 d):=fun w=>by
  rw [leT w,Bool.true_and] at q1f
  have:=(w2 (leT w)).2 q1f
  rwa [za] at this
 simp only [q1f,cond_false]
 refine qat (S:=List α×(Int×Unit)) (fun q=>(q.2.1+1 - i2).toNat) (fun q=>q.1=zs'∧q.2.1≤j'∧qsH d n le a b xs p zs' i2 q.2.1) (qqx d n le a b xs) ?_ N _ ⟨rfl,by simp only; omega,hz2⟩ (by simp only; omega)
 rintro kh ⟨zs2,j2,⟨⟩⟩ ⟨hy2,hj2,hz3⟩ hkh
 simp only at hy2 hj2 hz3 hkh⊢
 subst hy2
 have x2:=hz3.ij; have x3:=hz3.jb
 obtain ⟨u1,u2⟩:=qoy hφ (G:=leI i2 j2) (b1:=inB j2 (qn zs2)) (b2:=inB a (qn zs2)) (u:=qf zs2 j2 d) (v:=qf zs2 a d) (fun q=>by
   have:i2≤j2:=by rw [qbd] at q; exact of_decide_eq_true q
   exact hzc.inB (by omega) (by omega)) (fun _=>ba) (fun q=>by
   have:i2≤j2:=by rw [qbd] at q; exact of_decide_eq_true q
   exact ⟨hzc.get d (by omega) (by omega),by rw [za]; exact pp⟩)
 simp only [u1,cond_true]
 by_cases q2:(leI i2 j2&& !ltI (qh (φ (qf zs2 j2 d,(qf zs2 a d,()))) (0,())).1 0)=true
 ·simp only [q2,cond_true]
  simp only [Bool.and_eq_true,Bool.not_eq_true'] at q2
  have:i2≤j2:=by have:=q2.1; rw [qbd] at this; exact of_decide_eq_true this
  have e3:qE .i64 j2 1=j2 - 1:=qak (by omega) (by omega)
  have hle:=(u2 q2.1).2 q2.2
  rw [za] at hle
  rw [e3]
  have hnew:qsH d n le a b xs p zs2 i2 (j2 - 1):=⟨hz3.seg,hz3.ai,by omega,by omega,za,hz3.lo,fun k k1 k2=>by
   by_cases hk:k=j2
   ·rw [hk]; exact hle
   ·exact hz3.hi k (by omega) k2⟩
  exact hkh _ ⟨rfl,by simp only; omega,hnew⟩ (by simp only; omega)
 have q2f:(leI i2 j2&& !ltI (qh (φ (qf zs2 j2 d,(qf zs2 a d,()))) (0,())).1 0)=false:=by simpa using q2
 simp only [q2f,cond_false]
 by_cases q3:j2<i2
 ·simp only [ltT q3,cond_true,ba,hzc.inB (i:=j2) (by omega) (by omega),Bool.and_self]
  exact hz3.fin d hzc ha hb q3 false
 simp only [ltF q3,cond_false,hzc.inB (i:=i2) (by omega) (by omega),hzc.inB (i:=j2) (by omega) (by omega),Bool.and_self,cond_true]
 have hij:i2≤j2:=by omega
 have ltj:ltI (qh (φ (qf zs2 j2 d,(qf zs2 a d,()))) (0,())).1 0=true:=by
  rw [leT hij,Bool.true_and] at q2f
  simpa using q2f
 have nlj:=(u2 (leT hij)).1 ltj
 rw [za] at nlj
 have hjp:=hφ.flip (hzc.get d (i:=j2) (by omega) (by omega)) pp nlj
 have hpi:=hi1 (by omega)
 have hne:i2≠j2:=fun w=>nlj (by rw [←w]; exact hpi)
 have e3:qI .i64 i2 1=i2+1:=qas (by omega) (by omega)
 have e4:qE .i64 j2 1=j2 - 1:=qak (by omega) (by omega)
 rw [e3,e4]
 exact hih (swp d zs2 i2 j2,(i2+1,(j2 - 1,()))) (hz3.swap d hzc ha hb (by omega) hjp hpi) (by simp only; omega)
theorem qou (hφ:Cmp P φ le) {ys:List α} (h:Ck P n ys) {i j s:Int} (i0:0≤i) (i1:i<(n:Int)) (j0:0≤j) (j1:j<(n:Int)):∃p q s',qit d N (ys,(i,(j,(s,(φ,())))))=some ((p,(q,())),(ys,(s',())))∧((p=i∧q=j)∨(p=j∧q=i)):=by
 obtain ⟨c,a1,a2⟩:=hφ.ans _ _ (h.get d j0 j1) (h.get d i0 i1)
 simp only [qit,h.inB j0 j1,h.inB i0 i1,a1,qd,qg,Bool.and_self,cond_true]
 cases ltI c 0 with
 |true=>exact ⟨_,_,_,rfl,.inr ⟨rfl,rfl⟩⟩
 |false=>exact ⟨_,_,_,rfl,.inl ⟨rfl,rfl⟩⟩
theorem qm6 (hφ:Cmp P φ le) {ys:List α} (h:Ck P n ys) {i j k s:Int} (i0:0≤i) (i1:i<(n:Int)) (j0:0≤j) (j1:j<(n:Int)) (k0:0≤k) (k1:k<(n:Int)):∃m s',qhM d N (ys,(i,(j,(k,(s,(φ,()))))))=some ((m,()),(ys,(s',())))∧(m=i∨m=j∨m=k):=by
 obtain ⟨p1,q1,s1,e1,c1⟩:=qou d (N:=N) hφ h (s:=s) i0 i1 j0 j1
 obtain ⟨p2,q2,s2,e2,c2⟩:=qou d (N:=N) hφ h (i:=q1) (j:=k) (s:=s1) (by omega) (by omega) k0 k1
 obtain ⟨p3,q3,s3,e3,c3⟩:=qou d (N:=N) hφ h (i:=p1) (j:=p2) (s:=s2) (by omega) (by omega) (by omega) (by omega)
 simp only [qhM,qJ,e1,e2,e3,qd,qg,cond_true]
 exact ⟨q3,s3,rfl,by omega⟩
theorem qmW (hφ:Cmp P φ le) (hn:n≤1099511627776) {ys:List α} (h:Ck P n ys) {i s:Int} (i0:1≤i) (i1:i+1<(n:Int)):∃m s',qy d N (ys,(i,(s,(φ,()))))=some ((m,()),(ys,(s',())))∧i - 1≤m∧m≤i+1:=by
 have e1:qE .i64 i 1=i - 1:=qak (by omega) (by omega)
 have e2:qI .i64 i 1=i+1:=qas (by omega) (by omega)
 obtain ⟨m,s',e3,c⟩:=qm6 d (N:=N) hφ h (i:=i - 1) (j:=i) (k:=i+1) (s:=s) (by omega) (by omega) (by omega) (by omega) (by omega) (by omega)
 simp only [qy,e1,e2,e3,qd,qg,cond_true]
 exact ⟨m,s',rfl,by omega,by omega⟩
theorem qtz (hφ:Cmp P φ le) (hn:n≤1099511627776) {ys:List α} (h:Ck P n ys) {a b:Int} (ha:0≤a) (hab:a+8≤b) (hb:b≤(n:Int)):∃m t,qgq d N (ys,(a,(b,(φ,()))))=some ((m,(t,())),(ys,()))∧a≤m∧m<b:=by
 have e1:qE .i64 b a=b - a:=qak (by omega) (by omega)
 have e2:qlL .i64 (b - a) 4=(b - a) / 4:=by rw [qiN,Int.tdiv_eq_ediv_of_nonneg (by omega),qdm (by omega) (by omega)]
 have e3:qkw .i64 ((b - a) / 4) 1=(b - a) / 4:=by rw [qdJ,qdm (by omega) (by omega)]; omega
 have e4:qkw .i64 ((b - a) / 4) 2=(b - a) / 4 * 2:=by rw [qdJ,qdm (by omega) (by omega)]
 have e5:qkw .i64 ((b - a) / 4) 3=(b - a) / 4 * 3:=by rw [qdJ,qdm (by omega) (by omega)]
 have e6:qI .i64 a ((b - a) / 4)=a+(b - a) / 4:=qas (by omega) (by omega)
 have e7:qI .i64 a ((b - a) / 4 * 2)=a+(b - a) / 4 * 2:=qas (by omega) (by omega)
 have e8:qI .i64 a ((b - a) / 4 * 3)=a+(b - a) / 4 * 3:=qas (by omega) (by omega)
 simp only [qgq,qJ,e1,e2,e3,e4,e5,e6,e7,e8,neT (show ¬(4:Int)=0 by omega),leT (show (8:Int)≤b - a by omega),cond_true]
 have fin:∀(m s:Int),a≤m→m<b→∃m' t,(bif eqI s 0 then some ((m,((1:Int),())),(ys,())) else (bif eqI s 12 then some ((m,((2:Int),())),(ys,())) else some ((m,((0:Int),())),(ys,()))))=some ((m',(t,())),(ys,()))∧a≤m'∧m'<b:=fun m s h1 h2=>by
  cases eqI s 0 with
  |true=>exact ⟨_,_,rfl,h1,h2⟩
  |false=>
   cases eqI s 12 with
   |true=>exact ⟨_,_,rfl,h1,h2⟩
   |false=>exact ⟨_,_,rfl,h1,h2⟩
 generalize hq:(b - a) / 4=q at *
 by_cases h50:50≤b - a
 ·obtain ⟨m1,s1,f1,g1,g1'⟩:=qmW d (N:=N) hφ hn h (i:=a+q) (s:=0) (by omega) (by omega)
  obtain ⟨m2,s2,f2,g2,g2'⟩:=qmW d (N:=N) hφ hn h (i:=a+q * 2) (s:=s1) (by omega) (by omega)
  obtain ⟨m3,s3,f3,g3,g3'⟩:=qmW d (N:=N) hφ hn h (i:=a+q * 3) (s:=s2) (by omega) (by omega)
  obtain ⟨m4,s4,f4,g4⟩:=qm6 d (N:=N) hφ h (i:=m1) (j:=m2) (k:=m3) (s:=s3) (by omega) (by omega) (by omega) (by omega) (by omega) (by omega)
  simp only [leT h50,cond_true,f1,f2,f3,f4,qd,qg,Bool.and_self]
  exact fin m4 s4 (by omega) (by omega)
 ·obtain ⟨m4,s4,f4,g4⟩:=qm6 d (N:=N) hφ h (i:=a+q) (j:=a+q * 2) (k:=a+q * 3) (s:=0) (by omega) (by omega) (by omega) (by omega) (by omega) (by omega)
  simp only [leF h50,cond_true,cond_false,f4,qd,qg,Bool.and_self]
  exact fin m4 s4 (by omega) (by omega)
def qsm (L:(Int×Unit)→Option ((Int×Unit)×Unit)):Prop:=∀k:Nat,k≤1099511627776→∃e:Nat,L ((k:Int),())=some (((e:Int),()),())∧e≤41∧(1≤k→2^e≤2 * k)
theorem qwb {x m:Int} (h0:0≤m) (h1:m<18446744073709551616):0≤quD .u64 x m∧quD .u64 x m≤m:=by
 have hm:(BitVec.ofInt 64 m).toNat=m.toNat:=by rw [BitVec.toNat_ofInt,show ((2^64:Nat):Int)=18446744073709551616 by decide,Int.emod_eq_of_lt h0 h1]
 have hle:(BitVec.ofInt 64 x&&& BitVec.ofInt 64 m).toNat≤m.toNat:=by rw [BitVec.toNat_and,hm]; exact Nat.and_le_right
 rw [qlZ]
 show 0≤IntKind.wrap .u64 (((BitVec.ofInt 64 x&&& BitVec.ofInt 64 m).toNat:Nat):Int)∧IntKind.wrap .u64 (((BitVec.ofInt 64 x&&& BitVec.ofInt 64 m).toNat:Nat):Int)≤m
 rw [qeT (by omega) (by omega)]
 omega
theorem qtk {L:(Int×Unit)→Option ((Int×Unit)×Unit)} (hL:qsm L) (hn:n≤1099511627776) (hN:n+10<N) {xs:List α} (h:Ck P n xs) {a b:Int} (ha:0≤a) (hab:a+8≤b) (hb:b≤(n:Int)):∃out,qhI d N L (xs,(a,(b,(φ,()))))=some ((),(out,()))∧Seg d n a b xs out:=by
 have e1:qE .i64 b a=b - a:=qak (by omega) (by omega)
 have e2:qlL .i64 (b - a) 4=(b - a) / 4:=by rw [qiN,Int.tdiv_eq_ediv_of_nonneg (by omega),qdm (by omega) (by omega)]
 have e4:qkw .i64 ((b - a) / 4) 2=(b - a) / 4 * 2:=by rw [qdJ,qdm (by omega) (by omega)]
 have e7:qI .i64 a ((b - a) / 4 * 2)=a+(b - a) / 4 * 2:=qas (by omega) (by omega)
 have e8:qE .i64 (a+(b - a) / 4 * 2) 1=a+(b - a) / 4 * 2 - 1:=qak (by omega) (by omega)
 have e9:qI .i64 (a+(b - a) / 4 * 2) 1=a+(b - a) / 4 * 2+1:=qas (by omega) (by omega)
 have eA:qcr .u64 (b - a)=b - a:=by rw [qd7,qeT (by omega) (by omega)]
 obtain ⟨e,l1,l2,l3⟩:=hL (b - a).toNat (by omega)
 have lk:((b - a).toNat:Int)=b - a:=by omega
 rw [lk] at l1
 have l4:=l3 (by omega)
 have hpow:(1:Nat)≤2^e:=Nat.one_le_two_pow
 have eB:qkR .u64 1 (e:Int)=((2^e:Nat):Int):=by
  rw [ql6]
  have hm:min (e:Int).toNat IntKind.u64.bits=e:=by
   show min (e:Int).toNat 64=e
   omega
  rw [hm,Int.one_mul,show ((2:Int)^e)=((2^e:Nat):Int) by rw [Int.natCast_pow]; rfl,qeT (by omega) (by omega)]
 have eC:qE .u64 ((2^e:Nat):Int) 1=((2^e:Nat):Int) - 1:=by rw [qko,qeT (by omega) (by omega)]
 have hpw:qrq L (b - a,())=some ((((2^e:Nat):Int),()),()):=by
  simp only [qrq,eA,l1,qd,qg,leT (Int.natCast_nonneg e),Bool.and_self,cond_true,eB]
 simp only [qhI,qJ,e1,e2,e4,e7,e8,e9,eA,neT (show ¬(4:Int)=0 by omega),leT (show (8:Int)≤b - a by omega),cond_true,hpw,qd,qg,eC]
 generalize hq:(b - a) / 4=q at *
 generalize hpp:(2^e:Nat)=pw at *
 refine qat (S:=List α×(Int×(Int×Unit))) (fun p=>(a+q * 2+2 - p.2.2.1).toNat) (fun p=>Seg d n a b xs p.1∧a+q * 2 - 1≤p.2.2.1) (fun r=>∃out,r=some ((),(out,()))∧Seg d n a b xs out) ?_ N _ ⟨.refl d _ _ xs,by simp only; omega⟩ (by simp only; omega)
 rintro ih ⟨ys,r,idx,⟨⟩⟩ ⟨hs,hi⟩ hih
 simp only at hs hi hih⊢
 have hc:=hs.ck d h
 by_cases hx:idx≤a+q * 2+1
 ·have hnx:∃v,qpI (r,())=some ((v,()),(v,())):=by
   simp only [qpI,leT (show (0:Int)≤13 by omega),leT (show (0:Int)≤7 by omega),leT (show (0:Int)≤17 by omega),cond_true]
   exact ⟨_,rfl⟩
  obtain ⟨v,hv⟩:=hnx
  obtain ⟨b1,b2⟩:=qwb (x:=v) (m:=(pw:Int) - 1) (by omega) (by omega)
  simp only [leT hx,cond_true,hv,qd,qg]
  generalize quD .u64 v ((pw:Int) - 1)=w at *
  have ew:qcr .i64 w=w:=qqF (by omega) (by omega)
  have es:qE .i64 w (b - a)=w - (b - a):=qak (by omega) (by omega)
  rw [ew,es]
  obtain ⟨o,ho,o0,o1⟩:∃o,(bif leI (b - a) w then w - (b - a) else w)=o∧0≤o∧o<b - a:=by
   by_cases hw:b - a≤w
   ·exact ⟨_,by rw [leT hw,cond_true],by omega,by omega⟩
   ·exact ⟨_,by rw [leF hw,cond_false],by omega,by omega⟩
  have ea:qI .i64 a o=a+o:=qas (by omega) (by omega)
  have ei:qI .i64 idx 1=idx+1:=qas (by omega) (by omega)
  simp only [ho,ea,ei,qdf,hc.inB (i:=idx) (by omega) (by omega),hc.inB (i:=a+o) (by omega) (by omega),Bool.and_self,cond_true]
  exact hih (swp d ys idx (a+o),(v,(idx+1,()))) ⟨hs.trans d (qdr d hc.len ha hb (by omega) (by omega) (by omega) (by omega)),by simp only; omega⟩ (by simp only; omega)
 ·simp only [leF hx,cond_false]
  exact ⟨ys,rfl,hs⟩
def Pre (d:α) (le:α→α→Prop) (a b:Int) (xs:List α):Prop:=0<a→∀k,a≤k→k<b→le (qf xs (a - 1) d) (qf xs k d)
theorem Seg.pre {a b:Int} {xs ys:List α} (h:Seg d n a b xs ys) (hb:b≤(n:Int)) (hp:Pre d le a b xs):Pre d le a b ys:=fun a0 k k1 k2=>by
 obtain ⟨m,m1,m2,m3⟩:=h.inn k k1 k2
 rw [h.out (a - 1) (by omega) (by omega) (by omega),m3]
 exact hp a0 m m1 m2
theorem qjB (hφ:Cmp P φ le) {u v:α} (pu:P u) (pv:P v):∃c,φ (u,(v,()))=some (c,())∧((c<0)∧¬le v u∧le u v∨¬(c<0)∧le v u):=by
 obtain ⟨c,a1,a2⟩:=hφ.ans u v pu pv
 by_cases hc:c<0
 ·exact ⟨c,a1,.inl ⟨hc,a2.1 hc,hφ.flip pu pv (a2.1 hc)⟩⟩
 ·exact ⟨c,a1,.inr ⟨hc,Classical.byContradiction fun w=>hc (a2.2 w)⟩⟩
def shR {R:Type} (d:α) (N:Nat) (b:Int) (φ:(α×(α×Unit))→Option (Int×Unit)) (K:List α→Option R) (xs:List α) (j:Int):Option R:=
 qY (S:=List α×(Int×Unit)) (R:=R) N (fun ih7=>(fun p8=>(bif (ltI p8.2.1 b) then (bif ((inB p8.2.1 (qn p8.1))&&((inB (qE .i64 p8.2.1 1) (qn p8.1))&&(qu (φ ((qf p8.1 p8.2.1 d),((qf p8.1 (qE .i64 p8.2.1 1) d),())))))) then (bif (!(ltI (qh (φ ((qf p8.1 p8.2.1 d),((qf p8.1 (qE .i64 p8.2.1 1) d),()))) (0,())).1 0)) then K p8.1 else (bif ((inB (qE .i64 p8.2.1 1) (qn p8.1))&&((inB p8.2.1 (qn p8.1))&&((inB p8.2.1 (qn p8.1))&&(inB (qE .i64 p8.2.1 1) (qn (qaM p8.1 p8.2.1 (qf p8.1 (qE .i64 p8.2.1 1) d))))))) then (ih7 ((qaM (qaM p8.1 p8.2.1 (qf p8.1 (qE .i64 p8.2.1 1) d)) (qE .i64 p8.2.1 1) (qf p8.1 p8.2.1 d)),((qI .i64 p8.2.1 1),()))) else none)) else none) else K p8.1))) (xs,(j,()))
def shL {R:Type} (d:α) (N:Nat) (φ:(α×(α×Unit))→Option (Int×Unit)) (K:List α→Option R) (xs:List α) (j:Int):Option R:=
 qY (S:=List α×(Int×Unit)) (R:=R) N (fun ih5=>(fun p6=>(bif (leI 1 p6.2.1) then (bif ((inB p6.2.1 (qn p6.1))&&((inB (qE .i64 p6.2.1 1) (qn p6.1))&&(qu (φ ((qf p6.1 p6.2.1 d),((qf p6.1 (qE .i64 p6.2.1 1) d),())))))) then (bif (!(ltI (qh (φ ((qf p6.1 p6.2.1 d),((qf p6.1 (qE .i64 p6.2.1 1) d),()))) (0,())).1 0)) then K p6.1 else (bif ((inB (qE .i64 p6.2.1 1) (qn p6.1))&&((inB p6.2.1 (qn p6.1))&&((inB p6.2.1 (qn p6.1))&&(inB (qE .i64 p6.2.1 1) (qn (qaM p6.1 p6.2.1 (qf p6.1 (qE .i64 p6.2.1 1) d))))))) then (ih5 ((qaM (qaM p6.1 p6.2.1 (qf p6.1 (qE .i64 p6.2.1 1) d)) (qE .i64 p6.2.1 1) (qf p6.1 p6.2.1 d)),((qE .i64 p6.2.1 1),()))) else none)) else none) else K p6.1))) (xs,(j,()))
def pinR {R:Type} (d:α) (N:Nat) (b:Int) (φ:(α×(α×Unit))→Option (Int×Unit)) (i:Int) (K:List α→Option R) (ys:List α):Option R:=
 bif leI 2 (qE .i64 b i) then shR d N b φ K ys (qI .i64 i 1) else K ys
def pinT (d:α) (N:Nat) (a b i:Int) (φ:(α×(α×Unit))→Option (Int×Unit)) (K:List α→Option ((Bool×Unit)×(List α×Unit))) (ys:List α):Option ((Bool×Unit)×(List α×Unit)):=
 bif eqI i b then some ((true,()),(ys,())) else bif ltI (qE .i64 b a) 50 then some ((false,()),(ys,())) else
  bif ((inB (qE .i64 i 1) (qn ys))&&((inB i (qn ys))&&((inB i (qn ys))&&(inB (qE .i64 i 1) (qn (qaM ys i (qf ys (qE .i64 i 1) d))))))) then
   (bif leI 2 (qE .i64 i a) then shL d N φ (pinR d N b φ i K) (qaM (qaM ys i (qf ys (qE .i64 i 1) d)) (qE .i64 i 1) (qf ys i d)) (qE .i64 i 1)
    else pinR d N b φ i K (qaM (qaM ys i (qf ys (qE .i64 i 1) d)) (qE .i64 i 1) (qf ys i d))) else none
theorem qtJ (x:List α×(Int×(Int×(((α×(α×Unit))→(Option (Int×Unit)))×Unit)))):qcO d N x=
  qL (qI .i64 x.2.1 1) (fun y0=>qY (S:=(List α×(Int×(Int×Unit)))) (R:=((Bool×Unit)×(List α×Unit))) N (fun ih1=>(fun p2=>(bif (ltI p2.2.2.1 5) then
   (qY (S:=(List α×(Int×Unit))) (R:=((Bool×Unit)×(List α×Unit))) N (fun ih3=>(fun p4=>(bif (((!(ltI p4.2.1 x.2.2.1))||(inB p4.2.1 (qn p4.1)))&&(((!(ltI p4.2.1 x.2.2.1))||(inB (qE .i64 p4.2.1 1) (qn p4.1)))&&((!(ltI p4.2.1 x.2.2.1))||(qu (x.2.2.2.1 ((qf p4.1 p4.2.1 d),((qf p4.1 (qE .i64 p4.2.1 1) d),()))))))) then
    (bif ((ltI p4.2.1 x.2.2.1)&&(!(ltI (qh (x.2.2.2.1 ((qf p4.1 p4.2.1 d),((qf p4.1 (qE .i64 p4.2.1 1) d),()))) (0,())).1 0))) then (ih3 (p4.1,((qI .i64 p4.2.1 1),())))
     else pinT d N x.2.1 x.2.2.1 p4.2.1 x.2.2.2.1 (fun ys=>ih1 (ys,(p4.2.1,((qI .i64 p2.2.2.1 1),())))) p4.1) else none))) (p2.1,(p2.2.1,()))) else (some ((false,()),(p2.1,())))))) (x.1,(y0,(0,())))):=rfl
theorem shR_ok {R:Type} (hφ:Cmp P φ le) (hn:n≤1099511627776) (hN:n+1<N) {K:List α→Option R} (Q:Option R→Prop) {xs:List α} (h:Ck P n xs) {i b:Int} (i0:0≤i) (hb:b≤(n:Int)) (hK:∀ys,Seg d n i b xs ys→Q (K ys)):Q (shR d N b φ K xs (i+1)):=by
 refine qat (S:=List α×(Int×Unit)) (fun p=>(b - p.2.1).toNat) (fun p=>Seg d n i b xs p.1∧i+1≤p.2.1) Q ?_ N _ ⟨.refl d _ _ xs,by simp only; omega⟩ (by simp only; omega)
 rintro ih ⟨ys,j,⟨⟩⟩ ⟨hs,hj⟩ hih
 simp only at hs hj hih⊢
 have hc:=hs.ck d h
 by_cases q:j<b
 ·have e1:qE .i64 j 1=j - 1:=qak (by omega) (by omega)
  have e2:qI .i64 j 1=j+1:=qas (by omega) (by omega)
  obtain ⟨c,a1,a2⟩:=qjB hφ (hc.get d (i:=j) (by omega) (by omega)) (hc.get d (i:=j - 1) (by omega) (by omega))
  simp only [ltT q,cond_true,e1,e2,hc.inB (i:=j) (by omega) (by omega),hc.inB (i:=j - 1) (by omega) (by omega),a1,qd,qg,Bool.and_self,qdf]
  rcases a2 with ⟨a3,-,-⟩|⟨a3,-⟩
  ·simp only [ltT a3,Bool.not_true,cond_false]
   exact hih (swp d ys j (j - 1),(j+1,())) ⟨hs.trans d (qdr d hc.len i0 hb (by omega) (by omega) (by omega) (by omega)),by simp only; omega⟩ (by simp only; omega)
  ·simp only [ltF a3,Bool.not_false,cond_true]
   exact hK ys hs
 ·simp only [ltF q,cond_false]
  exact hK ys hs
theorem qwH {R:Type} (hφ:Cmp P φ le) (hn:n≤1099511627776) (hN:n+1<N) {K:List α→Option R} (Q:Option R→Prop) {xs:List α} (h:Ck P n xs) {i b:Int} (i0:0≤i) (ib:i<b) (hb:b≤(n:Int)) (hK:∀ys,Seg d n i b xs ys→Q (K ys)):Q (pinR d N b φ i K xs):=by
 have e1:qE .i64 b i=b - i:=qak (by omega) (by omega)
 have e2:qI .i64 i 1=i+1:=qas (by omega) (by omega)
 simp only [pinR,e1,e2]
 by_cases q:2≤b - i
 ·rw [leT q,cond_true]; exact shR_ok d hφ hn hN Q h i0 hb hK
 ·rw [leF q,cond_false]; exact hK xs (.refl d _ _ xs)
theorem shL_ok {R:Type} (hφ:Cmp P φ le) (hn:n≤1099511627776) (hN:n+1<N) {K:List α→Option R} (Q:Option R→Prop) {xs:List α} (h:Ck P n xs) {a i b:Int} (a0:0≤a) (ia:a+2≤i) (ib:i<b) (hb:b≤(n:Int)) (hp:Pre d le a b xs) (hs0:Srt d le a (i - 1) xs) (hK:∀ys,Seg d n a b xs ys→Srt d le a i ys→Q (K ys)):Q (shL d N φ K xs (i - 1)):=by
 refine qat (S:=List α×(Int×Unit)) (fun p=>(p.2.1).toNat) (fun p=>Seg d n a b xs p.1∧a≤p.2.1∧p.2.1≤i - 1∧∀x y,a≤x→x<y→y≤i - 1→y≠p.2.1→le (qf p.1 x d) (qf p.1 y d)) Q ?_ N _ ⟨.refl d _ _ xs,by simp only; omega,by simp only; omega,fun x y h1 h2 h3 h4=>hs0 x y h1 (by omega) (by simp only at h4⊢; omega)⟩ (by simp only; omega)
 rintro ih ⟨zs,j,⟨⟩⟩ ⟨hz,hj1,hj2,hord⟩ hih
 simp only at hz hj1 hj2 hord hih⊢
 have hzc:=hz.ck d h
 have hpz:=hz.pre d hb hp
 have fin:(a<j→le (qf zs (j - 1) d) (qf zs j d))→Srt d le a i zs:=fun hle x y h1 h2 h3=>by
  by_cases hxy:x=y
  ·subst hxy; exact hφ.refl (hzc.get d (by omega) (by omega))
  by_cases hyj:y=j
  ·subst hyj
   by_cases hx:x=y - 1
   ·rw [hx]; exact hle (by omega)
   ·exact hφ.trans _ _ _ (hzc.get d (by omega) (by omega)) (hzc.get d (i:=y - 1) (by omega) (by omega)) (hzc.get d (by omega) (by omega)) (hord x (y - 1) h1 (by omega) (by omega) (by omega)) (hle (by omega))
  ·exact hord x y h1 (by omega) (by omega) hyj
 by_cases hj0:1≤j
 ·have e1:qE .i64 j 1=j - 1:=qak (by omega) (by omega)
  have pj:=hzc.get d (i:=j) (by omega) (by omega)
  have pk:=hzc.get d (i:=j - 1) (by omega) (by omega)
  obtain ⟨c,a1,a2⟩:=qjB hφ pj pk
  simp only [leT hj0,cond_true,e1,hzc.inB (i:=j) (by omega) (by omega),hzc.inB (i:=j - 1) (by omega) (by omega),a1,qd,qg,Bool.and_self,qdf]
  rcases a2 with ⟨a3,a4,hle⟩|⟨a3,a4⟩
  ·simp only [ltT a3,Bool.not_true,cond_false]
   have hja:a<j:=by
    by_cases w:a<j
    ·exact w
    ·have:j=a:=by omega
     subst this
     exact absurd (hpz (by omega) j (by omega) (by omega)) a4
   have g:=qd6 d hzc.len (i:=j) (j:=j - 1) (by omega) (by omega) (by omega) (by omega)
   refine hih (swp d zs j (j - 1),(j - 1,())) ⟨hz.trans d (qdr d hzc.len a0 hb (by omega) (by omega) (by omega) (by omega)),by simp only; omega,by simp only; omega,fun x y h1 h2 h3 h4=> ?_⟩ (by simp only; omega)
   simp only at h4⊢
   rw [g x (by omega),g y (by omega)]
   rw [if_neg h4]
   by_cases hy:y=j
   ·rw [if_pos hy]
    by_cases hx:x=j - 1
    ·rw [if_pos hx]; exact hle
    ·rw [if_neg hx,if_neg (by omega)]; exact hord x (j - 1) h1 (by omega) (by omega) (by omega)
   ·rw [if_neg hy]
    by_cases hx:x=j - 1
    ·rw [if_pos hx]; exact hord j y (by omega) (by omega) h3 hy
    ·rw [if_neg hx]
     by_cases hx2:x=j
     ·rw [if_pos hx2]; exact hord (j - 1) y (by omega) (by omega) h3 hy
     ·rw [if_neg hx2]; exact hord x y h1 h2 h3 hy
  ·simp only [ltF a3,Bool.not_false,cond_true]
   exact hK zs hz (fin fun _=>a4)
 ·simp only [leF hj0,cond_false]
  exact hK zs hz (fin fun w=>by omega)
def qlo (d:α) (n:Nat) (le:α→α→Prop) (a b:Int) (xs:List α) (r:Option ((Bool×Unit)×(List α×Unit))):Prop:=∃fl out,r=some ((fl,()),(out,()))∧Seg d n a b xs out∧(fl=true→Srt d le a b out)
theorem qtn (hφ:Cmp P φ le) (hn:n≤1099511627776) (hN:n+10<N) {xs:List α} (h:Ck P n xs) {a b:Int} (ha:0≤a) (hab:a<b) (hb:b≤(n:Int)) (hp:Pre d le a b xs):qlo d n le a b xs (qcO d N (xs,(a,(b,(φ,()))))):=by
 have e1:qI .i64 a 1=a+1:=qas (by omega) (by omega)
 rw [qtJ]
 simp only [qJ,e1]
 refine qat (S:=List α×(Int×(Int×Unit))) (fun p=>(5 - p.2.2.1).toNat) (fun p=>Seg d n a b xs p.1∧a+1≤p.2.1∧p.2.1≤b∧0≤p.2.2.1∧Srt d le a p.2.1 p.1) (qlo d n le a b xs) ?_ N _ ⟨.refl d _ _ xs,by simp only; omega,by simp only; omega,by simp only; omega,fun i j h1 h2 h3=>by
  simp only at h3
  have:i=j:=by omega
  subst this
  exact hφ.refl (h.get d (by omega) (by omega))⟩ (by simp only; omega)
 rintro ih ⟨ys,i,c,⟨⟩⟩ ⟨hs,hi,hib,hc0,hsrt⟩ hih
 simp only at hs hi hib hc0 hsrt hih⊢
 by_cases hc5:c<5
 ·have ec:qI .i64 c 1=c+1:=qas (by omega) (by omega)
  simp only [ltT hc5,cond_true,ec]
  have hcy:=hs.ck d h
  refine qat (S:=List α×(Int×Unit)) (fun p=>(b - p.2.1).toNat) (fun p=>p.1=ys∧i≤p.2.1∧p.2.1≤b∧Srt d le a p.2.1 ys) (qlo d n le a b xs) ?_ N _ ⟨rfl,by simp only; omega,by simp only; omega,hsrt⟩ (by simp only; omega)
  rintro jh ⟨ys',j,⟨⟩⟩ ⟨hy,hj1,hj2,hso⟩ hjh
  simp only at hy hj1 hj2 hso hjh⊢
  subst hy
  have s1:qE .i64 j 1=j - 1:=qak (by omega) (by omega)
  by_cases hjb:j<b
  ·have pj:=hcy.get d (i:=j) (by omega) (by omega)
   have pk:=hcy.get d (i:=j - 1) (by omega) (by omega)
   obtain ⟨v,a1,a2⟩:=qjB hφ pj pk
   simp only [ltT hjb,s1,hcy.inB (i:=j) (by omega) (by omega),hcy.inB (i:=j - 1) (by omega) (by omega),a1,qd,qg,Bool.not_true,Bool.false_or,Bool.true_and,Bool.and_self,cond_true]
   rcases a2 with ⟨a3,a4,hle⟩|⟨a3,a4⟩
   ·simp only [ltT a3,Bool.not_true,cond_false]
    have e5:qE .i64 b a=b - a:=qak (by omega) (by omega)
    have e6:qE .i64 j a=j - a:=qak (by omega) (by omega)
    simp only [pinT,s1,e5,e6,eqF (show ¬j=b by omega),cond_false,hcy.inB (i:=j) (by omega) (by omega),hcy.inB (i:=j - 1) (by omega) (by omega),qdf,Bool.and_self,cond_true]
    by_cases h50:b - a<50
    ·rw [ltT h50,cond_true]
     exact ⟨false,ys',rfl,hs,fun w=>by cases w⟩
    rw [ltF h50,cond_false]
    have hsw:Seg d n a b ys' (swp d ys' j (j - 1)):=qdr d hcy.len ha hb (by omega) (by omega) (by omega) (by omega)
    have hcs:=hsw.ck d hcy
    have g:=qd6 d hcy.len (i:=j) (j:=j - 1) (by omega) (by omega) (by omega) (by omega)
    have post:∀zs,Seg d n a b xs zs→Srt d le a j zs→qlo d n le a b xs (pinR d N b φ j (fun ys=>ih (ys,(j,(c+1,())))) zs):=fun zs z1 z2=>by
     refine qwH d hφ hn (by omega) (qlo d n le a b xs) (z1.ck d h) (by omega) hjb hb fun ws w1=> ?_
     refine hih (ws,(j,(c+1,()))) ⟨z1.trans d (w1.mono d ha hb (by omega) (by omega)),by simp only; omega,by simp only; omega,by simp only; omega,fun x y h1 h2 h3=> ?_⟩ (by simp only; omega)
     simp only at h3⊢
     rw [w1.out x (by omega) (by omega) (by omega),w1.out y (by omega) (by omega) (by omega)]
     exact z2 x y h1 h2 h3
    by_cases hj2a:2≤j - a
    ·rw [leT hj2a,cond_true]
     refine shL_ok d hφ hn (by omega) (qlo d n le a b xs) (a:=a) (i:=j) (b:=b) hcs ha (by omega) hjb hb (hsw.pre d hb (hs.pre d hb hp)) (fun x y h1 h2 h3=> ?_) fun zs z1 z2=>post zs ((hs.trans d hsw).trans d z1) z2
     have e1:qf (swp d ys' j (j - 1)) x d=qf ys' x d:=by rw [g x (by omega),if_neg (by omega),if_neg (by omega)]
     have e2:qf (swp d ys' j (j - 1)) y d=qf ys' y d:=by rw [g y (by omega),if_neg (by omega),if_neg (by omega)]
     show le (qf (swp d ys' j (j - 1)) x d) (qf (swp d ys' j (j - 1)) y d)
     rw [e1,e2]
     exact hso x y h1 h2 (by omega)
    ·rw [leF hj2a,cond_false]
     refine post (swp d ys' j (j - 1)) (hs.trans d hsw) fun x y h1 h2 h3=> ?_
     have:x=y:=by omega
     subst this
     exact hφ.refl (hcs.get d (by omega) (by omega))
   ·have e2:qI .i64 j 1=j+1:=qas (by omega) (by omega)
    simp only [ltF a3,Bool.not_false,cond_true,e2]
    refine hjh _ ⟨rfl,by simp only; omega,by simp only; omega,fun x y h1 h2 h3=> ?_⟩ (by simp only; omega)
    simp only at h3
    by_cases hy:y=j
    ·subst hy
     by_cases hx:x=y
     ·subst hx; exact hφ.refl pj
     ·exact hφ.trans _ _ _ (hcy.get d (i:=x) (by omega) (by omega)) pk pj (hso x (y - 1) h1 (by omega) (by omega)) a4
    ·exact hso x y h1 h2 (by omega)
  ·have:j=b:=by omega
   simp only [ltF hjb,Bool.not_false,Bool.true_or,Bool.and_self,cond_true,Bool.false_and,cond_false,pinT,eqT this]
   subst this
   exact ⟨true,ys',rfl,hs,fun _=>hso⟩
 ·simp only [ltF hc5,cond_false]
  exact ⟨false,ys,rfl,hs,fun w=>by cases w⟩
def pdqT (d:α) (N:Nat) (Fs:((List α)×(Int×(Int×(Int×(((α×(α×Unit))→(Option (Int×Unit)))×Unit)))))→(Option (Unit×((List α)×Unit)))) (φ:(α×(α×Unit))→Option (Int×Unit))
  (y2 y3 y5 y6 y9:Int) (bal par:Bool) (ih0:(List α×(Int×(Int×(Int×(Bool×(Bool×Unit))))))→Option (Unit×(List α×Unit))) (zs:List α):Option (Unit×(List α×Unit)):=
 (bif (((!(ltI 0 y5))||(inB (qE .i64 y5 1) (qn zs)))&&(((!(ltI 0 y5))||(inB y9 (qn zs)))&&((!(ltI 0 y5))||(qu (φ ((qf zs (qE .i64 y5 1) d),((qf zs y9 d),()))))))) then (qL ((ltI 0 y5)&&(!(ltI (qh (φ ((qf zs (qE .i64 y5 1) d),((qf zs y9 d),()))) (0,())).1 0))) (fun y12=>(bif y12 then (bif (qu (qh8 d N (zs,(y5,(y6,(y9,(φ,()))))))) then (qL (qh (qh8 d N (zs,(y5,(y6,(y9,(φ,())))))) ((0,()),(([]:List α),()))).2.1 (fun ys13=>(qL y6 (fun y14=>(qL (qh (qh8 d N (zs,(y5,(y6,(y9,(φ,())))))) ((0,()),(([]:List α),()))).1.1 (fun y15=>(ih0 (ys13,(y15,(y14,(y3,(bal,(par,()))))))))))))) else none) else (bif (qu (qgv d N (zs,(y5,(y6,(y9,(φ,()))))))) then (qL (qh (qgv d N (zs,(y5,(y6,(y9,(φ,())))))) ((0,(false,())),(([]:List α),()))).2.1 (fun ys13=>(qL y5 (fun y14=>(qL y6 (fun y15=>(qL (qh (qgv d N (zs,(y5,(y6,(y9,(φ,())))))) ((0,(false,())),(([]:List α),()))).1.1 (fun y16=>(qL (qh (qgv d N (zs,(y5,(y6,(y9,(φ,())))))) ((0,(false,())),(([]:List α),()))).1.2.1 (fun y17=>(qL (qE .i64 y16 y14) (fun y18=>(qL (qE .i64 y15 y16) (fun y19=>(bif (neI 8 0) then (qL (qlL .i64 y2 8) (fun y20=>(bif (bif (ltI y18 y19) then (qu (Fs (ys13,(y14,(y16,(y3,(φ,()))))))) else (qu (Fs (ys13,((qI .i64 y16 1),(y15,(y3,(φ,())))))))) then (ih0 ((bif (ltI y18 y19) then (qh (Fs (ys13,(y14,(y16,(y3,(φ,())))))) ((),(([]:List α),()))).2.1 else (qh (Fs (ys13,((qI .i64 y16 1),(y15,(y3,(φ,())))))) ((),(([]:List α),()))).2.1),((bif (ltI y18 y19) then (qI .i64 y16 1) else y14),((bif (ltI y18 y19) then y15 else y16),(y3,((bif (ltI y18 y19) then (leI y20 y18) else (leI y20 y19)),(y17,()))))))) else none))) else none))))))))))))))) else none)))) else none)
def pdqU (d:α) (N:Nat) (Fs:((List α)×(Int×(Int×(Int×(((α×(α×Unit))→(Option (Int×Unit)))×Unit)))))→(Option (Unit×((List α)×Unit)))) (φ:(α×(α×Unit))→Option (Int×Unit))
  (y2 y3 y5 y6 y7 y8:Int) (bal par:Bool) (ih0:(List α×(Int×(Int×(Int×(Bool×(Bool×Unit))))))→Option (Unit×(List α×Unit))) (ys4:List α):Option (Unit×(List α×Unit)):=
 (bif (bif (eqI y8 2) then (qu (qbI d N (ys4,(y5,(y6,(φ,())))))) else true) then (qL (bif (eqI y8 2) then (qE .i64 (qE .i64 y6 1) (qE .i64 y7 y5)) else y7) (fun y9=>(qL (bif (eqI y8 2) then 1 else y8) (fun y10=>(qL ((bal&&par)&&(eqI y10 1)) (fun y11=>(bif y11 then (bif (qu (qcO d N ((bif (eqI y8 2) then (qh (qbI d N (ys4,(y5,(y6,(φ,()))))) ((),(([]:List α),()))).2.1 else ys4),(y5,(y6,(φ,())))))) then (bif (qh (qcO d N ((bif (eqI y8 2) then (qh (qbI d N (ys4,(y5,(y6,(φ,()))))) ((),(([]:List α),()))).2.1 else ys4),(y5,(y6,(φ,()))))) ((false,()),(([]:List α),()))).1.1 then (some ((),((qh (qcO d N ((bif (eqI y8 2) then (qh (qbI d N (ys4,(y5,(y6,(φ,()))))) ((),(([]:List α),()))).2.1 else ys4),(y5,(y6,(φ,()))))) ((false,()),(([]:List α),()))).2.1,())))
  else pdqT d N Fs φ y2 y3 y5 y6 y9 bal par ih0 (qh (qcO d N ((bif (eqI y8 2) then (qh (qbI d N (ys4,(y5,(y6,(φ,()))))) ((),(([]:List α),()))).2.1 else ys4),(y5,(y6,(φ,()))))) ((false,()),(([]:List α),()))).2.1) else none)
  else pdqT d N Fs φ y2 y3 y5 y6 y9 bal par ih0 (bif (eqI y8 2) then (qh (qbI d N (ys4,(y5,(y6,(φ,()))))) ((),(([]:List α),()))).2.1 else ys4)))))))) else none)
theorem qwi (L:(Int×Unit)→Option ((Int×Unit)×Unit)) (Fs:((List α)×(Int×(Int×(Int×(((α×(α×Unit))→(Option (Int×Unit)))×Unit)))))→(Option (Unit×((List α)×Unit)))) (x:((List α)×(Int×(Int×(Int×(((α×(α×Unit))→(Option (Int×Unit)))×Unit)))))):pdqS d N L Fs x=
 (qY (S:=((List α)×(Int×(Int×(Int×(Bool×(Bool×Unit))))))) (R:=(Unit×((List α)×Unit))) N (fun ih0=>(fun p1=>(qL (qE .i64 p1.2.2.1 p1.2.1) (fun y2=>(bif (leI y2 12) then (bif (qu (qfA d N (p1.1,(p1.2.1,(p1.2.2.1,(x.2.2.2.2.1,())))))) then (some ((),((qh (qfA d N (p1.1,(p1.2.1,(p1.2.2.1,(x.2.2.2.2.1,()))))) ((),(([]:List α),()))).2.1,()))) else none) else (bif (eqI p1.2.2.2.1 0) then (bif (qu (qrV d N (p1.1,(p1.2.1,(p1.2.2.1,(x.2.2.2.2.1,())))))) then (some ((),((qh (qrV d N (p1.1,(p1.2.1,(p1.2.2.1,(x.2.2.2.2.1,()))))) ((),(([]:List α),()))).2.1,()))) else none) else (bif (bif (!p1.2.2.2.2.1) then (qu (qhI d N L (p1.1,(p1.2.1,(p1.2.2.1,(x.2.2.2.2.1,())))))) else true) then (qL (bif (!p1.2.2.2.2.1) then (qE .i64 p1.2.2.2.1 1) else p1.2.2.2.1) (fun y3=>(bif (qu (qgq d N ((bif (!p1.2.2.2.2.1) then (qh (qhI d N L (p1.1,(p1.2.1,(p1.2.2.1,(x.2.2.2.2.1,()))))) ((),(([]:List α),()))).2.1 else p1.1),(p1.2.1,(p1.2.2.1,(x.2.2.2.2.1,())))))) then (qL (qh (qgq d N ((bif (!p1.2.2.2.2.1) then (qh (qhI d N L (p1.1,(p1.2.1,(p1.2.2.1,(x.2.2.2.2.1,()))))) ((),(([]:List α),()))).2.1 else p1.1),(p1.2.1,(p1.2.2.1,(x.2.2.2.2.1,()))))) ((0,(0,())),(([]:List α),()))).2.1 (fun ys4=>(qL p1.2.1 (fun y5=>(qL p1.2.2.1 (fun y6=>(qL (qh (qgq d N ((bif (!p1.2.2.2.2.1) then (qh (qhI d N L (p1.1,(p1.2.1,(p1.2.2.1,(x.2.2.2.2.1,()))))) ((),(([]:List α),()))).2.1 else p1.1),(p1.2.1,(p1.2.2.1,(x.2.2.2.2.1,()))))) ((0,(0,())),(([]:List α),()))).1.1 (fun y7=>(qL (qh (qgq d N ((bif (!p1.2.2.2.2.1) then (qh (qhI d N L (p1.1,(p1.2.1,(p1.2.2.1,(x.2.2.2.2.1,()))))) ((),(([]:List α),()))).2.1 else p1.1),(p1.2.1,(p1.2.2.1,(x.2.2.2.2.1,()))))) ((0,(0,())),(([]:List α),()))).1.2.1 (fun y8=>pdqU d N Fs x.2.2.2.2.1 y2 y3 y5 y6 y7 y8 p1.2.2.2.2.1 p1.2.2.2.2.2.1 ih0 ys4))))))))))
  else none))) else none))))))) (x.1,(x.2.1,(x.2.2.1,(x.2.2.2.1,(true,(true,()))))))):=rfl
structure qsD (d:α) (n:Nat) (le:α→α→Prop) (a0 b0:Int) (xs ys:List α) (a b:Int):Prop where
 seg:Seg d n a0 b0 xs ys
 la:a0≤a
 ab:a≤b
 rb:b≤b0
 pre:Pre d le a b ys
 lo:∀i j,a0≤i→i<a→i≤j→j<b0→le (qf ys i d) (qf ys j d)
 hi:∀i j,a0≤i→i≤j→b≤j→j<b0→le (qf ys i d) (qf ys j d)
theorem qsD.move {a0 b0 a b:Int} {xs ys zs:List α} (h:qsD d n le a0 b0 xs ys a b) (h0:0≤a0) (hn:b0≤(n:Int)) (hs:Seg d n a b ys zs):qsD d n le a0 b0 xs zs a b:=by
 have h1:=h.la; have h2:=h.rb; have h3:=h.ab
 refine ⟨h.seg.trans d (hs.mono d h0 hn h1 h2),h1,h3,h2,hs.pre d (by omega) h.pre,fun i j q1 q2 q3 q4=> ?_,fun i j q1 q2 q3 q4=> ?_⟩
 ·rw [hs.out i (by omega) (by omega) (by omega)]
  by_cases w:a≤j∧j<b
  ·obtain ⟨m,m1,m2,m3⟩:=hs.inn j w.1 w.2
   rw [m3]; exact h.lo i m q1 q2 (by omega) (by omega)
  ·rw [hs.out j (by omega) (by omega) (by omega)]; exact h.lo i j q1 q2 q3 q4
 ·rw [hs.out j (by omega) (by omega) (by omega)]
  by_cases w:a≤i∧i<b
  ·obtain ⟨m,m1,m2,m3⟩:=hs.inn i w.1 w.2
   rw [m3]; exact h.hi m j (by omega) (by omega) q3 q4
  ·rw [hs.out i (by omega) (by omega) (by omega)]; exact h.hi i j q1 q2 q3 q4
theorem qsD.fin {a0 b0 a b:Int} {xs ys:List α} (h:qsD d n le a0 b0 xs ys a b) (hs:Srt d le a b ys):Srt d le a0 b0 ys:=fun i j q1 q2 q3=>by
 by_cases w1:i<a
 ·exact h.lo i j q1 w1 q2 q3
 ·by_cases w2:b≤j
  ·exact h.hi i j q1 q2 w2 q3
  ·exact hs i j (by omega) q2 (by omega)
theorem qsD.ends {a0 b0 a b:Int} {xs ys zs:List α} (h:qsD d n le a0 b0 xs ys a b) (h0:0≤a0) (hn:b0≤(n:Int)) (hs:Seg d n a b ys zs) (hz:Srt d le a b zs):qkQ P d n le a0 b0 xs (some ((),(zs,()))):=
 ⟨zs,rfl,(h.move d h0 hn hs).seg,(h.move d h0 hn hs).fin d hz⟩
def FsOk (P:α→Prop) (d:α) (n:Nat) (le:α→α→Prop) (φ:(α×(α×Unit))→Option (Int×Unit)) (M:Int) (Fs:((List α)×(Int×(Int×(Int×(((α×(α×Unit))→(Option (Int×Unit)))×Unit)))))→(Option (Unit×((List α)×Unit)))):Prop:=
 ∀(xs:List α) (a b l:Int),Ck P n xs→0≤a→a≤b→b≤(n:Int)→b - a<M→Pre d le a b xs→qkQ P d n le a b xs (Fs (xs,(a,(b,(l,(φ,()))))))
theorem qsS (hφ:Cmp P φ le) (hn:n≤1099511627776) (hN:n+10<N) {M:Int} {Fs} (hF:FsOk P d n le φ M Fs) {xs:List α} (h:Ck P n xs) {a0 b0:Int} (h0:0≤a0) (hb0:b0≤(n:Int)) {a b l l2 pv:Int} {bal par:Bool} {ih0:(List α×(Int×(Int×(Int×(Bool×(Bool×Unit))))))→Option (Unit×(List α×Unit))} {zs:List α}
  (hz:qsD d n le a0 b0 xs zs a b) (hM:b - a≤M) (hpa:a≤pv) (hpb:pv<b)
  (hih:∀ys a' b' l' bal' par',qsD d n le a0 b0 xs ys a' b'→b' - a'<b - a→qkQ P d n le a0 b0 xs (ih0 (ys,(a',(b',(l',(bal',(par',()))))))) ):
  qkQ P d n le a0 b0 xs (pdqT d N Fs φ l2 l a b pv bal par ih0 zs):=by
 have h1:=hz.la; have h2:=hz.rb; have h3:=hz.ab
 have hzc:=hz.seg.ck d h
 have pp:=hzc.get d (i:=pv) (by omega) (by omega)
 obtain ⟨t,w1,w2,w3⟩:∃t,((!ltI 0 a||inB (qE .i64 a 1) (qn zs))&&((!ltI 0 a||inB pv (qn zs))&&(!ltI 0 a||qu (φ (qf zs (qE .i64 a 1) d,(qf zs pv d,()))))))=true∧(ltI 0 a&& !ltI (qh (φ (qf zs (qE .i64 a 1) d,(qf zs pv d,()))) (0,())).1 0)=t∧(t=true→0<a∧le (qf zs pv d) (qf zs (a - 1) d)):=by
  by_cases q:0<a
  ·have e1:qE .i64 a 1=a - 1:=qak (by omega) (by omega)
   obtain ⟨c,a1,a2⟩:=qjB hφ (hzc.get d (i:=a - 1) (by omega) (by omega)) pp
   rw [e1,a1,hzc.inB (i:=a - 1) (by omega) (by omega),hzc.inB (i:=pv) (by omega) (by omega),ltT q,qd,qg]
   rcases a2 with ⟨a3,a4,-⟩|⟨a3,a4⟩
   ·rw [ltT a3]; exact ⟨false,rfl,rfl,fun w=>by cases w⟩
   ·rw [ltF a3]; exact ⟨true,rfl,rfl,fun _=>⟨q,a4⟩⟩
  ·rw [ltF q]; exact ⟨false,by simp only [Bool.not_false,Bool.true_or,Bool.and_self],by simp only [Bool.false_and],fun w=>by cases w⟩
 simp only [pdqT,qJ,w1,w2,cond_true]
 cases t with
 |true=>
  obtain ⟨q,hle⟩:=w3 rfl
  obtain ⟨out,mid,o1,o2,o3,o4,o5⟩:=qtd d (N:=N) hφ hn (by omega) hzc (a:=a) (b:=b) (pv:=pv) (by omega) hpa hpb (by omega)
  simp only [cond_true,o1,qd,qg]
  have hm:=hz.move d h0 hb0 o2
  have hoc:=hm.seg.ck d h
  have eo:qf out (a - 1) d=qf zs (a - 1) d:=o2.out (a - 1) (by omega) (by omega) (by omega)
  have pa:=hzc.get d (i:=a - 1) (by omega) (by omega)
  have low:∀i j,a≤i→i<mid→i≤j→j<b0→le (qf out i d) (qf out j d):=fun i j q1 q2 q3 q4=>by
   by_cases w:b≤j
   ·exact hm.hi i j (by omega) q3 w q4
   ·have pi:=hoc.get d (i:=i) (by omega) (by omega)
    have pj:=hoc.get d (i:=j) (by omega) (by omega)
    refine hφ.trans _ _ _ pi pp pj (o5 i q1 q2) (hφ.trans _ _ _ pp pa pj hle ?_)
    rw [←eo]
    exact hm.pre q j (by omega) (by omega)
  refine hih out mid b l bal par ⟨hm.seg,by omega,o4,h2,fun _ k k1 k2=>low (mid - 1) k (by omega) (by omega) (by omega) (by omega),fun i j q1 q2 q3 q4=> ?_,hm.hi⟩ (by omega)
  by_cases w:i<a
  ·exact hm.lo i j q1 w q3 q4
  ·exact low i j (by omega) q2 q3 q4
 |false=>
  have e8:neI 8 0=true:=neT (by omega)
  obtain ⟨out,mid,fl,o1,o2,o3,o4,o5,o6⟩:=qtg d (N:=N) hφ hn (by omega) hzc (a:=a) (b:=b) (pv:=pv) (by omega) hpa hpb (by omega)
  have s1:qE .i64 mid a=mid - a:=qak (by omega) (by omega)
  have s2:qE .i64 b mid=b - mid:=qak (by omega) (by omega)
  have s3:qI .i64 mid 1=mid+1:=qas (by omega) (by omega)
  simp only [cond_false,cond_true,o1,qd,qg,s1,s2,s3,e8]
  have hm:=hz.move d h0 hb0 o2
  have hoc:=hm.seg.ck d h
  have pm:=hoc.get d (i:=mid) (by omega) (by omega)
  by_cases q:mid - a<b - mid
  ·obtain ⟨r,r1,r2,r3⟩:=hF out a mid l hoc (by omega) o3 (by omega) (by omega) (fun w k k1 k2=>hm.pre w k k1 (by omega))
   simp only [ltT q,cond_true,r1,qd,qg]
   have hm2:=hm.move d h0 hb0 (r2.mono d (by omega) (by omega) (Int.le_refl a) (show mid≤b by omega))
   have hrc:=hm2.seg.ck d h
   have rm:∀k,mid≤k→k<(n:Int)→qf r k d=qf out k d:=fun k k1 k2=>r2.out k (by omega) k2 (by omega)
   have gm:∀k,mid≤k→k<b→le (qf out mid d) (qf r k d):=fun k k1 k2=>by
    rw [rm k k1 (by omega)]
    by_cases w:k=mid
    ·rw [w]; exact hφ.refl pm
    ·exact o6 k (by omega) k2
   have low:∀i j,a≤i→i≤mid→i≤j→j<b0→le (qf r i d) (qf r j d):=fun i j q1 q2 q3 q4=>by
    have pi:=hrc.get d (i:=i) (by omega) (by omega)
    have pj:=hrc.get d (i:=j) (by omega) (by omega)
    by_cases w:b≤j
    ·exact hm2.hi i j (by omega) q3 w q4
    ·by_cases wi:i=mid
     ·have:=gm j (by omega) (by omega)
      rw [wi,rm mid (by omega) (by omega)]; exact this
     ·by_cases wj:j<mid
      ·exact r3 i j q1 q3 wj
      ·obtain ⟨m,m1,m2,m3⟩:=r2.inn i q1 (by omega)
       rw [m3] at pi⊢
       exact hφ.trans _ _ _ pi pm pj (o5 m m1 m2) (gm j (by omega) (by omega))
   refine hih r (mid+1) b l _ _ ⟨hm2.seg,by omega,by omega,h2,fun _ k k1 k2=>by rw [show mid+1 - 1=mid by omega]; exact low mid k (by omega) (by omega) (by omega) (by omega),fun i j q1 q2 q3 q4=> ?_,hm2.hi⟩ (by omega)
   by_cases w:i<a
   ·exact hm2.lo i j q1 w q3 q4
   ·exact low i j (by omega) (by omega) q3 q4
  ·obtain ⟨r,r1,r2,r3⟩:=hF out (mid+1) b l hoc (by omega) (by omega) (by omega) (by omega) (fun w k k1 k2=>by rw [show mid+1 - 1=mid by omega]; exact o6 k (by omega) k2)
   simp only [ltF q,cond_false,r1,qd,qg,cond_true]
   have hm2:=hm.move d h0 hb0 (r2.mono d (by omega) (by omega) (show a≤mid+1 by omega) (Int.le_refl b))
   have hrc:=hm2.seg.ck d h
   have rm:∀k,0≤k→k≤mid→qf r k d=qf out k d:=fun k k1 k2=>r2.out k (by omega) (by omega) (by omega)
   have gm:∀k,a≤k→k≤mid→le (qf r k d) (qf out mid d):=fun k k1 k2=>by
    rw [rm k (by omega) (by omega)]
    by_cases w:k=mid
    ·rw [w]; exact hφ.refl pm
    ·exact o5 k (by omega) (by omega)
   have high:∀i j,a≤i→i≤j→mid≤j→j<b→le (qf r i d) (qf r j d):=fun i j q1 q2 q3 q4=>by
    have pi:=hrc.get d (i:=i) (by omega) (by omega)
    have pj:=hrc.get d (i:=j) (by omega) (by omega)
    by_cases wj:j=mid
    ·have:=gm i q1 (by omega)
     rw [wj,rm mid (by omega) (by omega)]; exact this
    ·by_cases wi:mid<i
     ·exact r3 i j (by omega) q2 q4
     ·obtain ⟨m,m1,m2,m3⟩:=r2.inn j (by omega) q4
      rw [m3] at pj⊢
      exact hφ.trans _ _ _ pi pm pj (gm i q1 (by omega)) (o6 m (by omega) m2)
   refine hih r a mid l _ _ ⟨hm2.seg,h1,o3,by omega,fun w k k1 k2=>hm2.pre w k k1 (by omega),hm2.lo,fun i j q1 q2 q3 q4=> ?_⟩ (by omega)
   by_cases w:b≤j
   ·exact hm2.hi i j q1 q2 w q4
   ·by_cases wi:i<a
    ·exact hm2.lo i j q1 wi q2 q4
    ·exact high i j (by omega) q2 q3 (by omega)
theorem qwA (hφ:Cmp P φ le) (hn:n≤1099511627776) (hN:n+10<N) {M:Int} {Fs} (hF:FsOk P d n le φ M Fs) {xs:List α} (h:Ck P n xs) {a0 b0:Int} (h0:0≤a0) (hb0:b0≤(n:Int)) {a b l l2 pv ht:Int} {bal par:Bool} {ih0:(List α×(Int×(Int×(Int×(Bool×(Bool×Unit))))))→Option (Unit×(List α×Unit))} {zs:List α}
  (hz:qsD d n le a0 b0 xs zs a b) (hM:b - a≤M) (hpa:a≤pv) (hpb:pv<b)
  (hih:∀ys a' b' l' bal' par',qsD d n le a0 b0 xs ys a' b'→b' - a'<b - a→qkQ P d n le a0 b0 xs (ih0 (ys,(a',(b',(l',(bal',(par',()))))))) ):
  qkQ P d n le a0 b0 xs (pdqU d N Fs φ l2 l a b pv ht bal par ih0 zs):=by
 have h1:=hz.la; have h2:=hz.rb; have h3:=hz.ab
 have hzc:=hz.seg.ck d h
 have e1:qE .i64 b 1=b - 1:=qak (by omega) (by omega)
 have e2:qE .i64 pv a=pv - a:=qak (by omega) (by omega)
 have e3:qE .i64 (b - 1) (pv - a)=b - 1 - (pv - a):=qak (by omega) (by omega)
 have key:∀(ws:List α) (p:Int) (t:Bool),Seg d n a b zs ws→a≤p→p<b→qkQ P d n le a0 b0 xs
   (bif t then (bif (qu (qcO d N (ws,(a,(b,(φ,())))))) then (bif (qh (qcO d N (ws,(a,(b,(φ,()))))) ((false,()),(([]:List α),()))).1.1 then (some ((),((qh (qcO d N (ws,(a,(b,(φ,()))))) ((false,()),(([]:List α),()))).2.1,())))
    else pdqT d N Fs φ l2 l a b p bal par ih0 (qh (qcO d N (ws,(a,(b,(φ,()))))) ((false,()),(([]:List α),()))).2.1) else none)
   else pdqT d N Fs φ l2 l a b p bal par ih0 ws):=fun ws p t hs p1 p2=>by
  have hm:=hz.move d h0 hb0 hs
  have hwc:=hm.seg.ck d h
  cases t with
  |false=>exact qsS d hφ hn hN hF h h0 hb0 hm hM p1 p2 hih
  |true=>
   obtain ⟨fl,out,o1,o2,o3⟩:=qtn d (N:=N) hφ hn hN hwc (a:=a) (b:=b) (by omega) (by omega) (by omega) hm.pre
   simp only [cond_true,o1,qd,qg]
   cases fl with
   |true=>exact hm.ends d h0 hb0 o2 (o3 rfl)
   |false=>exact qsS d hφ hn hN hF h h0 hb0 (hm.move d h0 hb0 o2) hM p1 p2 hih
 simp only [pdqU,qJ,e1,e2,e3]
 by_cases q:ht=2
 ·obtain ⟨out,o1,o2⟩:=qtp d (N:=N) (φ:=φ) hn (by omega) hzc (a:=a) (b:=b) (by omega) (by omega) (by omega)
  simp only [eqT q,cond_true,o1,qd,qg]
  exact key out (b - 1 - (pv - a)) _ o2 (by omega) (by omega)
 ·simp only [eqF q,cond_true,cond_false]
  exact key zs pv _ (.refl d _ _ zs) hpa hpb
theorem qwv (hφ:Cmp P φ le) {L:(Int×Unit)→Option ((Int×Unit)×Unit)} (hL:qsm L) (hn:n≤1099511627776) (hN:n+10<N) {M:Int} {Fs} (hF:FsOk P d n le φ M Fs):FsOk P d n le φ (M+1) (pdqS d N L Fs):=by
 intro xs a0 b0 l0 h h0 hab hb0 hM hp
 rw [qwi]
 refine qat (S:=List α×(Int×(Int×(Int×(Bool×(Bool×Unit)))))) (fun p=>(p.2.2.1 - p.2.1).toNat) (fun p=>qsD d n le a0 b0 xs p.1 p.2.1 p.2.2.1) (qkQ P d n le a0 b0 xs) ?_ N _ ⟨.refl d _ _ xs,Int.le_refl _,hab,Int.le_refl _,hp,fun i j q1 q2 q3 q4=>by simp only at q2; omega,fun i j q1 q2 q3 q4=>by simp only at q3; omega⟩ (by simp only; omega)
 rintro ih ⟨ys,a,b,l,bal,par,⟨⟩⟩ hz hih
 simp only at hz hih⊢
 have h1:=hz.la; have h2:=hz.rb; have h3:=hz.ab
 have hc:=hz.seg.ck d h
 have e1:qE .i64 b a=b - a:=qak (by omega) (by omega)
 simp only [qJ,e1]
 by_cases q12:b - a≤12
 ·obtain ⟨out,o1,o2,o3⟩:=qiX d (N:=N) hφ hn (by omega) hc (a:=a) (b:=b) (by omega) (by omega) (by omega)
  simp only [leT q12,cond_true,o1,qd,qg]
  exact hz.ends d h0 hb0 o2 o3
 simp only [leF q12,cond_false]
 by_cases ql:l=0
 ·obtain ⟨out,o1,o2,o3⟩:=quM d (N:=N) hφ hn (by omega) hc (a:=a) (b:=b) (by omega) (by omega) (by omega)
  simp only [eqT ql,cond_true,o1,qd,qg]
  exact hz.ends d h0 hb0 o2 o3
 simp only [eqF ql,cond_false]
 have key:∀(ws:List α) (l1:Int),Seg d n a b ys ws→qkQ P d n le a0 b0 xs (bif (qu (qgq d N (ws,(a,(b,(φ,())))))) then pdqU d N Fs φ (b - a) l1 a b (qh (qgq d N (ws,(a,(b,(φ,()))))) ((0,(0,())),(([]:List α),()))).1.1 (qh (qgq d N (ws,(a,(b,(φ,()))))) ((0,(0,())),(([]:List α),()))).1.2.1 bal par ih (qh (qgq d N (ws,(a,(b,(φ,()))))) ((0,(0,())),(([]:List α),()))).2.1 else none):=fun ws l1 hs=>by
  have hm:=hz.move d h0 hb0 hs
  obtain ⟨m,t,o1,o2,o3⟩:=qtz d (N:=N) hφ hn (hm.seg.ck d h) (a:=a) (b:=b) (by omega) (by omega) (by omega)
  simp only [o1,qd,qg,cond_true]
  exact qwA d hφ hn hN hF h h0 hb0 hm (by omega) o2 o3 fun zs a' b' l' bal' par' k1 k2=>hih (zs,(a',(b',(l',(bal',(par',())))))) k1 (by have:=k1.ab; simp only; omega)
 cases bal with
 |true=>
  simp only [Bool.not_true,cond_false,cond_true]
  exact key ys l (.refl d _ _ ys)
 |false=>
  obtain ⟨out,o1,o2⟩:=qtk d (N:=N) (φ:=φ) hL hn hN hc (a:=a) (b:=b) (by omega) (by omega) (by omega)
  simp only [Bool.not_false,cond_true,o1,qd,qg]
  exact key out _ o2
theorem qt2 (hφ:Cmp P φ le) {L:(Int×Unit)→Option ((Int×Unit)×Unit)} (hL:qsm L) (hn:n≤1099511627776) (hN:n+10<N):∀M:Nat,FsOk P d n le φ (M:Int) (pdqG d N L M)
 |0=>fun xs a b l h h0 hab hb hM hp=>by omega
 |M+1=>by
  have:=qwv d hφ hL hn hN (qt2 hφ hL hn hN M)
  exact this
theorem pdqAll_ok (hφ:Cmp P φ le) {L:(Int×Unit)→Option ((Int×Unit)×Unit)} (hL:qsm L) (hn:n≤1099511627776) (hN:n+10<N) {xs:List α} (h:Ck P n xs):qkQ P d n le 0 (n:Int) xs (qvD d N L (xs,(φ,()))):=by
 have el:qn xs=(n:Int):=by rw [qr,h.len]
 have eA:qcr .u64 (n:Int)=(n:Int):=by rw [qd7,qeT (by omega) (by omega)]
 obtain ⟨e,l1,-,-⟩:=hL n hn
 obtain ⟨out,o1,o2,o3⟩:=qt2 d hφ hL hn hN N xs 0 (n:Int) (e:Int) h (Int.le_refl 0) (by omega) (Int.le_refl _) (by omega) (fun w=>by omega)
 simp only [qvD,qJ,el,eA,l1,o1,qd,qg,Bool.and_self,cond_true]
 exact ⟨out,rfl,o2,o3⟩
end
end
end Go.Vi
set_option linter.unusedSimpArgs false
set_option maxRecDepth 100000
namespace Go.Vi
noncomputable section
def qe6:List UInt8:=[0,1,2,2,3,3,3,3,4,4,4,4,4,4,4,4,5,5,5,5,5,5,5,5,5,5,5,5,5,5,5,5,6,6,6,6,6,6,6,6,6,6,6,6,6,6,6,6,6,6,6,6,6,6,6,6,6,6,6,6,6,6,6,6,7,7,7,7,7,7,7,7,7,7,7,7,7,7,7,7,7,7,7,7,7,7,7,7,7,7,7,7,7,7,7,7,7,7,7,7,7,7,7,7,7,7,7,7,7,7,7,7,7,7,7,7,7,7,7,7,7,7,7,7,7,7,7,7,8,8,8,8,8,8,8,8,8,8,8,8,8,8,8,8,8,8,8,8,8,8,8,8,8,8,8,8,8,8,8,8,8,8,8,8,8,8,8,8,8,8,8,8,8,8,8,8,8,8,8,8,8,8,8,8,8,8,8,8,8,8,8,8,8,8,8,8,8,8,8,8,8,8,8,8,8,8,8,8,8,8,8,8,8,8,8,8,8,8,8,8,8,8,8,8,8,8,8,8,8,8,8,8,8,8,8,8,8,8,8,8,8,8,8,8,8,8,8,8,8,8,8,8,8,8,8,8]
def qtO (x:(Int×Unit)):Option ((Int×Unit)×Unit):=
 (bif (bif (leI 4294967296 x.1) then (leI 0 32) else true) then (qL (bif (leI 4294967296 x.1) then (qjQ .u64 x.1 32) else x.1) (fun y0=>(qL (bif (leI 4294967296 x.1) then 32 else 0) (fun y1=>(bif (bif (leI 65536 y0) then (leI 0 16) else true) then (qL (bif (leI 65536 y0) then (qjQ .u64 y0 16) else y0) (fun y2=>(qL (bif (leI 65536 y0) then (qI .i64 y1 16) else y1) (fun y3=>(bif (bif (leI 256 y2) then (leI 0 8) else true) then (qL (bif (leI 256 y2) then (qjQ .u64 y2 8) else y2) (fun y4=>(qL (bif (leI 256 y2) then (qI .i64 y3 8) else y3) (fun y5=>(bif (inB (qcr .u8 y4) (qn qe6)) then (some (((qI .i64 y5 (qcr .i64 (qcC (qf qe6 (qcr .u8 y4) 0)))),()),())) else none))))) else none))))) else none))))) else none)
theorem qpv:∀m:Fin 256,qe6[m.val]? =some (qe6.getD m.val 0)∧(qe6.getD m.val 0).toNat≤8∧(1≤m.val→2^ (qe6.getD m.val 0).toNat≤2 * m.val)∧(m.val=0→(qe6.getD m.val 0).toNat=0):=by decide+kernel
theorem shr_n (x:Int) (n:Nat) (hn:n≤64) (h0:0≤x):qjQ .u64 x (n:Int)=x / (2:Int)^n:=by
 rw [qkx]
 have e:min ((n:Int)).toNat IntKind.u64.bits=n:=by simp [IntKind.bits]; omega
 rw [e,Int.fdiv_eq_ediv_of_nonneg _ (by exact Int.le_of_lt (Int.pow_pos (by omega)))]
theorem qrE {y0 s0 k c:Nat} {n:Nat} (hn:n≤64) (hc:c=2^n) (h:y0 * 2^s0≤k) (hp:1≤k→1≤y0) (hs:s0≤56) (hns:n≤32):∃y1 s1:Nat,(bif (leI (c:Int) (y0:Int)) then (qjQ .u64 (y0:Int) (n:Int)) else (y0:Int))=(y1:Int)∧(bif (leI (c:Int) (y0:Int)) then (qI .i64 (s0:Int) (n:Int)) else (s0:Int))=(s1:Int)∧y1 * 2^s1≤k∧(1≤k→1≤y1)∧s1≤s0+n∧(y1=y0 / c∧c≤y0∨y1=y0∧y0<c):=by
 by_cases q:c≤y0
 ·have e1:leI (c:Int) (y0:Int)=true:=leT (by omega)
  rw [e1,cond_true,cond_true,shr_n _ n hn (by omega),qas (by omega) (by omega)]
  refine ⟨y0 / c,s0+n,?_,by omega,?_,fun _=> ?_,Nat.le_refl _,.inl ⟨rfl,q⟩⟩
  ·rw [hc]; norm_cast
  ·rw [Nat.pow_add,Nat.mul_comm (2^s0),←Nat.mul_assoc,←hc]
   exact Nat.le_trans (Nat.mul_le_mul_right _ (Nat.div_mul_le_self _ _)) h
  ·have:0<c:=by rw [hc]; exact Nat.pow_pos (by omega)
   exact Nat.div_pos q this
 ·have e1:leI (c:Int) (y0:Int)=false:=leF (by omega)
  rw [e1,cond_false,cond_false]
  exact ⟨y0,s0,rfl,rfl,h,hp,by omega,.inr ⟨rfl,by omega⟩⟩
theorem qsb:qn qe6=256:=by rw [qr]; decide+kernel
theorem qsh {m:Nat} (h:m<256):qf qe6 (m:Int) 0=qe6.getD m 0:=by
 have:=(qpv ⟨m,h⟩).1
 have hl:m<qe6.length:=(List.getElem?_eq_some_iff.1 this).1
 rw [qX _ hl]
 rw [List.getElem?_eq_getElem hl] at this
 injection this
theorem qtG:qsm qtO:=fun k hk=>by
 have l0:∀n:Nat,leI 0 (n:Int)=true:=fun n=>leT (by omega)
 have l32:leI 0 32=true:=leT (by omega)
 have l16:leI 0 16=true:=leT (by omega)
 have l8:leI 0 8=true:=leT (by omega)
 have bt:∀b:Bool,(bif b then true else true)=true:=fun b=>by cases b <;> rfl
 obtain ⟨y1,s1,a1,a2,a3,a4,a5,a6⟩:∃y1 s1:Nat,(bif (leI 4294967296 (k:Int)) then (qjQ .u64 (k:Int) 32) else (k:Int))=(y1:Int)∧(bif (leI 4294967296 (k:Int)) then 32 else 0)=(s1:Int)∧y1 * 2^s1≤k∧(1≤k→1≤y1)∧s1≤32∧y1<4294967296:=by
  by_cases q:4294967296≤k
  ·have e1:leI 4294967296 (k:Int)=true:=leT (by omega)
   have e2:=shr_n (k:Int) 32 (by omega) (by omega)
   have e3:qjQ .u64 (k:Int) 32=(k:Int) / (2:Int)^32:=e2
   rw [e1,cond_true,cond_true,e3]
   exact ⟨k / 4294967296,32,by omega,rfl,by omega,by omega,Nat.le_refl _,by omega⟩
  ·have e1:leI 4294967296 (k:Int)=false:=leF (by omega)
   rw [e1,cond_false,cond_false]
   exact ⟨k,0,rfl,rfl,by omega,id,by omega,by omega⟩
 obtain ⟨y2,s2,b1,b2,b3,b4,b5,b6⟩:=qrE (n:=16) (c:=65536) (by omega) (by decide) a3 a4 (by omega) (by omega)
 obtain ⟨y3,s3,c1,c2,c3,c4,c5,c6⟩:=qrE (n:=8) (c:=256) (by omega) (by decide) b3 b4 (by omega) (by omega)
 have h3:y3<256:=by omega
 have b1':(bif (leI 65536 (y1:Int)) then (qjQ .u64 (y1:Int) 16) else (y1:Int))=(y2:Int):=b1
 have b2':(bif (leI 65536 (y1:Int)) then (qI .i64 (s1:Int) 16) else (s1:Int))=(s2:Int):=b2
 have c1':(bif (leI 256 (y2:Int)) then (qjQ .u64 (y2:Int) 8) else (y2:Int))=(y3:Int):=c1
 have c2':(bif (leI 256 (y2:Int)) then (qI .i64 (s2:Int) 8) else (s2:Int))=(s3:Int):=c2
 have w8:qcr .u8 (y3:Int)=(y3:Int):=by rw [qd7,quq]; omega
 obtain ⟨_,t1,t2,t3⟩:=qpv ⟨y3,h3⟩
 simp only at t1 t2 t3
 have ib:inB (y3:Int) 256=true:=by rw [qex]; simp; omega
 have e5:qI .i64 (s3:Int) (qcr .i64 (qcC (qf qe6 (y3:Int) 0)))=((s3+(qe6.getD y3 0).toNat:Nat):Int):=by
  rw [qsh h3,qfR,qqF (by omega) (by omega),qas (by omega) (by omega)]
  omega
 refine ⟨s3+(qe6.getD y3 0).toNat,?_,?_⟩
 ·simp only [qtO,qJ,l32,l16,l8,bt,cond_true,a1,a2,b1',b2',c1',c2',w8,qsb,ib,e5]
 ·have hp:1≤k→2^ (s3+(qe6.getD y3 0).toNat)≤2 * k:=fun hk1=>by
   have h4:=t2 (c4 hk1)
   rw [Nat.pow_add]
   calc 2^s3 * 2^ (qe6.getD y3 0).toNat≤2^s3 * (2 * y3):=Nat.mul_le_mul_left _ h4
    _=2 * (y3 * 2^s3):=by rw [Nat.mul_left_comm,Nat.mul_comm (2^s3)]
    _≤2 * k:=Nat.mul_le_mul_left _ c3
  refine ⟨?_,hp⟩
  by_cases hk1:1≤k
  ·have h5:=hp hk1
   have h6:2^ (s3+(qe6.getD y3 0).toNat)≤2^41:=by
    have:(2:Nat)^41=2199023255552:=by decide
    omega
   exact (Nat.pow_le_pow_iff_right (by omega)).1 h6
  ·have hk0:k=0:=by omega
   subst hk0
   have z1:leI 4294967296 (((0:Nat)):Int)=false:=leF (by omega)
   rw [z1] at a1 a2
   simp only [cond_false] at a1 a2
   have y10:y1=0:=by omega
   have s10:s1=0:=by omega
   have y20:y2=0:=by omega
   have z2:leI 65536 (y1:Int)=false:=leF (by omega)
   have z3:leI 256 (y2:Int)=false:=leF (by omega)
   rw [z2] at b2'
   rw [z3] at c2'
   simp only [cond_false] at b2' c2'
   have y30:y3=0:=by omega
   have:=t3 y30
   omega
end
end Go.Vi
namespace Go.Vi
def dig (b:UInt8):Prop:=b=45∨(48≤b.toNat∧b.toNat≤57)
instance (b:UInt8):Decidable (dig b):=by unfold dig; infer_instance
theorem qhw {d:Nat} (h:d<10):(UInt8.ofNat (48+d)).toNat=48+d:=by
 rw [UInt8.toNat_ofNat']; omega
theorem qhp (u:Nat):∀b∈Lib.decDigits u,48≤b.toNat∧b.toNat≤57:=by
 induction u using Nat.strongRecOn with
 |ind u ih=>
  intro b hb
  rw [Lib.decDigits] at hb
  split at hb
  ·rename_i h
   simp only [List.mem_singleton] at hb
   subst hb
   rw [qhw h]; omega
  ·rename_i h
   rcases List.mem_append.1 hb with hb|hb
   ·exact ih (u / 10) (by omega) b hb
   ·simp only [List.mem_singleton] at hb
    subst hb
    rw [qhw (Nat.mod_lt _ (by omega))]; omega
theorem qp5 (u:Nat):Lib.decDigits u≠[]:=by
 rw [Lib.decDigits]
 split <;> simp
def qqr (l:List UInt8):Nat:=l.foldl (fun n b=>n * 10+(b.toNat - 48)) 0
theorem qst (l:List UInt8) (b:UInt8):qqr (l++[b])=qqr l * 10+(b.toNat - 48):=by simp [qqr]
theorem qep (u:Nat):qqr (Lib.decDigits u)=u:=by
 induction u using Nat.strongRecOn with
 |ind u ih=>
  rw [Lib.decDigits]
  split
  ·rename_i h
   simp only [qqr,List.foldl_cons,List.foldl_nil,qhw h]; omega
  ·rename_i h
   rw [qst,ih (u / 10) (by omega),qhw (Nat.mod_lt _ (by omega))]
   omega
theorem qj1 (n:Int):∀b∈Lib.itoa n,dig b:=by
 intro b hb
 unfold Lib.itoa at hb
 split at hb
 ·rcases List.mem_cons.1 hb with rfl|hb
  ·exact .inl rfl
  ·exact .inr (qhp _ b hb)
 ·exact .inr (qhp _ b hb)
theorem qwM (n:Int):Lib.itoa n≠[]:=by
 unfold Lib.itoa
 split
 ·simp
 ·exact qp5 _
theorem qrb {a b:Int} (h:Lib.itoa a=Lib.itoa b):a=b:=by
 have no45:∀u:Nat,∀r,Lib.decDigits u≠45::r:=fun u r e=>by
  have:=qhp u 45 (by rw [e]; exact List.mem_cons_self)
  have:(48:Nat)≤45:=this.1
  omega
 unfold Lib.itoa at h
 split at h <;> split at h
 ·have e:=congrArg qqr (List.cons.inj h).2
  rw [qep,qep] at e
  omega
 ·exact absurd h.symm (no45 _ _)
 ·exact absurd h (no45 _ _)
 ·have e:=congrArg qqr h
  rw [qep,qep] at e
  omega
def stops (P:UInt8→Prop) (r:List UInt8):Prop:=∀b t,r=b::t→¬P b
theorem qgY (P:UInt8→Prop):stops P []:=fun _ _ h=>by cases h
theorem qae {P:UInt8→Prop} {b:UInt8} {t:List UInt8} (h:¬P b):stops P (b::t):=fun _ _ e=>by cases e; exact h
theorem part {P:UInt8→Prop} :(a b:List UInt8)→ {r s:List UInt8} →(∀x∈a,P x)→(∀x∈b,P x)→stops P r→stops P s→a++r=b++s→a=b∧r=s
 |[],[],_,_,_,_,_,_,h=>⟨rfl,h⟩
 |[],y::b,r,s,_,hb,hr,_,h=>absurd (hb y List.mem_cons_self) (hr y (b++s) h)
 |x::a,[],r,s,ha,_,_,hs,h=>absurd (ha x List.mem_cons_self) (hs x (a++r) h.symm)
 |x::a,y::b,r,s,ha,hb,hr,hs,h=>by
  injection h with h1 h2
  obtain ⟨h3,h4⟩:=part a b (fun z hz=>ha z (List.mem_cons_of_mem _ hz)) (fun z hz=>hb z (List.mem_cons_of_mem _ hz)) hr hs h2
  exact ⟨by rw [h1,h3],h4⟩
theorem qcJ {a b:Int} {r s:List UInt8} (hr:stops dig r) (hs:stops dig s) (h:Lib.itoa a++r=Lib.itoa b++s):a=b∧r=s:=by
 obtain ⟨h1,h2⟩:=part _ _ (qj1 a) (qj1 b) hr hs h
 exact ⟨qrb h1,h2⟩
def qer (s:List UInt8):List UInt8:=Lib.itoa (s.length:Int)++58::s
theorem qdd {a b r s:List UInt8} (h:qer a++r=qer b++s):a=b∧r=s:=by
 unfold qer at h
 rw [List.append_assoc,List.append_assoc] at h
 obtain ⟨h1,h2⟩:=qcJ (qae (by decide)) (qae (by decide)) h
 exact List.append_inj (List.cons.inj h2).2 (by omega)
theorem qpX {a b:Int×(Int×(List UInt8×Unit))} {r s:List UInt8} (h:qjO a++r=qjO b++s):a=b∧r=s:=by
 obtain ⟨a1,a2,a3,⟨⟩⟩:=a
 obtain ⟨b1,b2,b3,⟨⟩⟩:=b
 unfold qjO at h
 simp only [List.cons_append,List.append_assoc] at h
 injection h with _ h
 obtain ⟨h1,h2⟩:=qcJ (qae (by decide)) (qae (by decide)) h
 obtain ⟨h3,h4⟩:=qcJ (qae (by decide)) (qae (by decide)) (List.cons.inj h2).2
 obtain ⟨h5,h6⟩:=qcJ (qae (by decide)) (qae (by decide)) (List.cons.inj h4).2
 obtain ⟨h7,h8⟩:=List.append_inj (List.cons.inj h6).2 (by omega)
 exact ⟨by rw [h1,h3,h7],h8⟩
theorem qkY:(xs ys:List (Int×(Int×(List UInt8×Unit))))→ {r s:List UInt8} →xs.length=ys.length→(xs.map qjO).flatten++r=(ys.map qjO).flatten++s→xs=ys∧r=s
 |[],[],_,_,_,h=>⟨rfl,h⟩
 |x::xs,y::ys,r,s,hl,h=>by
  simp only [List.map_cons,List.flatten_cons,List.append_assoc] at h
  obtain ⟨h1,h2⟩:=qpX h
  obtain ⟨h3,h4⟩:=qkY xs ys (by simpa using hl) h2
  exact ⟨by rw [h1,h3],h4⟩
theorem qtf {xs ys:List (Int×(Int×(List UInt8×Unit)))} {r s:List UInt8} (hr:stops dig r) (hs:stops dig s) (h:qeA xs++r=qeA ys++s):xs=ys∧r=s:=by
 have st:∀(l:List (Int×(Int×(List UInt8×Unit)))) (r:List UInt8),stops dig r→stops dig ((l.map qjO).flatten++r):=fun l r hr=>by
  cases l with
  |nil=>exact hr
  |cons x l=>
   rw [List.map_cons,List.flatten_cons,qjO]
   exact qae (by decide)
 unfold qeA at h
 rw [List.append_assoc,List.append_assoc] at h
 obtain ⟨h1,h2⟩:=qcJ (st xs r hr) (st ys s hs) h
 exact qkY xs ys (by omega) h2
theorem qoY {xs ys:List (Int×(Int×(List UInt8×Unit)))} (h:qeA xs=qeA ys):xs=ys:=
 (qtf (r:=[]) (s:=[]) (qgY _) (qgY _) (by rw [List.append_nil,List.append_nil]; exact h)).1
theorem qnQ {xs ys:List (Int×(Int×(List UInt8×Unit)))} {r s:List UInt8} (hl:xs.length=ys.length) (h:qeA xs++r=qeA ys++s):xs=ys∧r=s:=by
 unfold qeA at h
 rw [hl,List.append_assoc,List.append_assoc] at h
 exact qkY xs ys hl (List.append_cancel_left h)
def qhR (l:List Int):List UInt8:=(l.map fun i=>44::Lib.itoa i).flatten
theorem colsC_nil:qhR []=[]:=rfl
theorem qlb (i:Int) (l:List Int):qhR (i::l)=44::(Lib.itoa i++qhR l):=rfl
theorem qmn (l:List Int) {r:List UInt8} (hr:stops dig r):stops dig (qhR l++r):=by
 cases l with
 |nil=>exact hr
 |cons i l=>rw [qlb]; exact qae (by decide)
theorem qiV:(a b:List Int)→ {r s:List UInt8} →stops dig r→stops dig s→stops (· =44) r→stops (· =44) s→qhR a++r=qhR b++s→a=b∧r=s
 |[],[],_,_,_,_,_,_,h=>⟨rfl,h⟩
 |[],j::b,r,s,_,_,hr,_,h=>absurd rfl (hr 44 (Lib.itoa j++qhR b++s) h)
 |i::a,[],r,s,_,_,_,hs,h=>absurd rfl (hs 44 (Lib.itoa i++qhR a++r) h.symm)
 |i::a,j::b,r,s,hr,hs,hr',hs',h=>by
  simp only [qlb,List.cons_append,List.append_assoc] at h
  injection h with _ h
  obtain ⟨h1,h2⟩:=qcJ (qmn a hr) (qmn b hs) h
  obtain ⟨h3,h4⟩:=qiV a b hr hs hr' hs' h2
  exact ⟨by rw [h1,h3],h4⟩
abbrev DFk:Type:=List UInt8×(List Int×(List UInt8×Unit))
def fkC (f:DFk):List UInt8:=qer f.1++(qer f.2.2.1++qhR f.2.1)
theorem qtH {a b:DFk} (h:fkC a=fkC b):a=b:=by
 obtain ⟨a1,a2,a3,⟨⟩⟩:=a
 obtain ⟨b1,b2,b3,⟨⟩⟩:=b
 unfold fkC at h
 obtain ⟨h1,h2⟩:=qdd h
 obtain ⟨h3,h4⟩:=qdd h2
 obtain ⟨h5,_⟩:=qiV a2 b2 (r:=[]) (s:=[]) (qgY _) (qgY _) (qgY _) (qgY _) (by rw [List.append_nil,List.append_nil]; exact h4)
 simp only at h1 h3
 rw [h1,h3,h5]
abbrev DCol:Type:=List UInt8×(Int×(Bool×Unit))
abbrev qwn:Type:=List UInt8×(List DCol×(List Int×Unit))
def qr7 (b:Bool):List UInt8:=if b then [116,114,117,101] else [102,97,108,115,101]
def qvC (c:DCol):List UInt8:=qer c.1++(Lib.itoa c.2.1++(qr7 c.2.2.1++[44]))
def pkC (l:List Int):List UInt8:=(l.map fun i=>Lib.itoa i++[44]).flatten
def qtI (t:qwn):List UInt8:=qer t.1++40::(Lib.itoa (t.2.1.length:Int)++44::((t.2.1.map qvC).flatten++(pkC t.2.2.1++[41])))
theorem qmF (b:Bool) (r:List UInt8):stops dig (qr7 b++r):=by cases b <;> exact qae (by decide)
theorem qsr {a b:Bool} {r s:List UInt8} (h:qr7 a++r=qr7 b++s):a=b∧r=s:=by
 cases a <;> cases b <;> simp_all [qr7]
theorem qtb {a b:DCol} {r s:List UInt8} (h:qvC a++r=qvC b++s):a=b∧r=s:=by
 obtain ⟨a1,a2,a3,⟨⟩⟩:=a
 obtain ⟨b1,b2,b3,⟨⟩⟩:=b
 unfold qvC at h
 simp only [List.append_assoc] at h
 obtain ⟨h1,h2⟩:=qdd h
 obtain ⟨h3,h4⟩:=qcJ (qmF _ _) (qmF _ _) h2
 obtain ⟨h5,h6⟩:=qsr h4
 exact ⟨by rw [h1,h3,h5],(List.append_cancel_left h6)⟩
theorem qol:(xs ys:List DCol)→ {r s:List UInt8} →xs.length=ys.length→(xs.map qvC).flatten++r=(ys.map qvC).flatten++s→xs=ys∧r=s
 |[],[],_,_,_,h=>⟨rfl,h⟩
 |x::xs,y::ys,r,s,hl,h=>by
  simp only [List.map_cons,List.flatten_cons,List.append_assoc] at h
  obtain ⟨h1,h2⟩:=qtb h
  obtain ⟨h3,h4⟩:=qol xs ys (by simpa using hl) h2
  exact ⟨by rw [h1,h3],h4⟩
theorem ql4 (i:Int) (l:List Int):pkC (i::l)=Lib.itoa i++44::pkC l:=by simp [pkC]
theorem qp9 (i:Int) (r:List UInt8) {c:UInt8} {s:List UInt8} (hc:¬dig c):Lib.itoa i++r≠c::s:=fun e=>by
 cases h:Lib.itoa i with
 |nil=>exact qwM i h
 |cons x t=>
  rw [h] at e
  injection e with e1 _
  exact hc (e1 ▸ qj1 i x (by rw [h]; exact List.mem_cons_self))
theorem qrA:(a b:List Int)→ {r s:List UInt8} →pkC a++41::r=pkC b++41::s→a=b∧r=s
 |[],[],_,_,h=>⟨rfl,(List.cons.inj h).2⟩
 |[],j::b,r,s,h=>by
  rw [ql4,List.append_assoc] at h
  exact absurd h.symm (qp9 j _ (by decide))
 |i::a,[],r,s,h=>by
  rw [ql4,List.append_assoc] at h
  exact absurd h (qp9 i _ (by decide))
 |i::a,j::b,r,s,h=>by
  simp only [ql4,List.append_assoc,List.cons_append] at h
  obtain ⟨h1,h2⟩:=qcJ (qae (by decide)) (qae (by decide)) h
  obtain ⟨h3,h4⟩:=qrA a b (List.cons.inj h2).2
  exact ⟨by rw [h1,h3],h4⟩
theorem qnj {a b:qwn} {r s:List UInt8} (h:qtI a++r=qtI b++s):a=b∧r=s:=by
 obtain ⟨a1,a2,a3,⟨⟩⟩:=a
 obtain ⟨b1,b2,b3,⟨⟩⟩:=b
 unfold qtI at h
 simp only [List.append_assoc,List.cons_append,List.nil_append] at h
 obtain ⟨h1,h2⟩:=qdd h
 obtain ⟨h3,h4⟩:=qcJ (qae (by decide)) (qae (by decide)) (List.cons.inj h2).2
 obtain ⟨h5,h6⟩:=qol a2 b2 (by omega) (List.cons.inj h4).2
 obtain ⟨h7,h8⟩:=qrA a3 b3 h6
 exact ⟨by rw [h1,h5,h7],h8⟩
abbrev qok:Type:=Int×(Int×(List UInt8×Unit))
abbrev DCon:Type:=List UInt8×(Int×(List UInt8×(Int×(qok×Unit))))
abbrev qur:Type:=Int×(List UInt8×(List UInt8×(List UInt8×(List UInt8×(Int×(List Int×(List UInt8×(qok×(qwn×(DCon×(DFk×Unit)))))))))))
def qoL (x:qur):List qok:=[(x.1,(x.2.2.2.2.2.1,(x.2.1,()))),(0,(0,(x.2.2.1,()))),(0,(0,(x.2.2.2.1,()))),(0,(0,(x.2.2.2.2.1,()))),(0,(0,(x.2.2.2.2.2.2.2.1,()))),x.2.2.2.2.2.2.2.2.1]
def qo7 (x:qur):List qok:=[(x.2.2.2.2.2.2.2.2.2.2.1.2.1,(x.2.2.2.2.2.2.2.2.2.2.1.2.2.2.1,(x.2.2.2.2.2.2.2.2.2.2.1.1,()))),(0,(0,(x.2.2.2.2.2.2.2.2.2.2.1.2.2.1,()))),x.2.2.2.2.2.2.2.2.2.2.1.2.2.2.2.1]
def qtm (x:qur):List UInt8:=qeA (qoL x)++(qhR x.2.2.2.2.2.2.1++59::(qtI x.2.2.2.2.2.2.2.2.2.1++(qeA (qo7 x)++fkC x.2.2.2.2.2.2.2.2.2.2.2.1)))
theorem stepC_inj {a b:qur} (h:qtm a=qtm b):a=b:=by
 obtain ⟨a1,a2,a3,a4,a5,a6,a7,a8,a9,a10,⟨c1,c2,c3,c4,c5,⟨⟩⟩,a12,⟨⟩⟩:=a
 obtain ⟨b1,b2,b3,b4,b5,b6,b7,b8,b9,b10,⟨d1,d2,d3,d4,d5,⟨⟩⟩,b12,⟨⟩⟩:=b
 unfold qtm at h
 obtain ⟨h1,h2⟩:=qnQ (by rfl) h
 obtain ⟨h3,h4⟩:=qiV _ _ (qae (by decide)) (qae (by decide)) (qae (by decide)) (qae (by decide)) h2
 obtain ⟨h5,h6⟩:=qnj (List.cons.inj h4).2
 obtain ⟨h7,h8⟩:=qnQ (by rfl) h6
 have h9:=qtH h8
 simp only [qoL,qo7,List.cons.injEq,Prod.mk.injEq,and_true,true_and] at h1 h7
 simp only at h3 h5 h9
 grind
theorem qmI {α:Type} [DecidableEq α] {ne:α→α→Bool} (hne:∀a b,ne a b= !decide (a=b)) (xs ys:List α) (d:α) (hl:xs.length=ys.length) (hb:xs.length≤1099511627776) {N:Nat} (hN:xs.length<N):
  qY (S:=Int×Unit) (R:=(Bool×Unit)×Unit) N (fun ih0=>fun p1=>(bif (ltI p1.1 (qn xs)) then (bif ((inB p1.1 (qn xs))&&(inB p1.1 (qn ys))) then (bif (ne (qf xs p1.1 d) (qf ys p1.1 d)) then (some ((false,()),())) else (ih0 ((qI .i64 p1.1 1),()))) else none) else (some ((true,()),())))) (0,())=some ((decide (xs=ys),()),()):=by
 refine qeK (S:=Int×Unit) (R:=(Bool×Unit)×Unit) (fun p=>xs.length - p.1.toNat) (fun p=>∃i:Nat,p.1=(i:Int)∧i≤xs.length∧xs.take i=ys.take i) (fun _=>((decide (xs=ys),()),())) ?_ N _ ⟨0,rfl,Nat.zero_le _,by simp⟩ (by simp; omega)
 rintro ih ⟨_,_⟩ ⟨i,rfl,h2,h3⟩ hih
 simp only [Int.toNat_natCast] at hih⊢
 by_cases hi:i<xs.length
 ·have hj:i<ys.length:=by omega
  rw [qG (qbt hi),qZ hi,qZ hj,qX d hi,qX d hj,hne]
  simp only [Bool.and_self,cond_true]
  by_cases e:xs[i]=ys[i]
  ·rw [qM (by simp [e]),qao (by omega),hih _ ⟨i+1,rfl,by omega,by rw [qee hi,qee hj,h3,e]⟩ (by simp only [Int.toNat_natCast]; omega)]
  ·rw [qG (by simp [e])]
   have:xs≠ys:=fun h=>e (by subst h; rfl)
   simp [this]
 ·rw [qM (qaX hi)]
  have e1:i=xs.length:=by omega
  subst e1
  have:xs=ys:=by
   have:=h3
   rwa [List.take_length,hl,List.take_length] at this
  simp [this]
theorem qut {α:Type} (xs:List α) (b:Nat) (h:xs.length * b≤140737488355328):
  (bif (eqI (qn xs) 0) then (qs7 (some ((([]:List α),()),())) (bif (qc2 (qn ([]:List α)) (qn xs) b) then (some (((qgD ([]:List α) xs),()),())) else none)) else (bif (qc2 (qn ([]:List α)) (qn xs) b) then (some (((qgD ([]:List α) xs),()),())) else none))=some ((xs,()),()):=by
 have e:qc2 (qn ([]:List α)) (qn xs) b=true:=qeo (by simpa using h)
 rw [e,cond_true,qcy,List.nil_append]
 cases xs with
 |nil=>rw [qG (by rw [qb7,qr]; rfl),qpd,if_pos rfl]
 |cons x xs=>rw [qM (by rw [qb7,qr]; simp; omega)]
theorem qs6 {a b:List UInt8} (ha:a.length≤4398046511104) (hb:b.length≤4398046511104):qc2 (qn a) (qn b) 1=true:=qeo (by omega)
theorem qhq {n:Int} (h:IntKind.i64.has n):(Lib.itoa n).length≤21:=by
 have h': -9223372036854775808≤n∧n≤9223372036854775807:=by simpa [IntKind.has,IntKind.min,IntKind.max,IntKind.signed,IntKind.bits] using h
 exact Lib.itoa_length_le n h'.1 h'.2
theorem qcu {n:Nat} (h:n≤maxLen):(Lib.itoa (n:Int)).length≤21:=by
 unfold maxLen at h
 exact Lib.itoa_length_le _ (by omega) (by omega)
theorem qfN {s:List UInt8} (h:s.length≤maxLen):(qer s).length≤s.length+22:=by
 have:=qcu h
 unfold qer
 simp only [List.length_append,List.length_cons]
 omega
theorem qd8 {v:qok} (h:IntKind.i64.has v.1∧IntKind.i64.has v.2.1∧v.2.2.1.length≤maxLen):(qjO v).length≤v.2.2.1.length+67:=by
 have h1:=qhq h.1
 have h2:=qhq h.2.1
 have h3:=qcu h.2.2
 unfold qjO
 simp only [List.length_append,List.length_cons]
 omega
theorem qmh: {l:List Int} →(∀i∈l,IntKind.i64.has i)→(qhR l).length≤22 * l.length
 |[],_=>Nat.zero_le _
 |i::l,h=>by
  have h1:=qhq (h i List.mem_cons_self)
  have h2:=qmh (l:=l) fun j hj=>h j (List.mem_cons_of_mem _ hj)
  rw [qlb]
  simp only [List.length_append,List.length_cons] at h2⊢
  omega
theorem qtC: {l:List Int} →(∀i∈l,IntKind.i64.has i)→(pkC l).length≤22 * l.length
 |[],_=>Nat.zero_le _
 |i::l,h=>by
  have h1:=qhq (h i List.mem_cons_self)
  have h2:=qtC (l:=l) fun j hj=>h j (List.mem_cons_of_mem _ hj)
  rw [ql4]
  simp only [List.length_append,List.length_cons] at h2⊢
  omega
abbrev quC:Ty:= .pair .str (.pair (.int .i64) (.pair .bool .unit))
theorem qps: {l:List DCol} →(∀c∈l,quC.good c)→((l.map qvC).flatten).length≤50 * (l.map quC.bulk).sum
 |[],_=>Nat.zero_le _
 |c::l,h=>by
  have h0:=h c List.mem_cons_self
  obtain ⟨c1,c2,c3,⟨⟩⟩:=c
  have h1:=qfN (s:=c1) h0.1
  have h2:=qhq (n:=c2) h0.2.1
  have h3:(qr7 c3).length≤5:=by cases c3 <;> decide
  have h4:=qps (l:=l) fun j hj=>h j (List.mem_cons_of_mem _ hj)
  have h5:quC.bulk (c1,c2,c3,PUnit.unit)=c1.length+1+(1+(1+1)):=rfl
  simp only [List.map_cons,List.flatten_cons,qvC,List.length_append,List.length_cons,List.length_nil,List.sum_cons] at h4⊢
  omega
theorem qed:(l:List Int)→(l.map (Ty.bulk (.int .i64))).sum=l.length
 |[]=>rfl
 |i::l=>by
  have:Ty.bulk (.int .i64) i=1:=rfl
  rw [List.map_cons,List.sum_cons,qed l,this,List.length_cons]; omega
abbrev qiZ:Ty:= .pair (.int .i64) (.pair (.int .i64) (.pair .str .unit))
abbrev qnW:Ty:= .pair .str (.pair (.slice quC) (.pair (.slice (.int .i64)) .unit))
abbrev TFk:Ty:= .pair .str (.pair (.slice (.int .i64)) (.pair .str .unit))
abbrev qu1:Ty:= .pair .str (.pair (.int .i64) (.pair .str (.pair (.int .i64) (.pair qiZ .unit))))
abbrev qwx:Ty:= .pair (.int .i64) (.pair .str (.pair .str (.pair .str (.pair .str (.pair (.int .i64) (.pair (.slice (.int .i64)) (.pair .str (.pair qiZ (.pair qnW (.pair qu1 (.pair TFk .unit)))))))))))
theorem qrs {t:qwn} (h:qnW.good t):(qtI t).length≤50 * qnW.bulk t:=by
 obtain ⟨t1,t2,t3,⟨⟩⟩:=t
 have h1:=qfN (s:=t1) h.1
 have h2:=qcu (n:=t2.length) h.2.1.1
 have h3:=qps (l:=t2) h.2.1.2
 have h4:=qtC (l:=t3) h.2.2.1.2
 have h5:qnW.bulk (t1,t2,t3,PUnit.unit)=t1.length+1+((t2.map quC.bulk).sum+1+((t3.map (Ty.bulk (.int .i64))).sum+1+1)):=rfl
 rw [qed] at h5
 simp only [qtI,List.length_append,List.length_cons,List.length_nil]
 omega
theorem qq5 {f:DFk} (h:TFk.good f):(fkC f).length≤50 * TFk.bulk f:=by
 obtain ⟨f1,f2,f3,⟨⟩⟩:=f
 have h1:=qfN (s:=f1) h.1
 have h2:=qfN (s:=f3) h.2.2.1
 have h3:=qmh (l:=f2) h.2.1.2
 have h5:TFk.bulk (f1,f2,f3,PUnit.unit)=f1.length+1+((f2.map (Ty.bulk (.int .i64))).sum+1+(f3.length+1+1)):=rfl
 rw [qed] at h5
 simp only [fkC,List.length_append]
 omega
theorem qc4:IntKind.i64.has 0:=⟨by decide,by decide⟩
theorem stepC_len {x:qur} (h:qwx.good x):(qtm x).length≤50 * qwx.bulk x+1000:=by
 obtain ⟨a1,a2,a3,a4,a5,a6,a7,a8,⟨v1,v2,v3,⟨⟩⟩,a10,⟨c1,c2,c3,c4,⟨d1,d2,d3,⟨⟩⟩,⟨⟩⟩,a12,⟨⟩⟩:=x
 obtain ⟨h1,h2,h3,h4,h5,h6,h7,h8,⟨hv1,hv2,hv3,_⟩,h10,⟨hc1,hc2,hc3,hc4,⟨hd1,hd2,hd3,_⟩,_⟩,h12,_⟩:=h
 have e1:=qd8 (v:=(a1,a6,a2,())) ⟨h1,h6,h2⟩
 have e2:=qd8 (v:=(0,0,a3,())) ⟨qc4,qc4,h3⟩
 have e3:=qd8 (v:=(0,0,a4,())) ⟨qc4,qc4,h4⟩
 have e4:=qd8 (v:=(0,0,a5,())) ⟨qc4,qc4,h5⟩
 have e5:=qd8 (v:=(0,0,a8,())) ⟨qc4,qc4,h8⟩
 have e6:=qd8 (v:=(v1,v2,v3,PUnit.unit)) ⟨hv1,hv2,hv3⟩
 have e7:=qd8 (v:=(c2,c4,c1,())) ⟨hc2,hc4,hc1⟩
 have e8:=qd8 (v:=(0,0,c3,())) ⟨qc4,qc4,hc3⟩
 have e9:=qd8 (v:=(d1,d2,d3,PUnit.unit)) ⟨hd1,hd2,hd3⟩
 have g1:=qmh (l:=a7) h7.2
 have g2:=qrs (t:=a10) h10
 have g3:=qq5 (f:=a12) h12
 have g4:(Lib.itoa 6).length≤21:=qcu (n:=6) (by unfold maxLen; omega)
 have g5:(Lib.itoa 3).length≤21:=qcu (n:=3) (by unfold maxLen; omega)
 have hb:qwx.bulk (a1,a2,a3,a4,a5,a6,a7,a8,(v1,v2,v3,PUnit.unit),a10,(c1,c2,c3,c4,(d1,d2,d3,PUnit.unit),PUnit.unit),a12,PUnit.unit)=1+(a2.length+1+(a3.length+1+(a4.length+1+(a5.length+1+(1+((a7.map (Ty.bulk (.int .i64))).sum+1+(a8.length+1+((1+(1+(v3.length+1+1)))+(qnW.bulk a10+((c1.length+1+(1+(c3.length+1+(1+((1+(1+(d3.length+1+1)))+1)))))+(TFk.bulk a12+1))))))))))):=rfl
 rw [qed] at hb
 simp only [qtm,qoL,qo7,qeA,List.length_append,List.length_cons,List.length_nil,List.map_cons,List.map_nil,List.flatten_cons,List.flatten_nil] at e1 e2 e3 e4 e5 e6 e7 e8 e9⊢
 have q1:(((0+1+1+1+1+1+1:Nat)):Int)=6:=rfl
 have q2:(((0+1+1+1:Nat)):Int)=3:=rfl
 rw [q1,q2]
 omega
theorem quP {a b:DFk} {r s:List UInt8} (h:fkC a++59::r=fkC b++59::s):a=b∧r=s:=by
 obtain ⟨a1,a2,a3,⟨⟩⟩:=a
 obtain ⟨b1,b2,b3,⟨⟩⟩:=b
 unfold fkC at h
 simp only [List.append_assoc] at h
 obtain ⟨h1,h2⟩:=qdd h
 obtain ⟨h3,h4⟩:=qdd h2
 obtain ⟨h5,h6⟩:=qiV a2 b2 (qae (by decide)) (qae (by decide)) (qae (by decide)) (qae (by decide)) h4
 exact ⟨by rw [h1,h3,h5],(List.cons.inj h6).2⟩
def qvG (c:DCon):List UInt8:=qer c.1++(qer c.2.2.1++(Lib.itoa c.2.1++32::(Lib.itoa c.2.2.2.1++qeA [c.2.2.2.2.1])))
theorem qrp (v:qok):qeA [v]=49::qjO v:=by
 have:Lib.itoa ((([v]:List qok).length:Nat):Int)=[49]:=by show Lib.itoa 1=[49]; decide+kernel
 unfold qeA
 rw [this]
 simp
theorem qtW {a b:DCon} {r s:List UInt8} (h:qvG a++r=qvG b++s):a=b∧r=s:=by
 obtain ⟨a1,a2,a3,a4,a5,⟨⟩⟩:=a
 obtain ⟨b1,b2,b3,b4,b5,⟨⟩⟩:=b
 unfold qvG at h
 simp only [List.append_assoc,qrp,List.cons_append] at h
 obtain ⟨h1,h2⟩:=qdd h
 obtain ⟨h3,h4⟩:=qdd h2
 obtain ⟨h5,h6⟩:=qcJ (qae (by decide)) (qae (by decide)) h4
 have h7:=(List.cons.inj h6).2
 have st:∀(v:qok) (x:List UInt8),stops dig (qjO v++x):=fun v x=>by unfold qjO; exact qae (by decide)
 have e1:∀(n:Int) (x:List UInt8),Lib.itoa n++49::x=(Lib.itoa n++[49])++x:=fun n x=>by simp
 rw [e1 a4 (qjO a5++r),e1 b4 (qjO b5++s)] at h7
 obtain ⟨h8,h9⟩:=part (P:=dig) (Lib.itoa a4++[49]) (Lib.itoa b4++[49]) (fun x hx=>by
  rcases List.mem_append.1 hx with hx|hx
  ·exact qj1 _ _ hx
  ·simp at hx; subst hx; exact .inr (by decide)) (fun x hx=>by
  rcases List.mem_append.1 hx with hx|hx
  ·exact qj1 _ _ hx
  ·simp at hx; subst hx; exact .inr (by decide)) (st _ _) (st _ _) h7
 have h10:=qrb (List.append_cancel_right h8)
 obtain ⟨h11,h12⟩:=qpX h9
 exact ⟨by rw [h1,h3,h5,h10,h11],h12⟩
theorem qkm {α:Type} (f:α→List UInt8) (hf:∀ {a b:α} {r s:List UInt8},f a++r=f b++s→a=b∧r=s):(xs ys:List α)→ {r s:List UInt8} →xs.length=ys.length→(xs.map f).flatten++r=(ys.map f).flatten++s→xs=ys∧r=s
 |[],[],_,_,_,h=>⟨rfl,h⟩
 |x::xs,y::ys,r,s,hl,h=>by
  simp only [List.map_cons,List.flatten_cons,List.append_assoc] at h
  obtain ⟨h1,h2⟩:=hf h
  obtain ⟨h3,h4⟩:=qkm f hf xs ys (by simpa using hl) h2
  exact ⟨by rw [h1,h3],h4⟩
abbrev DSch:Type:=List qwn×(List DFk×(List DCon×Unit))
def fkS (f:DFk):List UInt8:=fkC f++[59]
def schC (s:DSch):List UInt8:=Lib.itoa (s.1.length:Int)++59::(Lib.itoa (s.2.1.length:Int)++59::(Lib.itoa (s.2.2.1.length:Int)++59::((s.1.map qtI).flatten++((s.2.1.map fkS).flatten++(s.2.2.1.map qvG).flatten))))
theorem schC_inj {a b:DSch} (h:schC a=schC b):a=b:=by
 obtain ⟨a1,a2,a3,⟨⟩⟩:=a
 obtain ⟨b1,b2,b3,⟨⟩⟩:=b
 unfold schC at h
 obtain ⟨h1,h2⟩:=qcJ (qae (by decide)) (qae (by decide)) h
 obtain ⟨h3,h4⟩:=qcJ (qae (by decide)) (qae (by decide)) (List.cons.inj h2).2
 obtain ⟨h5,h6⟩:=qcJ (qae (by decide)) (qae (by decide)) (List.cons.inj h4).2
 simp only at h1 h3 h5
 obtain ⟨h7,h8⟩:=qkm qtI (fun h=>qnj h) a1 b1 (by omega) (List.cons.inj h6).2
 obtain ⟨h9,h10⟩:=qkm fkS (fun {x y r s} h=>by
  unfold fkS at h
  simp only [List.append_assoc,List.cons_append,List.nil_append] at h
  exact quP h) a2 b2 (by omega) h8
 obtain ⟨h11,_⟩:=qkm qvG (fun h=>qtW h) a3 b3 (r:=[]) (s:=[]) (by omega) (by simpa using h10)
 rw [h7,h9,h11]
theorem qu3 {c:DCon} (h:qu1.good c):(qvG c).length≤150 * qu1.bulk c:=by
 obtain ⟨c1,c2,c3,c4,⟨d1,d2,d3,⟨⟩⟩,⟨⟩⟩:=c
 obtain ⟨h1,h2,h3,h4,⟨k1,k2,k3,_⟩,_⟩:=h
 have e1:=qfN (s:=c1) h1
 have e2:=qfN (s:=c3) h3
 have e3:(Lib.itoa c2).length≤21:=qhq h2
 have e4:(Lib.itoa c4).length≤21:=qhq h4
 have e5:(qjO (d1,d2,d3,PUnit.unit)).length≤d3.length+67:=qd8 (v:=(d1,d2,d3,PUnit.unit)) ⟨k1,k2,k3⟩
 have hb:qu1.bulk (c1,c2,c3,c4,(d1,d2,d3,PUnit.unit),PUnit.unit)=c1.length+1+(1+(c3.length+1+(1+((1+(1+(d3.length+1+1)))+1)))):=rfl
 simp only [qvG,qrp,List.length_append,List.length_cons]
 omega
theorem ql7 {α:Type} (f:α→List UInt8) (m:α→Nat) (c:Nat):(l:List α)→(∀x∈l,(f x).length≤c * m x)→((l.map f).flatten).length≤c * (l.map m).sum
 |[],_=>Nat.zero_le _
 |x::l,h=>by
  have h1:=h x List.mem_cons_self
  have h2:=ql7 f m c l fun y hy=>h y (List.mem_cons_of_mem _ hy)
  simp only [List.map_cons,List.flatten_cons,List.length_append,List.sum_cons,Nat.mul_add] at h2⊢
  omega
abbrev qvd:Ty:= .pair (.slice qnW) (.pair (.slice TFk) (.pair (.slice qu1) .unit))
theorem qvK (t:qwn):1≤qnW.bulk t:=qe4 qnW t
theorem qv8 {f:DFk} (h:TFk.good f):(fkS f).length≤150 * TFk.bulk f:=by
 have h1:=qq5 h
 have h2:=qe4 TFk f
 unfold fkS
 simp only [List.length_append,List.length_cons,List.length_nil]
 omega
theorem qkO (a:List qwn) (b:List DFk) (c:List DCon):qvd.bulk (a,b,c,PUnit.unit)=(a.map qnW.bulk).sum+1+((b.map TFk.bulk).sum+1+((c.map qu1.bulk).sum+1+1)):=rfl
theorem schC_len {s:DSch} (h:qvd.good s):(schC s).length≤150 * qvd.bulk s+100:=by
 obtain ⟨a,b,c,⟨⟩⟩:=s
 obtain ⟨⟨h1,h2⟩,⟨h3,h4⟩,⟨h5,h6⟩,_⟩:=h
 have e1:=qcu (n:=a.length) h1
 have e2:=qcu (n:=b.length) h3
 have e3:=qcu (n:=c.length) h5
 have e4:=ql7 qtI qnW.bulk 150 a fun t ht=>Nat.le_trans (qrs (h2 t ht)) (Nat.mul_le_mul_right _ (by omega))
 have e5:=ql7 fkS TFk.bulk 150 b fun t ht=>qv8 (h4 t ht)
 have e6:=ql7 qvG qu1.bulk 150 c fun t ht=>qu3 (h6 t ht)
 rw [qkO]
 simp only [schC,List.length_append,List.length_cons]
 omega
theorem qry (a b:List UInt8):Lib.compareBytes a b= -1∨Lib.compareBytes a b=0∨Lib.compareBytes a b=1:=by
 induction a generalizing b with
 |nil=>cases b <;> simp [Lib.compareBytes]
 |cons x a ih=>cases b with
  |nil=>simp [Lib.compareBytes]
  |cons y b=>
   simp only [Lib.compareBytes]
   split
   ·simp
   ·split
    ·simp
    ·exact ih b
theorem qsU (a b:List UInt8):Lib.compareBytes b a= - Lib.compareBytes a b:=by
 induction a generalizing b with
 |nil=>cases b <;> simp [Lib.compareBytes]
 |cons x a ih=>cases b with
  |nil=>simp [Lib.compareBytes]
  |cons y b=>
   simp only [Lib.compareBytes]
   by_cases h1:x<y
   ·have h2:¬y<x:=fun h=>by have:=UInt8.lt_iff_toNat_lt.1 h; have:=UInt8.lt_iff_toNat_lt.1 h1; omega
    simp [h1,h2]
   ·by_cases h2:y<x
    ·simp [h1,h2]
    ·simp [h1,h2,ih b]
theorem qov (a b:List UInt8):Lib.compareBytes a b=0↔a=b:=by
 induction a generalizing b with
 |nil=>cases b <;> simp [Lib.compareBytes]
 |cons x a ih=>cases b with
  |nil=>simp [Lib.compareBytes]
  |cons y b=>
   simp only [Lib.compareBytes]
   by_cases h1:x<y
   ·have:x≠y:=fun e=>by subst e; have:=UInt8.lt_iff_toNat_lt.1 h1; omega
    simp [h1,this]
   ·by_cases h2:y<x
    ·have:x≠y:=fun e=>by subst e; have:=UInt8.lt_iff_toNat_lt.1 h2; omega
     simp [h1,h2,this]
    ·have:x=y:=UInt8.toNat_inj.1 (by
      have h1:¬x.toNat<y.toNat:=fun h=>h1 (UInt8.lt_iff_toNat_lt.2 h)
      have h2:¬y.toNat<x.toNat:=fun h=>h2 (UInt8.lt_iff_toNat_lt.2 h)
      omega)
     simp [h1,h2,ih b,this]
theorem qjX (a b:List UInt8):qcf a b=decide (Lib.compareBytes a b<0):=by
 rw [qpW]
 induction a generalizing b with
 |nil=>cases b <;> simp [Lib.compareBytes,Op.bytesLess]
 |cons x a ih=>cases b with
  |nil=>simp [Lib.compareBytes,Op.bytesLess]
  |cons y b=>
   simp only [Lib.compareBytes,Op.bytesLess]
   by_cases h1:x<y
   ·simp [h1]
   ·by_cases h2:y<x
    ·have:x≠y:=fun e=>by subst e; have:=UInt8.lt_iff_toNat_lt.1 h2; omega
     simp [h1,h2,this]
    ·have:x=y:=UInt8.toNat_inj.1 (by
      have h1:¬x.toNat<y.toNat:=fun h=>h1 (UInt8.lt_iff_toNat_lt.2 h)
      have h2:¬y.toNat<x.toNat:=fun h=>h2 (UInt8.lt_iff_toNat_lt.2 h)
      omega)
     simp [h1,h2,ih b,this]
theorem qmP (a b:List UInt8):(qcf a b||eqS a b)= !qcf b a:=by
 rw [qjX,qjX,qsU a b,qbg]
 rcases qry a b with h|h|h
 ·simp [h]
 ·rw [h]; simp [(qov a b).1 h]
 ·have:a≠b:=fun e=>by rw [(qov a b).2 e] at h; omega
  simp [h,this]
end Go.Vi
