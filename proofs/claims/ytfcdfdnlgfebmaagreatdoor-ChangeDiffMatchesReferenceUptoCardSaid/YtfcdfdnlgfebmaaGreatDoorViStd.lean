/- Contracts of library functions, out of the kit's shelf. -/
import Derived.Test.YtfcdfdnlgfebmaaGreatDoorViHand
import Derived.Lib.LaidTab
import Derived.Lib.ItoaNum
import Derived.Lib.ItoaLen
import Derived.Lib.AtoiAllCases
import Derived.Lib.ParseIntBTie
import Derived.Lib.AtoiErrMem
import Derived.Lib.AppendIntMem
set_option linter.unusedVariables false
set_option linter.unusedSimpArgs false
set_option linter.unnecessarySimpa false
set_option linter.unusedSectionVars false
namespace Go.Vi
open Go.RowKit
theorem qcx.ofBelow {w w':World} (h:Below w.heap.size w w'):qcx (fun _=>False) w w':=⟨h.os,h.tape,h.output,h.size,fun k hk _=>h.block k hk⟩
theorem qtF {w:World} {F:Nat→Prop} :(ts:List Ty)→ {y:denL ts} → {vs:List Value} →qdf w F ts y vs→qaW w F (qc1 (valRs ts) (qtq ts y)) vs []
 |ts,_,_,h=>qib ts h
theorem qlr {P:Program} {T:qkG} {f:Nat} {fn:Func} (hf:P.funcs[f]? =some fn) (hb:fn.body.isSome=true) (hname:(fn.name == "runtime.NumGoroutine")=false) (ts us:List Ty) (φ:denL ts→Option (denL us))
  (h:∀(w:World) (F:Nat→Prop) (x:denL ts) (y:denL us) (as:List Value),qc4 T w F→qdf w F ts x as→φ x=some y→
   Calls P f as.toArray w fun e w'=>∃vs,e= .returned (qe4 vs)∧qdf w' (fun b=>F b∨w.heap.size≤b) us y vs∧qcx (fun _=>False) w w'):
  qk.okT P T f ⟨valPs ts,valRs us,fun x=>qhf (fun y=>(qtq us y,PMs.ioDflt (valPs ts))) (φ (qtR ts x))⟩:=by
 obtain ⟨c,hc⟩:=Option.isSome_iff_exists.1 hb
 refine ⟨fun as w=>qfF hf hc hname as w,fun w F x y as g i hT hp hpre hn hy=> ?_⟩
 simp only [qce,Option.map_eq_some_iff] at hy
 obtain ⟨z,hz,rfl⟩:=hy
 obtain ⟨k1,rfl,rfl⟩:=qi2 ts hp
 refine (h w F _ z as hT k1 hz).mono ?_
 rintro e w' ⟨vs,rfl,hv,hk⟩
 refine ⟨_,rfl,vs,[],rfl,List.nodup_nil,fun b hb=>(by cases hb),qib us (hv.mono us fun b hb=> ?_),qhW ts,hk.mono fun _ h=>h.elim⟩
 exact ⟨hb.elim .inl fun h=> .inr (.inr h),by simp,by simp⟩
theorem qo5 (k:IntKind):(l:List Int)→(css:List (List Value))→css.length=l.length→(∀(i:Nat) (x:Int) (c:List Value),l[i]? =some x→css[i]? =some c→c=[.int k x])→css.flatten=l.map (fun z=> .int k z)
 |[],[],_,_=>rfl
 |[],_::_,h,_=>by simp at h
 |_::_,[],h,_=>by simp at h
 |x::l,c::css,h,hx=>by
  have h0:=hx 0 x c rfl rfl
  have ih:=qo5 k l css (by simpa using h) fun i x c h1 h2=>hx (i+1) x c (by simpa using h1) (by simpa using h2)
  rw [List.flatten_cons,ih,h0]
  rfl
theorem qqi {P:Program} {T:qkG} {w:World} {F:Nat→Prop} (hT:qc4 T w F) {name:String} {g n:Nat} {k:IntKind} {tab zs:List Int} (hg:P.globalNamed name=some g) (ht:T g=some ⟨.arr n (.int k),tab⟩) (hz:tab=zs):Lib.TabIs P w name k zs:=by
 subst hz
 obtain ⟨_,_,cs,te,fz,h3,hl,css,hcl,rfl,hx⟩:=hT g _ ht
 have e:=qo5 k tab css (by rw [hcl]; exact hl.symm) fun i x c h1 h2=>(hx i x c h1 h2).1
 rw [Lib.TabIs,World.var?,hg]
 simp only [Option.bind_some,h3,e]
theorem qjO {T:qkG} {w:World} {F:Nat→Prop} (hT:qc4 T w F) {g:Nat} (ht:T g=some ⟨.err,false⟩):∃te pe,w.cell? ⟨g,0,none⟩=some (.iface te pe):=by
 obtain ⟨_,_,cs,te,fz,h3,v,rfl,h4⟩:=hT g _ ht
 rcases h4 with ⟨h,_⟩|⟨_,t,x,rfl⟩
 ·cases h
 ·exact ⟨t,x,by simp [World.cell?,h3]⟩
theorem qei (s:List UInt8):(⟨s.toArray⟩:ByteArray).data.toList=s:=by simp
theorem qh6 (s:List UInt8):(⟨s.toArray⟩:ByteArray).size=s.length:=by
 show s.toArray.size=s.length
 simp
theorem qvH {P:Program} {T:qkG} {f g:Nat} {fn:Func} {tab:List Int} (hf:P.funcs[f]? =some fn) (hb:fn.body.isSome=true) (hname:(fn.name == "runtime.NumGoroutine")=false)
  (hg:P.globalNamed "internal/strconv.uint64pow10" =some g) (ht:T g=some ⟨.arr 20 (.int .u64),tab⟩) (hz:tab=Lib.pow10Tab)
  (h:∀(n:Int),-9223372036854775808≤n→n≤9223372036854775807→∀(w:World),Lib.TabIs P w "internal/strconv.uint64pow10" .u64 Lib.pow10Tab→
   Calls P f #[.int .i64 n] w fun e w'=>e= .returned (.string ⟨(Lib.itoa n).toArray⟩)∧∃k os,w'=Sort.grow (w.drewN k) os):
  qk.okT P T f ⟨[.val (.int .i64)],[.val .str],fun x=>some ((Lib.itoa x.1,()),())⟩:=by
 have:=qlr (T:=T) hf hb hname [.int .i64] [.str] (fun x=>some (Lib.itoa x.1,())) (fun w F x y as hT hv hy=>by
  obtain ⟨v,r,rfl,h1,rfl⟩:=hv
  obtain ⟨rfl,hn⟩:=qaq.int h1
  injection hy with hy
  subst hy
  have hn': -9223372036854775808≤x.1∧x.1≤9223372036854775807:=by simpa [IntKind.has,IntKind.min,IntKind.max,IntKind.signed,IntKind.bits] using hn
  refine (h x.1 hn'.1 hn'.2 w (qqi hT hg ht hz)).mono ?_
  rintro e w' ⟨rfl,k,os,rfl⟩
  refine ⟨[_],rfl,⟨_,[],rfl,qaq.ofStr _ _ ?_,rfl⟩,qcx.ofBelow (Lib.below_grow _ _ (Nat.le_refl _) _ _)⟩
  have:=Lib.itoa_length_le x.1 hn'.1 hn'.2
  simp only [maxLen]
  omega)
 refine ⟨this.1,fun w F x y as g i a b c d e=>this.2 w F x y as g i a b c d ?_⟩
 injection e with e
 subst e
 simp only [qce]
 rfl
def qqR (s:List UInt8):Option (Int×Bool):=if s.length≤1000 then (match Lib.atoiAll s with
 | .ok v=>some (v,true)
 | .syntax=>some (0,false)
 | .range=>some (Lib.atoiSat s,false)) else none
theorem qlV (s:List UInt8):IntKind.i64.has (Lib.atoiSat s):=by
 unfold Lib.atoiSat
 split <;> exact ⟨by decide,by decide⟩
theorem ok_atoi {P:Program} {T:qkG} {f g1 g2:Nat} {fn:Func} {tE tN:Nat} {nm:List UInt8} {tb:TypeId} (hf:P.funcs[f]? =some fn) (hb:fn.body.isSome=true) (hname:(fn.name == "runtime.NumGoroutine")=false)
  (h1:T g1=some ⟨.err,false⟩) (h2:T g2=some ⟨.err,false⟩)
  (hok:∀(s:ByteArray),s.size≤9223372036854775806→∀v,Lib.atoiAll s.data.toList= .ok v→∀(w:World),Calls P f #[.string s] w fun e w'=>e= .returned (.tuple #[.int .i64 v,.nilIface])∧(w'=w∨∃t,w'=Lib.bytesWorld w tb t))
  (hsy:∀(s:ByteArray),s.size≤281474976710656→Lib.atoiAll s.data.toList= .syntax→∀(ev:Value) (w:World),w.cell? ⟨g1,0,none⟩=some ev→(ev= .nilIface∨∃te pe,ev= .iface te pe)→
   Calls P f #[.string s] w fun e w'=>∃N,e= .returned (.tuple #[.int .i64 0,.iface tE (.pointer (some ⟨N,0,none⟩))])∧w.heap.size≤N∧w'.heap[N]? =some (.cells #[.string ⟨nm.toArray⟩,.string s,ev] tN (0,0))∧Below w.heap.size w w')
  (hra:∀(s:ByteArray),s.size≤281474976710656→Lib.atoiAll s.data.toList= .range→∀(ev:Value) (w:World),w.cell? ⟨g2,0,none⟩=some ev→(ev= .nilIface∨∃te pe,ev= .iface te pe)→
   Calls P f #[.string s] w fun e w'=>∃N,e= .returned (.tuple #[.int .i64 (Lib.atoiSat s.data.toList),.iface tE (.pointer (some ⟨N,0,none⟩))])∧w.heap.size≤N∧w'.heap[N]? =some (.cells #[.string ⟨nm.toArray⟩,.string s,ev] tN (0,0))∧Below w.heap.size w w'):
  qk.okT P T f ⟨[.val .str],[.val (.int .i64),.val .err],fun x=>qhf (fun y=>((y.1,(y.2,())),())) (qqR x.1)⟩:=by
 have:=qlr (T:=T) hf hb hname [.str] [.int .i64,.err] (fun x=>qhf (fun y=>(y.1,(y.2,()))) (qqR x.1)) (fun w F x y as hT hv hy=>by
  obtain ⟨v,r,rfl,k1,rfl⟩:=hv
  obtain ⟨rfl,hn⟩:=qaq.str k1
  simp only [qce,Option.map_eq_some_iff] at hy
  obtain ⟨z,hz,rfl⟩:=hy
  unfold qqR at hz
  split at hz
  case isFalse=>cases hz
  rename_i hl
  have hsz:(⟨x.1.toArray⟩:ByteArray).size≤1000:=by rw [qh6]; exact hl
  split at hz
  ·rename_i v hv
   injection hz with hz
   subst hz
   refine (hok _ (by omega) v (by rw [qei]; exact hv) w).mono ?_
   rintro e w' ⟨rfl,hw⟩
   have hk:qcx (fun _=>False) w w':=by
    rcases hw with rfl|⟨t,rfl⟩
    ·exact qcx.refl _ _
    ·exact qcx.ofBelow (Lib.bytesWorld_below _ _ _)
   refine ⟨[_,_],rfl,⟨_,_,rfl,qaq.ofInt _ _ ?_,_,_,rfl,qaq.ofErr (.inl ⟨rfl,rfl⟩),rfl⟩,hk⟩
   have:=Lib.atoiAll_bounds hv
   simpa [IntKind.has,IntKind.min,IntKind.max,IntKind.signed,IntKind.bits] using this
  ·rename_i hv
   injection hz with hz
   subst hz
   obtain ⟨te,pe,hc⟩:=qjO hT h1
   refine (hsy _ (by omega) (by rw [qei]; exact hv) _ w hc (.inr ⟨te,pe,rfl⟩)).mono ?_
   rintro e w' ⟨N,rfl,_,_,hw⟩
   exact ⟨[_,_],rfl,⟨_,_,rfl,qaq.ofInt _ _ ⟨by decide,by decide⟩,_,_,rfl,qaq.ofErr (.inr ⟨rfl,_,_,rfl⟩),rfl⟩,qcx.ofBelow hw⟩
  ·rename_i hv
   injection hz with hz
   subst hz
   obtain ⟨te,pe,hc⟩:=qjO hT h2
   refine (hra _ (by omega) (by rw [qei]; exact hv) _ w hc (.inr ⟨te,pe,rfl⟩)).mono ?_
   rintro e w' ⟨N,rfl,_,_,hw⟩
   exact ⟨[_,_],rfl,⟨_,_,rfl,by rw [qei]; exact qaq.ofInt _ _ (qlV _),_,_,rfl,qaq.ofErr (.inr ⟨rfl,_,_,rfl⟩),rfl⟩,qcx.ofBelow hw⟩)
 refine ⟨this.1,fun w F x y as g i a b c d e=>this.2 w F x y as g i a b c d ?_⟩
 simp only [qce,Option.map_map] at e⊢
 exact e
theorem qvF {P:Program} {T:qkG} {f g1 g2:Nat} {fn:Func} {tE tN:Nat} {nm:List UInt8} {tb:TypeId} (hf:P.funcs[f]? =some fn) (hb:fn.body.isSome=true) (hname:(fn.name == "runtime.NumGoroutine")=false)
  (h1:T g1=some ⟨.err,false⟩) (h2:T g2=some ⟨.err,false⟩)
  (hok:∀(s:ByteArray),s.size≤9223372036854775806→∀v,Lib.parseIntB 64 s.data.toList= .ok v→∀(w:World),Calls P f #[.string s,.int .i64 10,.int .i64 64] w fun e w'=>e= .returned (.tuple #[.int .i64 v,.nilIface])∧(w'=w∨∃t,w'=Lib.bytesWorld w tb t))
  (hsy:∀(s:ByteArray),s.size≤281474976710656→Lib.parseIntB 64 s.data.toList= .syntax→∀(ev:Value) (w:World),w.cell? ⟨g1,0,none⟩=some ev→(ev= .nilIface∨∃te pe,ev= .iface te pe)→
   Calls P f #[.string s,.int .i64 10,.int .i64 64] w fun e w'=>∃N,e= .returned (.tuple #[.int .i64 0,.iface tE (.pointer (some ⟨N,0,none⟩))])∧w.heap.size≤N∧w'.heap[N]? =some (.cells #[.string ⟨nm.toArray⟩,.string s,ev] tN (0,0))∧Below w.heap.size w w')
  (hra:∀(s:ByteArray),s.size≤281474976710656→Lib.parseIntB 64 s.data.toList= .range→∀(ev:Value) (w:World),w.cell? ⟨g2,0,none⟩=some ev→(ev= .nilIface∨∃te pe,ev= .iface te pe)→
   Calls P f #[.string s,.int .i64 10,.int .i64 64] w fun e w'=>∃N,e= .returned (.tuple #[.int .i64 (Lib.intSat 64 s.data.toList),.iface tE (.pointer (some ⟨N,0,none⟩))])∧w.heap.size≤N∧w'.heap[N]? =some (.cells #[.string ⟨nm.toArray⟩,.string s,ev] tN (0,0))∧Below w.heap.size w w'):
  qk.okT P T f ⟨[.val .str,.val (.int .i64),.val (.int .i64)],[.val (.int .i64),.val .err],fun x=>if x.2.1=10∧x.2.2.1=64 then qhf (fun y=>((y.1,(y.2,())),())) (qqR x.1) else none⟩:=by
 have:=qlr (T:=T) hf hb hname [.str,.int .i64,.int .i64] [.int .i64,.err] (fun x=>if x.2.1=10∧x.2.2.1=64 then qhf (fun y=>(y.1,(y.2,()))) (qqR x.1) else none) (fun w F x y as hT hv hy=>by
  split at hy
  case isFalse=>cases hy
  rename_i hx
  obtain ⟨s,b,c,_⟩:=x
  obtain ⟨rfl,rfl⟩:=hx
  obtain ⟨v,r,rfl,k1,v2,r2,rfl,k2,v3,r3,rfl,k3,rfl⟩:=hv
  obtain ⟨rfl,hn⟩:=qaq.str k1
  obtain ⟨rfl,_⟩:=qaq.int k2
  obtain ⟨rfl,_⟩:=qaq.int k3
  simp only [qce,Option.map_eq_some_iff] at hy
  obtain ⟨z,hz,rfl⟩:=hy
  unfold qqR at hz
  split at hz
  case isFalse=>cases hz
  rename_i hl
  have hsz:(⟨s.toArray⟩:ByteArray).size≤1000:=by rw [qh6]; exact hl
  split at hz
  ·rename_i v hv
   injection hz with hz
   subst hz
   refine (hok ⟨s.toArray⟩ (by omega) v (by rw [qei,Lib.parseIntB_64]; exact hv) w).mono ?_
   rintro e w' ⟨rfl,hw⟩
   have hk:qcx (fun _=>False) w w':=by
    rcases hw with rfl|⟨t,rfl⟩
    ·exact qcx.refl _ _
    ·exact qcx.ofBelow (Lib.bytesWorld_below _ _ _)
   refine ⟨[_,_],rfl,⟨_,_,rfl,qaq.ofInt _ _ ?_,_,_,rfl,qaq.ofErr (.inl ⟨rfl,rfl⟩),rfl⟩,hk⟩
   have:=Lib.atoiAll_bounds hv
   simpa [IntKind.has,IntKind.min,IntKind.max,IntKind.signed,IntKind.bits] using this
  ·rename_i hv
   injection hz with hz
   subst hz
   obtain ⟨te,pe,hc⟩:=qjO hT h1
   refine (hsy ⟨s.toArray⟩ (by omega) (by rw [qei,Lib.parseIntB_64]; exact hv) _ w hc (.inr ⟨te,pe,rfl⟩)).mono ?_
   rintro e w' ⟨N,rfl,_,_,hw⟩
   exact ⟨[_,_],rfl,⟨_,_,rfl,qaq.ofInt _ _ ⟨by decide,by decide⟩,_,_,rfl,qaq.ofErr (.inr ⟨rfl,_,_,rfl⟩),rfl⟩,qcx.ofBelow hw⟩
  ·rename_i hv
   injection hz with hz
   subst hz
   obtain ⟨te,pe,hc⟩:=qjO hT h2
   refine (hra ⟨s.toArray⟩ (by omega) (by rw [qei,Lib.parseIntB_64]; exact hv) _ w hc (.inr ⟨te,pe,rfl⟩)).mono ?_
   rintro e w' ⟨N,rfl,_,_,hw⟩
   exact ⟨[_,_],rfl,⟨_,_,rfl,by rw [qei,Lib.intSat_64]; exact qaq.ofInt _ _ (qlV _),_,_,rfl,qaq.ofErr (.inr ⟨rfl,_,_,rfl⟩),rfl⟩,qcx.ofBelow hw⟩)
 refine ⟨this.1,fun w F x y as g i a b c d e=>this.2 w F x y as g i a b c d ?_⟩
 simp only at e⊢
 by_cases hx:x.2.1=10∧x.2.2.1=64
 ·rw [if_pos hx] at e
  show qhf _ (if x.2.1=10∧x.2.2.1=64 then _ else none)=_
  rw [if_pos hx]
  simp only [qce,Option.map_map] at e⊢
  exact e
 ·rw [if_neg hx] at e
  cases e
def qle (w:World) (g:Nat) (r:(t:Ty)×t.den):Prop:=g<w.heap.size∧∃(cs:List Value) (te:Nat) (fz:Nat×Nat),w.heap[g]? =some (.cells cs.toArray te fz)∧Rep w (fun b=>b<w.heap.size) r.1 r.2 cs
theorem qoh {P:Program} {w:World} {n:String} {g:Nat} {cs:Array Value} (hg:P.globalNamed n=some g) (h:w.var? P n=some cs):g<w.heap.size∧∃(te:Nat) (fz:Nat×Nat),w.heap[g]? =some (.cells cs te fz):=by
 rw [World.var?,hg] at h
 simp only [Option.bind_some] at h
 split at h
 ·rename_i c te fz e
  injection h with h
  subst h
  exact ⟨(Array.getElem?_eq_some_iff.1 e).1,te,fz,e⟩
 ·cases h
theorem qle.err {P:Program} {w:World} {n:String} {g:Nat} {t:TypeId} {x:Value} (hg:P.globalNamed n=some g) (h:w.var? P n=some #[.iface t x]):qle w g ⟨.err,false⟩:=by
 obtain ⟨h1,te,fz,h2⟩:=qoh hg h
 exact ⟨h1,[.iface t x],te,fz,h2,_,rfl,.inr ⟨rfl,t,x,rfl⟩⟩
theorem qkL {α β:Type} (f:α→β):(l:List α)→l.map f=(l.map fun z=>[f z]).flatten
 |[]=>rfl
 |x::l=>by simp only [List.map_cons,List.flatten_cons,←qkL f l]; rfl
theorem qle.ints {P:Program} {w:World} {name:String} {g n:Nat} {k:IntKind} {tab zs:List Int} (hg:P.globalNamed name=some g) (hn:zs.length=n) (hk:zs.all (fun z=>decide (k.min≤z∧z≤k.max))=true) (ht:tab=zs) (h:Lib.TabIs P w name k zs):qle w g ⟨.arr n (.int k),tab⟩:=by
 subst ht
 obtain ⟨h1,te,fz,h2⟩:=qoh hg h
 refine ⟨h1,tab.map (fun z=> .int k z),te,fz,h2,hn,tab.map (fun z=>[.int k z]),by rw [List.length_map,hn],qkL _ _,fun i x c hx hc=> ?_⟩
 rw [List.getElem?_map,hx] at hc
 injection hc with hc
 subst hc
 have h3:k.min≤x∧x≤k.max:=of_decide_eq_true (List.all_eq_true.1 hk x (List.mem_of_getElem? hx))
 exact ⟨rfl,h3⟩
def qi3 (v:Int×(Int×(List UInt8×Unit))):List UInt8:=124::(Lib.itoa v.1++44::(Lib.itoa v.2.1++44::(Lib.itoa (v.2.2.1.length:Int)++44::v.2.2.1)))
def qdE (xs:List (Int×(Int×(List UInt8×Unit)))):List UInt8:=Lib.itoa (xs.length:Int)++(xs.map qi3).flatten
def qnt (s t:List UInt8):Option ((Int×Unit)×Unit):=match t with
 |[c]=>some ((Lib.indexByte s c,()),())
 |_=>none
theorem qht:(s:List UInt8)→(c:UInt8)→ -1≤Lib.indexByte s c∧Lib.indexByte s c<(s.length:Int)+1
 |[],_=>by simp [Lib.indexByte]
 |b::l,c=>by
  have:=qht l c
  simp only [Lib.indexByte]
  split
  ·simp only [List.length_cons]; omega
  ·split
   ·simp only [List.length_cons]; omega
   ·simp only [List.length_cons]; omega
theorem qth {P:Program} {T:qkG} {f:Nat} {fn:Func} (hf:P.funcs[f]? =some fn) (hb:fn.body.isSome=true) (hname:(fn.name == "runtime.NumGoroutine")=false)
  (h:∀(s:ByteArray) (c:UInt8) (w:World),Calls P f #[.string s,.string ⟨#[c]⟩] w fun e w'=>e= .returned (.int .i64 (Lib.indexByte s.data.toList c))∧w'=w):
  qk.okT P T f ⟨[.val .str,.val .str],[.val (.int .i64)],fun x=>qnt x.1 x.2.1⟩:=by
 have:=qlr (T:=T) hf hb hname [.str,.str] [.int .i64] (fun x=>match x.2.1 with
  |[c]=>some (Lib.indexByte x.1 c,())
  |_=>none) (fun w F x y as hT hv hy=>by
  obtain ⟨v,r,rfl,h1,v2,r2,rfl,h2,rfl⟩:=hv
  obtain ⟨rfl,hn⟩:=qaq.str h1
  obtain ⟨rfl,hn2⟩:=qaq.str h2
  obtain ⟨s,t,u⟩:=x
  simp only at hy hn hn2⊢
  split at hy
  ·rename_i c
   injection hy with hy
   subst hy
   refine (h ⟨s.toArray⟩ c w).mono ?_
   rintro e w' ⟨rfl,rfl⟩
   refine ⟨[_],rfl,⟨_,[],rfl,qaq.ofInt _ _ ?_,rfl⟩,qcx.refl _ _⟩
   have h3:=qht s c
   simp only [maxLen] at hn
   simp [IntKind.has,IntKind.min,IntKind.max,IntKind.signed,IntKind.bits]
   omega
  ·cases hy)
 refine ⟨this.1,fun w F x y as g i a b c d e=>this.2 w F x y as g i a b c d ?_⟩
 obtain ⟨s,t,u⟩:=x
 simp only [qnt] at e
 simp only [qce,qtR]
 split at e
 ·injection e with e
  subst e
  rfl
 ·cases e
end Go.Vi
