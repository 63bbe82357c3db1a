/- sort.SliceStable over a pool's row, handed in as a value of the named slice type 31. -/
import Derived.Test.YtdiobaoelhdkoaaProg
import Derived.Test.YtdiobaoelhdkoaaViXE
import Derived.Laws.Externs
import Derived.WalkKit
import Derived.BigCall
import Derived.BigGuard
import Derived.KernelRfl
set_option linter.unusedVariables false
set_option linter.unusedSimpArgs false
set_option linter.unnecessarySimpa false
set_option linter.unusedSectionVars false
set_option maxRecDepth 100000
namespace Go.Proofs.Ytdiobaoelhdkoaa
open Go.Vi Go.RowKit Go.Lib
theorem sl_t0:∃i,Try.prog.info? 29=some i∧i.desc=.slice 45:=by
 have h:(Try.prog.info? 29).map (·.desc)=some (.slice 45):=by kernel_rfl
 cases hi:Try.prog.info? 29 with
 |none=>rw[hi]at h;cases h
 |some i=>rw[hi]at h;exact⟨i,rfl,by injection h⟩
theorem sl_t:∃i0,(∀w,(Extern.Rtype.under 31).run Try.prog w=.ok (29,i0) w)∧i0.desc=.slice 45:=by
 obtain⟨i0,h1,h2⟩:=sl_t0;have h:(Try.prog.info? 31).map (·.desc)=some (.named "stemma/stemref4.SortedMap" 29):=by kernel_rfl
 cases hi:Try.prog.info? 31 with
 |none=>rw[hi]at h;cases h
 |some i=>
  rw[hi]at h;injection h with h;have h:i.desc=_:=h;exact⟨i0,fun w=>by simp[Extern.Rtype.under,rl_info _ _ hi,rl_info _ _ h1,h,h2,Result.andThen],h2⟩
theorem sl_u:Try.prog.underlying 31=some (.slice 45):=by kernel_rfl
theorem sl_e:∃ie,Try.prog.info? 45=some ie∧ie.size=2∧ie.hasPointers=true∧ie.bytes=32:=by
 have h:(Try.prog.info? 45).map (fun i=>(i.size,i.hasPointers,i.bytes))=some (2,true,32):=by kernel_rfl
 cases hi:Try.prog.info? 45 with
 |none=>rw[hi]at h;cases h
 |some i=>
  rw[hi]at h;injection h with h;injection h with h1 h;injection h with h2 h3;exact⟨i,rfl,h1,h2,h3⟩
noncomputable def qlA:TypeDesc→Bool
 |.struct _=>true
 |_=>false
theorem qps (w:World):(Extern.Rtype.kind 45).run Try.prog w=.ok 25 w:=by
 have h:(Try.prog.info? 45).map (·.desc)=some (.named "stemma/btree.Entry" 44):=by kernel_rfl
 have h2:(Try.prog.info? 44).map (fun i=>qlA i.desc)=some true:=by kernel_rfl
 cases hi:Try.prog.info? 45 with
 |none=>rw[hi]at h;cases h
 |some i=>
  cases hj:Try.prog.info? 44 with
  |none=>rw[hj]at h2;cases h2
  |some j=>
   rw[hi]at h;rw[hj]at h2;injection h with h;injection h2 with h2;have h2:qlA j.desc=true:=h2;have h:i.desc=_:=h;cases hd:j.desc with
   |struct fs=>simp[Extern.Rtype.kind,Extern.Rtype.under,rl_info _ _ hi,rl_info _ _ hj,h,hd,Result.andThen]
   |_=>rw[hd]at h2;cases h2
theorem sl_agg (w:World):(isAgg 45).run Try.prog w=.ok true w:=by
 have h2:(Try.prog.underlying 45).map qlA=some true:=by kernel_rfl
 cases hj:Try.prog.underlying 45 with
 |none=>rw[hj]at h2;cases h2
 |some d=>
  rw[hj]at h2;injection h2 with h2;cases d with
  |struct fs=>simp[isAgg,run_underlying hj,Result.andThen]
  |_=>cases h2
noncomputable def qgQ (v:Value) (w:World):World:=
 (w.alloc (.cells #[v] 31)).alloc (.cells #[.pointer (some ⟨Try.prog.globals.size,31,none⟩),.pointer (some ⟨w.heap.size,0,none⟩),.int .u64 151] 95)
theorem qjH (p:Option Addr) (n c:Nat) (f:Nat) (B:Array Value) (hsw:∀w,(Extern.ReflectliteSwapper.swapper "internal/reflectlite" (Extern.ReflectliteValue.valueError "Swapper") #[.iface 31 (.slice p n c)]).run Try.prog w=.ok (.func (.func f) #[] B) w)
  (lf:Fn) (la lb:Array Value) (w:World) (R:World→Prop)
  (hp:Calls Try.prog 52 #[.agg #[.func lf la lb,.func (.func f) #[] B],.int .i64 n] (qgQ (.slice p n c) w) fun e w'=>e=.returned (.tuple #[])∧R w'):
  Calls Try.prog 36 #[.iface 31 (.slice p n c),.func lf la lb] w fun e w'=>e=.returned (.tuple #[])∧R w':=by
 obtain⟨i0,hun,hd⟩:=sl_t;have hpk:Try.prog.packed 31=false:=by kernel_rfl
 have hv:=qqN (P:=Try.prog) hun hd p n c w;have hl:=fun a w ha=>rn_len (P:=Try.prog) hun hd sl_u hpk a p n c w ha;unfold qgQ at hp;have hg:Try.prog.globals.size=1:=by kernel_rfl
 simp only[typeHandle,hg]at hv hl hp;go_enter Try.func36,Try.ntmps36;go_wp2;rw[run_callFunc_extern Try.func50 (by kernel_rfl) (by kernel_rfl) (by kernel_rfl) (e:=fun args=>Extern.ReflectliteValue.unpack (args.getD 0 (.tuple #[]))) (by kernel_rfl),
  show Sem.run Try.prog ((fun args:Array Value=>Extern.ReflectliteValue.unpack (args.getD 0 (.tuple #[]))) #[.iface 31 (.slice p n c)]) w=_ from hv]
 simp only[Result.andThen];rw[Oper.upon_value];go_wp2;rw[run_callFunc_extern Try.func51 (by kernel_rfl) (by kernel_rfl) (by kernel_rfl) (e:=Extern.ReflectliteSwapper.swapper "internal/reflectlite" (Extern.ReflectliteValue.valueError "Swapper")) (by kernel_rfl),hsw];simp only[Result.andThen];rw[Oper.upon_value];go_wp2;rw[run_callFunc_extern Try.func53 (by kernel_rfl) (by kernel_rfl) (by kernel_rfl) (e:=Extern.ReflectliteValue.method (Extern.ReflectliteValue.valueError "reflectlite.Value.Len" 0) Extern.ReflectliteValue.len) (by kernel_rfl),
  hl _ _ (by simp)]
 simp only[Result.andThen];rw[Oper.upon_value];go_wp2_with (go_at_call 52;refine hp.mono ?_;rintro e w' ⟨rfl,hR⟩);go_end0;exact⟨rfl,hR⟩
theorem qt0 (args:Array Value) (W:World):(callFunc 69 args).run Try.prog W=((Extern.ReflectliteSwapper.swap false args).run Try.prog W).andThen fun v w'=>.ok (.value v) w':=
 run_callFunc_extern Try.func69 (by kernel_rfl) (by kernel_rfl) (by kernel_rfl) (e:=Extern.ReflectliteSwapper.swap false) (by kernel_rfl) args W
theorem qvl (p:Option Addr) (n c:Nat) (hn:2≤n) (w:World):(Extern.ReflectliteSwapper.swapper "internal/reflectlite" (Extern.ReflectliteValue.valueError "Swapper") #[.iface 31 (.slice p n c)]).run Try.prog w=.ok (.func (.func 69) #[] #[.slice p n c,typeHandle Try.prog 45]) w:=by
 obtain⟨i0,hun,hd⟩:=sl_t;obtain⟨ie,hie,h1,h2,h3⟩:=sl_e;have hk:swapperK n ie 25=9:=by
  have c1:(n==0)=false:=by simp;omega
  have c2:(n==1)=false:=by simp;omega
  unfold swapperK;simp[c1,c2,h2,h3]
 have:=qjb (P:=Try.prog) hun hd hie 25 qps p n c 69 (by rw[hk];kernel_rfl) w;rw[hk]at this;exact this
theorem sl_few (p:Option Addr) (n c:Nat) (hn:n≤1):∃f,∀w,(Extern.ReflectliteSwapper.swapper "internal/reflectlite" (Extern.ReflectliteValue.valueError "Swapper") #[.iface 31 (.slice p n c)]).run Try.prog w=.ok (.func (.func f) #[] #[]) w:=by
 obtain⟨i0,hun,hd⟩:=sl_t;obtain⟨ie,hie,_⟩:=sl_e;rcases(show n=0∨n=1 by omega)with rfl|rfl
 ·exact⟨61,fun w=>qjb (P:=Try.prog) hun hd hie 25 qps p 0 c 61 (by show Try.prog.funcs.findIdx? (·.name== "internal/reflectlite" ++ ".Swapper$" ++toString 1)=_;kernel_rfl) w⟩
 ·exact⟨62,fun w=>qjb (P:=Try.prog) hun hd hie 25 qps p 1 c 62 (by show Try.prog.funcs.findIdx? (·.name== "internal/reflectlite" ++ ".Swapper$" ++toString 2)=_;kernel_rfl) w⟩
theorem qjK {T:qo5}{ks:List (Nat×Nat×Ty)}{k:Nat}{e:Ty}{q:hden ks→List (Option (List e.den))}{u:hden ks→List (Option (List e.den))→hden ks}{S:hden ks→HMs.den ks [.ls,.v (.int .i64)]→Option (hden ks×Unit)}
  (hq:∀p,qcg k (qR ks p)=some ⟨k,45,e,q p⟩) (hu:∀p v,qR ks (u p v)=pset ⟨k,45,e,v⟩ (qR ks p)) (hro:ks.all (fun r=>decide (r.1<100))=true) (hes:e.size=2)
  (hS:qaX.okT Try.prog T 52 ⟨ks,[.ls,.v (.int .i64)],[],S⟩):
  qaX.okT Try.prog T 36 ⟨ks,[.ifc 31 k 2,.hfn [.int .i64,.int .i64] [.bool]],[],fun p x=>if x.1.2.1=0∧x.1.2.2≤4611686018427387904 then(if x.1.2.2≤1 then S p ((x.2.1,fun _ _=>none),(x.1.2.2,()))else S p ((x.2.1,qu2 q u x.1),(x.1.2.2,())))else none⟩:=by
 have hen:∀args w,(callFunc 36 args).run Try.prog w=.ok (.enter 36 args) w:=by
  have hb:Try.f36.body.isSome=true:=by kernel_rfl
  obtain⟨c,hc⟩:=Option.isSome_iff_exists.1 hb;exact fun args w=>qcO Try.func36 hc (by kernel_rfl) args w
 refine⟨hen,fun w F gh p bs x p' y zs hT hks hh hbs hnd hp hy=>?_⟩;obtain⟨s,φ,⟨⟩⟩:=x;obtain⟨v1,r1,rfl,⟨v,rfl,hs⟩,v2,r2,rfl,hφ,rfl⟩:=hp;simp only at hy hφ hs;split at hy;case isFalse=>cases hy
 rename_i hc;obtain⟨hlo,hhi⟩:=hc;obtain⟨ad,n,c,rfl,hn⟩:∃ad n c,v=.slice ad n c∧s.2.2=((n:Nat):Int):=by
  rcases hs with⟨_,_,h3,h4⟩|⟨_,_,h2,ad,n,c,_,_,_,h6⟩
  ·exact⟨none,0,0,h4,h3⟩
  ·rcases h6 with h|⟨h,_⟩
   ·exact⟨_,_,_,by rw[h,hlo];exact qbL ..,by omega⟩
   ·omega
 obtain⟨lf,caps,rfl⟩:=hφ.fn;have k1:qaA (fun _=>False) w (qgQ (.slice ad n c) w):=(qaA.alloc _ _ _).trans (qaA.alloc _ _ _);have keepF:∀b,F b→b<w.heap.size→F b∧b<(qgQ (.slice ad n c) w).heap.size∧(qgQ (.slice ad n c) w).heap[b]? =w.heap[b]? :=fun b hb hl=>⟨hb,Nat.lt_of_lt_of_le hl k1.size,k1.block b hl fun h=>h⟩;have hint:q9 (qgQ (.slice ad n c) w) F (.int .i64) s.2.2 (.int .i64 n):=by
  rw[hn];exact q9.ofInt _ _ (by simp[IntKind.has,IntKind.min,IntKind.max,IntKind.signed,IntKind.bits];omega)
 have fin:∀ {ψ:hden ks→denL [.int .i64,.int .i64]→Option (hden ks×denL [])}{fs:Nat}{B:Array Value},(∀w,(Extern.ReflectliteSwapper.swapper "internal/reflectlite" (Extern.ReflectliteValue.valueError "Swapper") #[.iface 31 (.slice ad n c)]).run Try.prog w=.ok (.func (.func fs) #[] B) w)→
   qdT Try.prog (qgQ (.slice ad n c) w) F gh ks [.int .i64,.int .i64] [] ψ (.func (.func fs) #[] B)→S p ((φ,ψ),(s.2.2,()))=some (p',y)→
   Calls Try.prog 36 #[.iface 31 (.slice ad n c),.func (.func lf) #[] caps] w (qmY w F gh ks bs [] p' y):=fun {ψ fs B} hsw hψ hSy=>by
  have hc:=hS.2 (qgQ (.slice ad n c) w) F gh p bs ((φ,ψ),(s.2.2,())) p' y [.agg #[.func (.func lf) #[] caps,.func (.func fs) #[] B],.int .i64 n] (hT.keep keepF) hks (qL.keep keepF rfl (fun b _ hl=>k1.block b hl fun h=>h) hh)
   (fun b hb=>⟨(hbs b hb).1,Nat.lt_of_lt_of_le (hbs b hb).2 k1.size⟩) hnd ⟨_,_,rfl,⟨_,_,hφ.keep keepF (qaJ.refl _),hψ,rfl⟩,_,_,rfl,hint.toH,rfl⟩ hSy
  refine(qjH ad n c fs B hsw (.func lf) #[] caps w (fun w'=>qmY w F gh ks bs [] p' y (.returned (.tuple #[])) w') (hc.mono ?_)).mono ?_
  ·rintro en w' ⟨vs,gh',bs',rfl,m1,m2,m3,m4,m5,m6⟩;have m5:vs=[]:=m5;subst m5;refine⟨rfl,[],gh',bs',rfl,m1,m2,fun b hb=>⟨?_,(m3 b hb).2⟩,qL.keep (fun b hb hl=>⟨⟨?_,hb.2⟩,hl,rfl⟩) rfl (fun _ _ _=>rfl) m4,rfl,(k1.mono fun _ h=>h.elim).trans m6⟩
   ·exact(m3 b hb).1.imp id fun h=>Nat.le_trans k1.size h
   ·rcases hb.1 with h|h|h
    ·exact .inl h
    ·exact .inr (.inl h)
    ·exact .inr (.inr (Nat.le_trans k1.size h))
  ·rintro en w' ⟨rfl,h⟩;exact h
 split at hy
 ·rename_i h1;obtain⟨f,hsw⟩:=sl_few ad n c (by omega);exact fin hsw qsm hy
 ·rename_i h1;obtain⟨ie,hie,hs2,_⟩:=sl_e;exact fin (qvl ad n c (by omega)) (qvd false hq hu hro qt0 hie (by rw[hs2,hes]) sl_agg (by rw[hes];exact hs) hlo) hy
end Go.Proofs.Ytdiobaoelhdkoaa
