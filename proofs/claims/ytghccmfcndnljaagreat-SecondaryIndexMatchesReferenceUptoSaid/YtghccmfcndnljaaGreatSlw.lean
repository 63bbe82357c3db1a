/- sort.SliceStable over rows of the element type 42: the walk. -/
import Derived.Test.YtghccmfcndnljaaGreatChecked
import Derived.Test.YtghccmfcndnljaaGreatViXE
import Derived.Laws.Externs
import Derived.WalkKit
import Derived.BigCall
import Derived.BigGuard
import Derived.KernelRfl
set_option linter.unusedVariables false
set_option linter.unusedSimpArgs false
set_option linter.unnecessarySimpa false
set_option linter.unusedSectionVars false
set_option maxRecDepth 100000
open List renaming append_nil → zar, nodup_nil → zaH
open Nat renaming lt_of_lt_of_le → zaE
open Option renaming map_eq_some_iff → zaB
namespace Go.Proofs.YtghccmfcndnljaaGreat
open Go.Vi Go.RowKit Go.Lib
theorem sl_t:∃i,Tryz.prog.info? 37=some i∧i.desc=.slice 42:=by
 have h:(Tryz.prog.info? 37).map (·.desc)=some (.slice 42):=by kernel_rfl
 cases hi:Tryz.prog.info? 37 with
 |none=>rw[hi]at h;cases h
 |some i=>rw[hi]at h;exact⟨i,rfl,by injection h⟩
theorem sl_e:∃ie,Tryz.prog.info? 42=some ie∧ie.size=2∧ie.hasPointers=true∧ie.bytes=48:=by
 have h:(Tryz.prog.info? 42).map (fun i=>(i.size,i.hasPointers,i.bytes))=some (2,true,48):=by kernel_rfl
 cases hi:Tryz.prog.info? 42 with
 |none=>rw[hi]at h;cases h
 |some i=>
  rw[hi]at h;injection h with h;injection h with h1 h;injection h with h2 h3;exact⟨i,rfl,h1,h2,h3⟩
noncomputable def qlS:TypeDesc→Bool
 |.struct _=>true
 |_=>false
theorem qpT (w:World):(Extern.Rtype.kind 42).run Tryz.prog w=.ok 25 w:=by
 have h:(Tryz.prog.info? 42).map (·.desc)=some (.named "stemma/stemref4.IndexedRow" 41):=by kernel_rfl
 have h2:(Tryz.prog.info? 41).map (fun i=>qlS i.desc)=some true:=by kernel_rfl
 cases hi:Tryz.prog.info? 42 with
 |none=>rw[hi]at h;cases h
 |some i=>
  cases hj:Tryz.prog.info? 41 with
  |none=>rw[hj]at h2;cases h2
  |some j=>
   rw[hi]at h;rw[hj]at h2;injection h with h;injection h2 with h2;have h2:qlS j.desc=true:=h2;have h:i.desc=_:=h;cases hd:j.desc with
   |struct fs=>simp[Extern.Rtype.kind,Extern.Rtype.under,rl_info _ _ hi,rl_info _ _ hj,h,hd,Result.andThen]
   |_=>rw[hd]at h2;cases h2
theorem sl_agg (w:World):(isAgg 42).run Tryz.prog w=.ok true w:=by
 have h2:(Tryz.prog.underlying 42).map qlS=some true:=by kernel_rfl
 cases hj:Tryz.prog.underlying 42 with
 |none=>rw[hj]at h2;cases h2
 |some d=>
  rw[hj]at h2;injection h2 with h2;cases d with
  |struct fs=>simp[isAgg,run_underlying hj,Result.andThen]
  |_=>cases h2
noncomputable def qc2 (v:Value) (w:World):World:=
 (w.alloc (.cells #[v] 37)).alloc (.cells #[.pointer (some ⟨Tryz.prog.globals.size,37,none⟩),.pointer (some ⟨w.heap.size,0,none⟩),.int .u64 151] 100)
theorem qlc (p:Option Addr) (n c:Nat) (f:Nat) (B:Array Value) (hsw:∀w,(Extern.ReflectliteSwapper.swapper "internal/reflectlite" (Extern.ReflectliteValue.valueError "Swapper") #[.iface 37 (.slice p n c)]).run Tryz.prog w=.ok (.func (.func f) #[] B) w)
  (lf:Fn) (la lb:Array Value) (w:World) (R:World→Prop)
  (hp:Calls Tryz.prog 64 #[.agg #[.func lf la lb,.func (.func f) #[] B],.int .i64 n] (qc2 (.slice p n c) w) fun e w'=>e=.returned (.tuple #[])∧R w'):
  Calls Tryz.prog 36 #[.iface 37 (.slice p n c),.func lf la lb] w fun e w'=>e=.returned (.tuple #[])∧R w':=by
 obtain⟨i,hi,hd⟩:=sl_t;have hpk:Tryz.prog.packed 37=false:=by kernel_rfl
 have hv:=run_valueOf_slice (P:=Tryz.prog) 37 42 i hi hd p n c w;have hl:=fun a w ha=>run_valueLen_slice (P:=Tryz.prog) 37 42 i hi hd hpk a p n c w ha;unfold qc2 at hp;have hg:Tryz.prog.globals.size=1:=by kernel_rfl
 simp only[typeHandle,hg]at hv hl hp;go_enter Tryz.func36,Tryz.ntmps36;go_wp2;rw[run_callFunc_extern Tryz.func62 (by kernel_rfl) (by kernel_rfl) (by kernel_rfl) (e:=fun args=>Extern.ReflectliteValue.unpack (args.getD 0 (.tuple #[]))) (by kernel_rfl),
  show Sem.run Tryz.prog ((fun args:Array Value=>Extern.ReflectliteValue.unpack (args.getD 0 (.tuple #[]))) #[.iface 37 (.slice p n c)]) w=_ from hv]
 simp only[Result.andThen];rw[Oper.upon_value];go_wp2;rw[run_callFunc_extern Tryz.func63 (by kernel_rfl) (by kernel_rfl) (by kernel_rfl) (e:=Extern.ReflectliteSwapper.swapper "internal/reflectlite" (Extern.ReflectliteValue.valueError "Swapper")) (by kernel_rfl),hsw];simp only[Result.andThen];rw[Oper.upon_value];go_wp2;rw[run_callFunc_extern Tryz.func65 (by kernel_rfl) (by kernel_rfl) (by kernel_rfl) (e:=Extern.ReflectliteValue.method (Extern.ReflectliteValue.valueError "reflectlite.Value.Len" 0) Extern.ReflectliteValue.len) (by kernel_rfl),
  hl _ _ (by simp)]
 simp only[Result.andThen];rw[Oper.upon_value];go_wp2_with (go_at_call 64;refine hp.mono ?_;rintro e w' ⟨rfl,hR⟩);go_end0;exact⟨rfl,hR⟩
theorem qix (p:Option Addr) (n c:Nat) (w:World) (R:World→Value→Prop)
  (hs:Calls Tryz.prog 36 #[.iface 37 (.slice p n c),.func (.func 37) #[] #[.pointer (some ⟨w.heap.size,0,none⟩)]] (w.alloc (.cells #[.slice p n c] 37)) fun e w'=>e=.returned (.tuple #[])∧∃u,w'.cell? ⟨w.heap.size,0,none⟩=some u∧u.oneCell'=true∧R w' u):
  Calls Tryz.prog 16 #[.slice p n c] w fun e w'=>∃u,e=.returned u∧R w' u:=by
 go_enter Tryz.func16,Tryz.ntmps16;go_wp2_with (go_at_call 36;refine hs.mono ?_;rintro e w' ⟨rfl,u,hu,h1,hR⟩);go_ret;exact⟨u,rfl,hR⟩
theorem quE (args:Array Value) (W:World):(callFunc 88 args).run Tryz.prog W=((Extern.ReflectliteSwapper.swap false args).run Tryz.prog W).andThen fun v w'=>.ok (.value v) w':=
 run_callFunc_extern Tryz.func88 (by kernel_rfl) (by kernel_rfl) (by kernel_rfl) (e:=Extern.ReflectliteSwapper.swap false) (by kernel_rfl) args W
theorem qwl (p:Option Addr) (n c:Nat) (hn:2≤n) (w:World):(Extern.ReflectliteSwapper.swapper "internal/reflectlite" (Extern.ReflectliteValue.valueError "Swapper") #[.iface 37 (.slice p n c)]).run Tryz.prog w=.ok (.func (.func 88) #[] #[.slice p n c,typeHandle Tryz.prog 42]) w:=by
 obtain⟨i,hi,hd⟩:=sl_t;obtain⟨ie,hie,h1,h2,h3⟩:=sl_e;have hk:swapperK n ie 25=9:=by
  have c1:(n==0)=false:=by simp;omega
  have c2:(n==1)=false:=by simp;omega
  unfold swapperK;simp[c1,c2,h2,h3]
 have:=run_swapper_slice (P:=Tryz.prog) 37 42 i ie hi hd hie 25 qpT p n c 88 (by rw[hk];kernel_rfl) w;rw[hk]at this;exact this
theorem sl_few (p:Option Addr) (n c:Nat) (hn:n≤1):∃f,∀w,(Extern.ReflectliteSwapper.swapper "internal/reflectlite" (Extern.ReflectliteValue.valueError "Swapper") #[.iface 37 (.slice p n c)]).run Tryz.prog w=.ok (.func (.func f) #[] #[]) w:=by
 obtain⟨i,hi,hd⟩:=sl_t;obtain⟨ie,hie,_⟩:=sl_e;rcases(show n=0∨n=1 by omega)with rfl|rfl
 ·exact⟨80,fun w=>run_swapper_slice (P:=Tryz.prog) 37 42 i ie hi hd hie 25 qpT p 0 c 80 (by show Tryz.prog.funcs.findIdx? (·.name== "internal/reflectlite" ++ ".Swapper$" ++toString 1)=_;kernel_rfl) w⟩
 ·exact⟨81,fun w=>run_swapper_slice (P:=Tryz.prog) 37 42 i ie hi hd hie 25 qpT p 1 c 81 (by show Tryz.prog.funcs.findIdx? (·.name== "internal/reflectlite" ++ ".Swapper$" ++toString 2)=_;kernel_rfl) w⟩
theorem qvp {T:qpF}{e:Ty}{S:((List e.den×(List e.den→Int→Int→Option Bool))×(Int×Unit))→Option (Unit×(List e.den×Unit))}
  (hS:qr.okT Tryz.prog T 64 ⟨[.lsw 42 e,.val (.int .i64)],[],S⟩) {w:World}{F:Nat→Prop}(hT:qen T w F) (p:Option Addr) (n c:Nat) (hmax:n≤maxLen) (f:Nat) (B:Array Value) (L:Value) (hLL:L=Value.agg #[.func (.func 37) #[] #[.pointer (some ⟨w.heap.size,0,none⟩)],.func (.func f) #[] B])
  (hpre:∀b∈(Value.slice p n c).ownBlock.toList,¬F b∧b<w.heap.size)
  (hsw:∀w,(Extern.ReflectliteSwapper.swapper "internal/reflectlite" (Extern.ReflectliteValue.valueError "Swapper") #[.iface 37 (.slice p n c)]).run Tryz.prog w=.ok (.func (.func f) #[] B) w)
  {zs ys:List e.den}{φ:List e.den→Int→Int→Option Bool}(hL1:qjL Tryz.prog (qc2 (.slice p n c) (w.alloc (.cells #[.slice p n c] 37))) (fun b=>F b∨b=w.heap.size) 42 e φ L)
  (hL2:qcd (qc2 (.slice p n c) (w.alloc (.cells #[.slice p n c] 37))) (fun b=>F b∨b=w.heap.size) 42 e zs (qeb L) (qeb L).ownBlock.toList) (hL3:∀b∈(qeb L).ownBlock.toList,b∈(Value.slice p n c).ownBlock.toList) (hnd:(qeb L).ownBlock.toList.Nodup)
  (hSy:S ((zs,φ),((n:Int),()))=some ((),(ys,()))):
  Calls Tryz.prog 16 #[.slice p n c] w fun en w'=>∃u,en=.returned u∧u=.slice p n c∧qbc (fun b=>b∈(qeb L).ownBlock.toList) w w'∧
   qcd w' (qgn (qc2 (.slice p n c) (w.alloc (.cells #[.slice p n c] 37))) (fun b=>F b∨b=w.heap.size) [] (qeb L).ownBlock.toList []) 42 e ys (qeb L) (qeb L).ownBlock.toList:=by
 have hsz2:(qc2 (.slice p n c) (w.alloc (.cells #[.slice p n c] 37))).heap.size=w.heap.size+3:=by simp[qc2]
 have k1:qbc (fun _=>False) w (qc2 (.slice p n c) (w.alloc (.cells #[.slice p n c] 37))):=(qbc.alloc _ _ _).trans ((qbc.alloc _ _ _).trans (qbc.alloc _ _ _));have hblk:(qc2 (.slice p n c) (w.alloc (.cells #[.slice p n c] 37))).heap[w.heap.size]? =some (.cells #[.slice p n c] 37 (0,0)):=by
  unfold qc2;rw[qdc _ _ _ (by simp;omega),qdc _ _ _ (by simp),heap_alloc_new]
 refine qix p n c w _ (qlc p n c f B hsw (.func 37) #[] #[.pointer (some ⟨w.heap.size,0,none⟩)] _ _ ?_);generalize hw2:qc2 (.slice p n c) (w.alloc (.cells #[.slice p n c] 37))=w2 at hL1 hL2 hsz2 k1 hblk⊢
 have hT2:qen T w2 (fun b=>F b∨b=w.heap.size):=hT.keep fun b hb hlt=>⟨.inl hb,by omega,k1.block b hlt fun h=>h⟩;unfold maxLen at hmax;have hn:qau w2 (fun b=>F b∨b=w.heap.size) (.int .i64) (n:Int) (.int .i64 n):=qau.ofInt _ _ (by simp[IntKind.has,IntKind.min,IntKind.max,IntKind.signed,IntKind.bits];omega);have hps:qaq Tryz.prog w2 (fun b=>F b∨b=w.heap.size) [.lsw 42 e,.val (.int .i64)] ((zs,φ),((n:Int),())) [L,.int .i64 n] [] (qeb L).ownBlock.toList:=
  ⟨L,_,(qeb L).ownBlock.toList,[],rfl,by rw[zar],hL2,hL1,_,_,rfl,hn,rfl,rfl,rfl⟩
 have hc:=hS.2 w2 _ ((zs,φ),((n:Int),())) ((),(ys,())) [L,.int .i64 n] [] (qeb L).ownBlock.toList hT2 hps (fun b hb=>by
  obtain⟨h1,h2⟩:=hpre b (hL3 b hb);exact⟨fun h=>h.elim h1 fun h=>by omega,by omega⟩) hnd hSy
 rw[hLL]at hc;rw[←hLL]at hc;have hc:Calls Tryz.prog 64 #[L,.int .i64 n] w2 _:=hc;rw[hLL]at hc;refine hc.mono ?_;rintro en w' ⟨v',rfl,vs,bs,js,rfl,_,_,hres,hios,hk⟩;obtain⟨rfl,rfl⟩:=hres;obtain⟨i1,i2,q1,q2,q3,rfl⟩:=hios;subst q3;rw[zar]at q1;subst q1;rw[←hLL]at hk q2;refine⟨rfl,.slice p n c,?_,rfl,rfl,(k1.mono fun _ h=>h.elim).trans (hk.mono fun b hb=>by simpa using hb),?_⟩
 ·have:=hk.block w.heap.size (by omega) (fun hb=>by
   have:=(hpre _ (hL3 _ (by simpa using hb))).2;omega)
  simp[World.cell?,this,hblk]
 ·exact q2
theorem qmy {T:qpF}{e:Ty}{G:(Int×(Int×(List e.den×Unit)))→Option ((Bool×Unit)×Unit)}{S:((List e.den×(List e.den→Int→Int→Option Bool))×(Int×Unit))→Option (Unit×(List e.den×Unit))}
  (hS:qr.okT Tryz.prog T 64 ⟨[.lsw 42 e,.val (.int .i64)],[],S⟩) (hL:qr.okT Tryz.prog T 37 ⟨[.val (.int .i64),.val (.int .i64),.rd (.slice e)],[.val .bool],G⟩) (hsz:e.size=2):
  qr.okT Tryz.prog T 16 ⟨[.own 42 e],[.own 42 e],fun x=>bif leI (qs x.1) 1 then qhI (fun _=>((x.1,()),())) (S (([],fun _ _ _=>none),(qs x.1,())))else qhI (fun y=>((y.2.1,()),())) (S ((x.1,qkW G),(qs x.1,())))⟩:=by
 have hm:etM 42=[]:=by decide
 have hen:∀args w,(callFunc 16 args).run Tryz.prog w=.ok (.enter 16 args) w:=by
  have hb:Tryz.f16.body.isSome=true:=by kernel_rfl
  obtain⟨c,hc⟩:=Option.isSome_iff_exists.1 hb;exact fun args w=>qcN Tryz.func16 hc (by kernel_rfl) args w
 refine⟨hen,fun w F x y vals g i hT hp hpre hn hy=>?_⟩;obtain⟨xs,⟨⟩⟩:=x;obtain⟨v,r,g1,g2,rfl,rfl,hO,rfl,rfl,rfl⟩:=hp;have hR:qcd w F 42 e xs v g1:=q8.toRow hm hO;have hg1:g1=v.ownBlock.toList:=by
  obtain⟨_,cells,_,hb,_⟩:=hR;exact hb
 subst hg1;obtain⟨p,c,rfl,hmax⟩:∃p c,v=.slice p xs.length c∧xs.length≤maxLen:=by
  obtain⟨_,cells,ho,_⟩:=hR;rcases ho.2 with⟨h0,h1⟩|⟨g,cap,cur,h0,_,_,h1,h2,_⟩
  ·exact⟨none,0,by rw[h0,h1],by omega⟩
  ·exact⟨_,cap,h0,by omega⟩
 rw[zar];simp only[zar]at hpre hn;have k1:qbc (fun _=>False) w (qc2 (.slice p xs.length c) (w.alloc (.cells #[.slice p xs.length c] 37))):=(qbc.alloc _ _ _).trans ((qbc.alloc _ _ _).trans (qbc.alloc _ _ _));have hsz2:(qc2 (.slice p xs.length c) (w.alloc (.cells #[.slice p xs.length c] 37))).heap.size=w.heap.size+3:=by simp[qc2]
 have hblk:(qc2 (.slice p xs.length c) (w.alloc (.cells #[.slice p xs.length c] 37))).heap[w.heap.size]? =some (.cells #[.slice p xs.length c] 37 (0,0)):=by
  unfold qc2;rw[qdc _ _ _ (by simp;omega),qdc _ _ _ (by simp),heap_alloc_new]
 have fin:∀(ys:List e.den) (u:Value) (w':World),u=.slice p xs.length c→qbc (fun b=>b∈(Value.slice p xs.length c).ownBlock.toList) w w'→qcd w' (qgn w F (Value.slice p xs.length c).ownBlock.toList [] (Value.slice p xs.length c).ownBlock.toList) 42 e ys (.slice p xs.length c) (Value.slice p xs.length c).ownBlock.toList→
   (⟨[.own 42 e],[.own 42 e],fun _=>none⟩:qr).Post w F [.slice p xs.length c] (Value.slice p xs.length c).ownBlock.toList [] ((ys,()),()) u w':=by
  rintro ys u w' rfl hk hrow;refine qr.Post.mk0 [.slice p xs.length c] (Value.slice p xs.length c).ownBlock.toList rfl hn (fun b hb=>⟨.inl hb,zaE (hpre b hb).2 hk.size⟩) ⟨_,_,_,[],rfl,by rw[zar],hrow.own,rfl,rfl⟩ ⟨rfl,rfl⟩ ?_;rw[zar];exact hk
 have hlen:qs xs=(xs.length:Int):=by rw[qp]
 simp only[hlen,qbQ]at hy;by_cases h1:xs.length≤1
 ·have hd:decide ((xs.length:Int)≤1)=true:=by simp;omega
  rw[hd]at hy;simp only[cond_true,qdR,zaB]at hy;obtain⟨z,hz,rfl⟩:=hy;obtain⟨⟨⟩,ys,⟨⟩⟩:=z;obtain⟨f,hsw⟩:=sl_few p xs.length c h1;have h37:∀args w',(callFunc 37 args).run Tryz.prog w'=.ok (.enter 37 args) w':=hL.1;refine(qvp hS hT p xs.length c hmax f #[] _ rfl hpre hsw (qry fun args w'=>hL.1 args w') (by rw[qgB];exact⟨hm,(q8.nil_ _ _ _ _).to0 hm⟩) (by rw[qgB];intro b hb;cases hb) (by rw[qgB];exact zaH) hz).mono ?_;rintro en w' ⟨u,rfl,hu,hk,_⟩;rw[qgB]at hk;refine⟨u,rfl,fin xs u w' hu (hk.mono fun b hb=>(by cases hb)) ?_⟩;exact hR.keep (fun b hb hlt=>⟨⟨.inl hb,fun hm=>(hpre b hm).1 hb,fun hm=>by cases hm⟩,zaE hlt hk.size,hk.block b hlt fun hm=>by cases hm⟩) (fun b hb hlt=>hk.block b hlt fun hm=>by cases hm)
 ·have hd:decide ((xs.length:Int)≤1)=false:=by simp;omega
  rw[hd]at hy;simp only[cond_false,qdR,zaB]at hy;obtain⟨z,hz,rfl⟩:=hy;obtain⟨⟨⟩,ys,⟨⟩⟩:=z;obtain⟨ie,hie,hs2,_⟩:=sl_e;have hsw:=qwl p xs.length c (by omega);have hrow2:qcd (qc2 (.slice p xs.length c) (w.alloc (.cells #[.slice p xs.length c] 37))) (fun b=>F b∨b=w.heap.size) 42 e xs (.slice p xs.length c) (Value.slice p xs.length c).ownBlock.toList:=
   hR.keep (fun b hb hlt=>⟨.inl hb,by omega,k1.block b hlt fun h=>h⟩) (fun b hb hlt=>k1.block b hlt fun h=>h)
  have hls:qjL Tryz.prog (qc2 (.slice p xs.length c) (w.alloc (.cells #[.slice p xs.length c] 37))) (fun b=>F b∨b=w.heap.size) 42 e (qkW G) (Value.agg #[.func (.func 37) #[] #[.pointer (some ⟨w.heap.size,0,none⟩)],.func (.func 88) #[] #[.slice p xs.length c,typeHandle Tryz.prog 42]]):=by
   refine quj (fun args w'=>hL.1 args w') false quE hie (by rw[hs2,hsz]) sl_agg fun w' F' zs hk hR' hn' a b q hq=>?_;obtain⟨q1,q2,q3⟩:=hk w.heap.size (.inr rfl) (by omega);refine qwi hL (hT.keep fun b hb hlt=>?_) q1 q2 (by simp[World.cell?,q3,hblk]) hR' hn' hq;obtain⟨r1,r2,r3⟩:=hk b (.inl hb) (by omega);exact⟨r1,r2,r3.trans (k1.block b hlt fun h=>h)⟩
  refine(qvp hS hT p xs.length c hmax 88 _ _ rfl hpre hsw hls (by rw[qjv];exact hrow2) (by rw[qjv];exact fun b hb=>hb) (by rw[qjv];exact hn) hz).mono ?_;rintro en w' ⟨u,rfl,hu,hk,hrow⟩;rw[qjv]at hk hrow;refine⟨u,rfl,fin ys u w' hu hk (hrow.keep (fun b hb hlt=>⟨⟨?_,hb.2.2,fun hm=>by cases hm⟩,hlt,rfl⟩) (fun _ _ _=>rfl))⟩;rcases hb.1 with(h|h)|h|h
  ·exact .inl h
  ·exact .inr (.inr (by omega))
  ·cases h
  ·exact .inr (.inr (by omega))
end Go.Proofs.YtghccmfcndnljaaGreat
