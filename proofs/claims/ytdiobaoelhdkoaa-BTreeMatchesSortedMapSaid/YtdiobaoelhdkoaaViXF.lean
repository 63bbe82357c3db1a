import Derived.Test.YtdiobaoelhdkoaaViXE
set_option linter.unusedVariables false
set_option linter.unusedSimpArgs false
set_option linter.unnecessarySimpa false
set_option linter.unusedSectionVars false
set_option linter.unusedSimpArgs false
set_option linter.unusedVariables false
set_option maxRecDepth 100000
open Bool renaming and_self → zaw
open Int renaming le_refl → zaF, toNat_natCast → zat
open List renaming drop_eq_getElem_cons → zaB, drop_of_length_le → zaI, getElem?_eq_getElem → zac, length_drop → zal, mem_cons_of_mem → zaj, mem_cons_self → zar, replicate → zaT
open Nat renaming zero_le → zaD
namespace Go.Vi
noncomputable def qua {α:Type}(xs:List α) (i j:Int):List α:=(qW (α:=(List α)→Int→Int→(List α)) fun xs i j=>match xs[i.toNat]?,xs[j.toNat]? with|some x,some y=>(xs.set i.toNat y).set j.toNat x|_,_=>xs).1 xs i j
theorem qqf {α:Type}(xs:List α) (i j:Int):qua xs i j=(match xs[i.toNat]?,xs[j.toNat]? with|some x,some y=>(xs.set i.toNat y).set j.toNat x|_,_=>xs):=by unfold qua;rw[(qW _).2]
noncomputable section
def qkJ {α:Type}(N:Nat) (x:((List α×(List α→Int→Int→Option Bool))×(Int×(Int×Unit)))):Option (Unit×(List α×Unit)):=
 (qaE (S:=((List α)×(Int×Unit))) (R:=(Unit×((List α)×Unit))) N (fun ih0=>(fun p1=>(bif (ltI p1.2.1 x.2.2.1)then(qaE (S:=((List α)×(Int×Unit))) (R:=(Unit×((List α)×Unit))) N (fun ih2=>(fun p3=>(bif ((!(ltI x.2.1 p3.2.1))||(qp (x.1.2 p3.1 p3.2.1 (qaF .i64 p3.2.1 1))))then(bif ((ltI x.2.1 p3.2.1)&&(qy (x.1.2 p3.1 p3.2.1 (qaF .i64 p3.2.1 1)) false))then(bif ((inB p3.2.1 (qn p3.1))&&(inB (qaF .i64 p3.2.1 1) (qn p3.1)))then(ih2 ((qua p3.1 p3.2.1 (qaF .i64 p3.2.1 1)),((qaF .i64 p3.2.1 1),())))else none)else(ih0 (p3.1,((qaj .i64 p1.2.1 1),()))))else none))) (p1.1,(p1.2.1,())))else(some ((),(p1.1,())))))) (x.1.1,((qaj .i64 x.2.1 1),())))
def qio {α:Type}(N:Nat) (x:((List α×(List α→Int→Int→Option Bool))×(Int×(Int×(Int×Unit))))):Option (Unit×(List α×Unit)):=
 (qaE (S:=((List α)×(Int×Unit))) (R:=(Unit×((List α)×Unit))) N (fun ih0=>(fun p1=>(bif (ltI p1.2.1 x.2.2.2.1)then(bif ((inB (qaj .i64 x.2.1 p1.2.1) (qn p1.1))&&(inB (qaj .i64 x.2.2.1 p1.2.1) (qn p1.1)))then(ih0 ((qua p1.1 (qaj .i64 x.2.1 p1.2.1) (qaj .i64 x.2.2.1 p1.2.1)),((qaj .i64 p1.2.1 1),())))else none)else(some ((),(p1.1,())))))) (x.1.1,(0,())))
def qfB {α:Type}(N:Nat) (x:((List α×(List α→Int→Int→Option Bool))×(Int×(Int×(Int×Unit))))):Option (Unit×(List α×Unit)):=
 (qT (qaF .i64 x.2.2.1 x.2.1) (fun y0=>(qaE (S:=((List α)×(Int×(Int×Unit)))) (R:=(Unit×((List α)×Unit))) N (fun ih1=>(fun p2=>(bif (neI p2.2.1 p2.2.2.1)then(bif (bif (ltI p2.2.2.1 p2.2.1)then(qp (qio N ((p2.1,x.1.2),((qaF .i64 x.2.2.1 p2.2.1),(x.2.2.1,(p2.2.2.1,()))))))else(qp (qio N ((p2.1,x.1.2),((qaF .i64 x.2.2.1 p2.2.1),((qaF .i64 (qaj .i64 x.2.2.1 p2.2.2.1) p2.2.1),(p2.2.1,())))))))then(ih1 ((bif (ltI p2.2.2.1 p2.2.1)then(qy (qio N ((p2.1,x.1.2),((qaF .i64 x.2.2.1 p2.2.1),(x.2.2.1,(p2.2.2.1,()))))) ((),(([]:List α),()))).2.1 else(qy (qio N ((p2.1,x.1.2),((qaF .i64 x.2.2.1 p2.2.1),((qaF .i64 (qaj .i64 x.2.2.1 p2.2.2.1) p2.2.1),(p2.2.1,()))))) ((),(([]:List α),()))).2.1),((bif (ltI p2.2.2.1 p2.2.1)then(qaF .i64 p2.2.1 p2.2.2.1)else p2.2.1),((bif (ltI p2.2.2.1 p2.2.1)then p2.2.2.1 else(qaF .i64 p2.2.2.1 p2.2.1)),()))))else none)else(bif (qp (qio N ((p2.1,x.1.2),((qaF .i64 x.2.2.1 p2.2.1),(x.2.2.1,(p2.2.1,()))))))then(some ((),((qy (qio N ((p2.1,x.1.2),((qaF .i64 x.2.2.1 p2.2.1),(x.2.2.1,(p2.2.1,()))))) ((),(([]:List α),()))).2.1,())))else none)))) (x.1.1,(y0,((qaF .i64 x.2.2.2.1 x.2.2.1),()))))))
def qnu {α:Type}(N:Nat) (Fs:((List α×(List α→Int→Int→Option Bool))×(Int×(Int×(Int×Unit))))→Option (Unit×(List α×Unit))) (x:((List α×(List α→Int→Int→Option Bool))×(Int×(Int×(Int×Unit))))):Option (Unit×(List α×Unit)):=
 (bif (eqI (qaF .i64 x.2.2.1 x.2.1) 1)then(qaE (S:=((List α)×(Int×(Int×Unit)))) (R:=(Unit×((List α)×Unit))) N (fun ih0=>(fun p1=>(bif (ltI p1.2.1 p1.2.2.1)then(bif (leI 0 1)then(qT (qcE .i64 (qlZ .u64 (qcE .u64 (qaj .i64 p1.2.1 p1.2.2.1)) 1)) (fun y2=>(bif (qp (x.1.2 p1.1 y2 x.2.1))then(qT (qy (x.1.2 p1.1 y2 x.2.1) false) (fun y3=>(ih0 (p1.1,((bif y3 then(qaj .i64 y2 1)else p1.2.1),((bif y3 then p1.2.2.1 else y2),()))))))else none)))else none)else(qaE (S:=((List α)×(Int×Unit))) (R:=(Unit×((List α)×Unit))) N (fun ih2=>(fun p3=>(bif (ltI p3.2.1 (qaF .i64 p1.2.1 1))then(bif ((inB p3.2.1 (qn p3.1))&&(inB (qaj .i64 p3.2.1 1) (qn p3.1)))then(ih2 ((qua p3.1 p3.2.1 (qaj .i64 p3.2.1 1)),((qaj .i64 p3.2.1 1),())))else none)else(some ((),(p3.1,())))))) (p1.1,(x.2.1,())))))) (x.1.1,(x.2.2.1,(x.2.2.2.1,()))))else(bif (eqI (qaF .i64 x.2.2.2.1 x.2.2.1) 1)then(qaE (S:=((List α)×(Int×(Int×Unit)))) (R:=(Unit×((List α)×Unit))) N (fun ih0=>(fun p1=>(bif (ltI p1.2.1 p1.2.2.1)then(bif (leI 0 1)then(qT (qcE .i64 (qlZ .u64 (qcE .u64 (qaj .i64 p1.2.1 p1.2.2.1)) 1)) (fun y2=>(bif (qp (x.1.2 p1.1 x.2.2.1 y2))then(ih0 (p1.1,((bif (!(qy (x.1.2 p1.1 x.2.2.1 y2) false))then(qaj .i64 y2 1)else p1.2.1),((bif (!(qy (x.1.2 p1.1 x.2.2.1 y2) false))then p1.2.2.1 else y2),()))))else none)))else none)else(qaE (S:=((List α)×(Int×Unit))) (R:=(Unit×((List α)×Unit))) N (fun ih2=>(fun p3=>(bif (ltI p1.2.1 p3.2.1)then(bif ((inB p3.2.1 (qn p3.1))&&(inB (qaF .i64 p3.2.1 1) (qn p3.1)))then(ih2 ((qua p3.1 p3.2.1 (qaF .i64 p3.2.1 1)),((qaF .i64 p3.2.1 1),())))else none)else(some ((),(p3.1,())))))) (p1.1,(x.2.2.1,())))))) (x.1.1,(x.2.1,(x.2.2.1,()))))else(bif (leI 0 1)then(qT (qcE .i64 (qlZ .u64 (qcE .u64 (qaj .i64 x.2.1 x.2.2.2.1)) 1)) (fun y0=>(qT (qaj .i64 y0 x.2.2.1) (fun y1=>(qT (bif (ltI y0 x.2.2.1)then(qaF .i64 y1 x.2.2.2.1)else x.2.1) (fun y2=>(qT (bif (ltI y0 x.2.2.1)then y0 else x.2.2.1) (fun y3=>(qaE (S:=((List α)×(Int×(Int×Unit)))) (R:=(Unit×((List α)×Unit))) N (fun ih4=>(fun p5=>(bif (ltI p5.2.1 p5.2.2.1)then(bif (leI 0 1)then(qT (qcE .i64 (qlZ .u64 (qcE .u64 (qaj .i64 p5.2.1 p5.2.2.1)) 1)) (fun y6=>(bif (qp (x.1.2 p5.1 (qaF .i64 (qaF .i64 y1 1) y6) y6))then(ih4 (p5.1,((bif (!(qy (x.1.2 p5.1 (qaF .i64 (qaF .i64 y1 1) y6) y6) false))then(qaj .i64 y6 1)else p5.2.1),((bif (!(qy (x.1.2 p5.1 (qaF .i64 (qaF .i64 y1 1) y6) y6) false))then p5.2.2.1 else y6),()))))else none)))else none)else(qT (qaF .i64 y1 p5.2.1) (fun y6=>(qT ((ltI p5.2.1 x.2.2.1)&&(ltI x.2.2.1 y6)) (fun y7=>(bif (bif y7 then(qp (qfB N ((p5.1,x.1.2),(p5.2.1,(x.2.2.1,(y6,()))))))else true)then(qT ((ltI x.2.1 p5.2.1)&&(ltI p5.2.1 y0)) (fun y8=>(bif (bif y8 then(qp (Fs (((bif y7 then(qy (qfB N ((p5.1,x.1.2),(p5.2.1,(x.2.2.1,(y6,()))))) ((),(([]:List α),()))).2.1 else p5.1),x.1.2),(x.2.1,(p5.2.1,(y0,()))))))else true)then(qT ((ltI y0 y6)&&(ltI y6 x.2.2.2.1)) (fun y9=>(bif (bif y9 then(qp (Fs (((bif y8 then(qy (Fs (((bif y7 then(qy (qfB N ((p5.1,x.1.2),(p5.2.1,(x.2.2.1,(y6,()))))) ((),(([]:List α),()))).2.1 else p5.1),x.1.2),(x.2.1,(p5.2.1,(y0,()))))) ((),(([]:List α),()))).2.1 else(bif y7 then(qy (qfB N ((p5.1,x.1.2),(p5.2.1,(x.2.2.1,(y6,()))))) ((),(([]:List α),()))).2.1 else p5.1)),x.1.2),(y0,(y6,(x.2.2.2.1,()))))))else true)then(some ((),((bif y9 then(qy (Fs (((bif y8 then(qy (Fs (((bif y7 then(qy (qfB N ((p5.1,x.1.2),(p5.2.1,(x.2.2.1,(y6,()))))) ((),(([]:List α),()))).2.1 else p5.1),x.1.2),(x.2.1,(p5.2.1,(y0,()))))) ((),(([]:List α),()))).2.1 else(bif y7 then(qy (qfB N ((p5.1,x.1.2),(p5.2.1,(x.2.2.1,(y6,()))))) ((),(([]:List α),()))).2.1 else p5.1)),x.1.2),(y0,(y6,(x.2.2.2.1,()))))) ((),(([]:List α),()))).2.1 else(bif y8 then(qy (Fs (((bif y7 then(qy (qfB N ((p5.1,x.1.2),(p5.2.1,(x.2.2.1,(y6,()))))) ((),(([]:List α),()))).2.1 else p5.1),x.1.2),(x.2.1,(p5.2.1,(y0,()))))) ((),(([]:List α),()))).2.1 else(bif y7 then(qy (qfB N ((p5.1,x.1.2),(p5.2.1,(x.2.2.1,(y6,()))))) ((),(([]:List α),()))).2.1 else p5.1))),())))else none)))else none)))else none)))))))) (x.1.1,(y2,(y3,()))))))))))))else none)))
def qgz {α:Type}(N M:Nat):((List α×(List α→Int→Int→Option Bool))×(Int×(Int×(Int×Unit))))→Option (Unit×(List α×Unit)):=
 Nat.rec (motive:=fun _=>((List α×(List α→Int→Int→Option Bool))×(Int×(Int×(Int×Unit))))→Option (Unit×(List α×Unit))) (fun _=>none) (fun _ Fs=>qnu N Fs) M
def qoN {α:Type}(N:Nat):((List α×(List α→Int→Int→Option Bool))×(Int×(Int×(Int×Unit))))→Option (Unit×(List α×Unit)):=qgz N N
def qnY {α:Type}(N:Nat) (x:((List α×(List α→Int→Int→Option Bool))×(Int×Unit))):Option (Unit×(List α×Unit)):=
 (qaE (S:=((List α)×(Int×(Int×Unit)))) (R:=(Unit×((List α)×Unit))) N (fun ih0=>(fun p1=>(bif (leI p1.2.2.1 x.2.1)then(bif (qp (qkJ N ((p1.1,x.1.2),(p1.2.1,(p1.2.2.1,())))))then(qT p1.2.2.1 (fun y2=>(ih0 ((qy (qkJ N ((p1.1,x.1.2),(p1.2.1,(p1.2.2.1,())))) ((),(([]:List α),()))).2.1,(y2,((qaj .i64 y2 20),()))))))else none)else(bif (qp (qkJ N ((p1.1,x.1.2),(p1.2.1,(x.2.1,())))))then(qaE (S:=((List α)×(Int×Unit))) (R:=(Unit×((List α)×Unit))) N (fun ih2=>(fun p3=>(bif (ltI p3.2.1 x.2.1)then(qaE (S:=((List α)×(Int×(Int×Unit)))) (R:=(Unit×((List α)×Unit))) N (fun ih4=>(fun p5=>(bif (leI p5.2.2.1 x.2.1)then(bif (qp (qoN N ((p5.1,x.1.2),(p5.2.1,((qaj .i64 p5.2.1 p3.2.1),(p5.2.2.1,()))))))then(qT p5.2.2.1 (fun y6=>(ih4 ((qy (qoN N ((p5.1,x.1.2),(p5.2.1,((qaj .i64 p5.2.1 p3.2.1),(p5.2.2.1,()))))) ((),(([]:List α),()))).2.1,(y6,((qaj .i64 y6 (qoc .i64 2 p3.2.1)),()))))))else none)else(qT (qaj .i64 p5.2.1 p3.2.1) (fun y6=>(bif (bif (ltI y6 x.2.1)then(qp (qoN N ((p5.1,x.1.2),(p5.2.1,(y6,(x.2.1,()))))))else true)then(ih2 ((bif (ltI y6 x.2.1)then(qy (qoN N ((p5.1,x.1.2),(p5.2.1,(y6,(x.2.1,()))))) ((),(([]:List α),()))).2.1 else p5.1),((qoc .i64 p3.2.1 2),())))else none)))))) (p3.1,(0,((qoc .i64 2 p3.2.1),()))))else(some ((),(p3.1,())))))) ((qy (qkJ N ((p1.1,x.1.2),(p1.2.1,(x.2.1,())))) ((),(([]:List α),()))).2.1,(20,())))else none)))) (x.1.1,(0,(20,()))))
def qmd {α:Type}(P:α→Prop) (n:Nat) (d:α) (φ:List α→Int→Int→Option Bool) (ψ:(α×(α×Unit))→Option (Int×Unit)):Prop:=
 ∀ys,Ck P n ys→∀i j:Int,0≤i→i<(n:Int)→0≤j→j<(n:Int)→∃e,φ ys i j=some (decide (e<0))∧ψ (qJ ys i d,(qJ ys j d,()))=some (e,())
section
variable {α:Type}{P:α→Prop}{n:Nat}(d:α) {φ:List α→Int→Int→Option Bool}{ψ:(α×(α×Unit))→Option (Int×Unit)}{N:Nat}
theorem qnr {ys:List α}(h:Ck P n ys) {i j:Int}(i0:0≤i) (i1:i<(n:Int)) (j0:0≤j) (j1:j<(n:Int)):qua ys i j=qdz (qdz ys i (qJ ys j d)) j (qJ ys i d):=by
 obtain⟨a,rfl⟩:∃a:Nat,i=(a:Int):=⟨i.toNat,by omega⟩;obtain⟨b,rfl⟩:∃b:Nat,j=(b:Int):=⟨j.toNat,by omega⟩;have ha:a<ys.length:=by rw[h.len];omega
 have hb:b<ys.length:=by rw[h.len];omega
 rw[qqf,qb0 d ha,qb0 d hb,qbv,qbv];simp only[zat,zac ha,zac hb]
theorem qo3 (hφ:qmd P n d φ ψ) (hn:n≤1099511627776) (hN:n+1<N) {ys:List α}(h:Ck P n ys) {a b:Int}(ha:0≤a) (ha2:a≤(n:Int)) (hb:b≤(n:Int)):Res P n (qkJ N ((ys,φ),(a,(b,())))) (qjB d N (ys,(a,(b,(ψ,()))))):=by
 simp only[qkJ,qjB];have ea:qaj .i64 a 1=a+1:=qbK (by omega) (by omega);rw[ea];refine qch (S:=List α×(Int×Unit)) (fun p=>(b-p.2.1).toNat) (fun p=>Ck P n p.1∧a+1≤p.2.1∧p.2.1≤(n:Int)+1) (Res P n) ?_ N _ ⟨h,by simp only;omega,by simp only;omega⟩ (by simp only;omega);rintro ih1 ih2 ⟨ys,i,⟨⟩⟩ ⟨h,hi,hi2⟩ hih;simp only at h hi hi2 hih⊢
 by_cases hc:i<b
 ·simp only[ltT hc,cond_true];refine qch (S:=List α×(Int×Unit)) (fun p=>(p.2.1-a).toNat) (fun p=>Ck P n p.1∧a≤p.2.1∧p.2.1≤i) (Res P n) ?_ N _ ⟨h,by simp only;omega,by simp only;omega⟩ (by simp only;omega);rintro jh1 jh2 ⟨zs,j,⟨⟩⟩ ⟨hz,hj1,hj2⟩ hjh;simp only at hz hj1 hj2 hjh⊢
  have ei:qaj .i64 i 1=i+1:=qbK (by omega) (by omega);by_cases hja:a<j
  ·have s1:qaF .i64 j 1=j-1:=qby (by omega) (by omega);obtain⟨e,e1,e2⟩:=hφ zs hz j (j-1) (by omega) (by omega) (by omega) (by omega);have b1:=hz.inB (i:=j) (by omega) (by omega);have b2:=hz.inB (i:=j-1) (by omega) (by omega);have k1:=hz.set j (hz.get d (i:=j-1) (by omega) (by omega));have b3:=k1.inB (i:=j-1) (by omega) (by omega);have k2:=k1.set (j-1) (hz.get d (i:=j) (by omega) (by omega));have sw:=qnr d hz (i:=j) (j:=j-1) (by omega) (by omega) (by omega) (by omega);simp only[ltT hja,s1,b1,b2,e1,e2,qf,qg,Bool.not_true,Bool.false_or,zaw,cond_true,Bool.true_and,sw];by_cases hc0:e<0
   ·simp only[ltT hc0,decide_eq_true hc0,b3,cond_true];exact hjh _ ⟨k2,by simp only;omega,by simp only;omega⟩ (by simp only;omega)
   ·simp only[ltF hc0,decide_eq_false hc0,cond_false,ei];exact hih _ ⟨hz,by simp only;omega,by simp only;omega⟩ (by simp only;omega)
  ·simp only[ltF hja,Bool.not_false,Bool.true_or,zaw,cond_true,Bool.false_and,cond_false,ei];exact hih _ ⟨hz,by simp only;omega,by simp only;omega⟩ (by simp only;omega)
 ·simp only[ltF hc,cond_false];exact⟨ys,h,rfl,rfl⟩
theorem qkO (hn:n≤1099511627776) (hN:n+1<N) {ys:List α}(h:Ck P n ys) {a b m:Int}(ha:0≤a) (hb:0≤b) (hm:0≤m) (ha2:a+m≤(n:Int)) (hb2:b+m≤(n:Int)):Res P n (qio N ((ys,φ),(a,(b,(m,()))))) (qhD d N (ys,(a,(b,(m,(ψ,())))))):=by
 simp only[qio,qhD];refine qch (S:=List α×(Int×Unit)) (fun p=>(m-p.2.1).toNat) (fun p=>Ck P n p.1∧0≤p.2.1) (Res P n) ?_ N _ ⟨h,by simp only;omega⟩ (by simp only;omega);rintro ih1 ih2 ⟨ys,i,⟨⟩⟩ ⟨h,hi⟩ hih;simp only at h hi hih⊢
 by_cases hc:i<m
 ·have e1:qaj .i64 a i=a+i:=qbK (by omega) (by omega);have e2:qaj .i64 b i=b+i:=qbK (by omega) (by omega);have e3:qaj .i64 i 1=i+1:=qbK (by omega) (by omega);have b1:=h.inB (i:=a+i) (by omega) (by omega);have b2:=h.inB (i:=b+i) (by omega) (by omega);have k1:=h.set (a+i) (h.get d (i:=b+i) (by omega) (by omega));have b3:=k1.inB (i:=b+i) (by omega) (by omega);have k2:=k1.set (b+i) (h.get d (i:=a+i) (by omega) (by omega));have sw:=qnr d h (i:=a+i) (j:=b+i) (by omega) (by omega) (by omega) (by omega);simp only[ltT hc,e1,e2,e3,b1,b2,b3,zaw,cond_true,sw];exact hih _ ⟨k2,by simp only;omega⟩ (by simp only;omega)
 ·simp only[ltF hc,cond_false];exact⟨ys,h,rfl,rfl⟩
theorem qrZ (hn:n≤1099511627776) (hN:2*n+1<N) {ys:List α}(h:Ck P n ys) {a m b:Int}(ha:0≤a) (h1:a<m) (h2:m<b) (hb:b≤(n:Int)):Res P n (qfB N ((ys,φ),(a,(m,(b,()))))) (qeu d N (ys,(a,(m,(b,(ψ,())))))):=by
 have e1:qaF .i64 m a=m-a:=qby (by omega) (by omega);have e2:qaF .i64 b m=b-m:=qby (by omega) (by omega);simp only[qfB,qeu,qak,e1,e2];refine qch (S:=List α×(Int×(Int×Unit))) (fun p=>(p.2.1+p.2.2.1).toNat) (fun p=>Ck P n p.1∧1≤p.2.1∧p.2.1≤m-a∧1≤p.2.2.1∧p.2.2.1≤b-m) (Res P n) ?_ N _ ⟨h,by simp only;omega,by simp only;omega,by simp only;omega,by simp only;omega⟩ (by simp only;omega);rintro ih1 ih2 ⟨ys,i,j,⟨⟩⟩ ⟨h,hi,hi2,hj,hj2⟩ hih;simp only at h hi hi2 hj hj2 hih⊢
 have s1:qaF .i64 m i=m-i:=qby (by omega) (by omega);by_cases hc:i=j
 ·obtain⟨out,k1,k2,k3⟩:=qkO (φ:=φ) (ψ:=ψ) d hn (by omega:n+1<N) h (a:=m-i) (b:=m) (m:=i) (by omega) (by omega) (by omega) (by omega) (by omega);simp only[neF hc,cond_false,s1,k2,k3,qf,qg,cond_true];exact⟨out,k1,rfl,rfl⟩
 ·have s2:qaj .i64 m j=m+j:=qbK (by omega) (by omega);have s3:qaF .i64 (m+j) i=m+j-i:=qby (by omega) (by omega);have s4:qaF .i64 i j=i-j:=qby (by omega) (by omega);have s5:qaF .i64 j i=j-i:=qby (by omega) (by omega);by_cases hq:j<i
  ·obtain⟨out,k1,k2,k3⟩:=qkO (φ:=φ) (ψ:=ψ) d hn (by omega:n+1<N) h (a:=m-i) (b:=m) (m:=j) (by omega) (by omega) (by omega) (by omega) (by omega);simp only[neT hc,ltT hq,cond_true,s1,s4,k2,k3,qf,qg];exact hih _ ⟨k1,by simp only;omega,by simp only;omega,by simp only;omega,by simp only;omega⟩ (by simp only;omega)
  ·obtain⟨out,k1,k2,k3⟩:=qkO (φ:=φ) (ψ:=ψ) d hn (by omega:n+1<N) h (a:=m-i) (b:=m+j-i) (m:=i) (by omega) (by omega) (by omega) (by omega) (by omega);simp only[neT hc,ltF hq,cond_true,cond_false,s1,s2,s3,s5,k2,k3,qf,qg];exact hih _ ⟨k1,by simp only;omega,by simp only;omega,by simp only;omega,by simp only;omega⟩ (by simp only;omega)
theorem qmr (hφ:qmd P n d φ ψ) (hn:n≤1099511627776) (hN:2*n+1<N):∀(M:Nat) (ys:List α),Ck P n ys→∀(a m b:Int),0≤a→a<m→m<b→b≤(n:Int)→(b-a).toNat<M→Res P n (qgz N M ((ys,φ),(a,(m,(b,()))))) (qh3 d N M (ys,(a,(m,(b,(ψ,()))))))
 |0,_,_,_,_,_,_,_,_,_,h=>by omega
 |M+1,ys,h,a,m,b,ha,h1,h2,hb,hM=>by
  have ih:=qmr hφ hn hN M;have unf:qh3 d N (M+1) (ys,(a,(m,(b,(ψ,())))))=qkx d N (qh3 d N M) (ys,(a,(m,(b,(ψ,()))))):=rfl;have unf2:qgz N (M+1) ((ys,φ),(a,(m,(b,()))))=qnu N (qgz N M) ((ys,φ),(a,(m,(b,())))):=rfl;rw[unf,unf2];have e1:qaF .i64 m a=m-a:=qby (by omega) (by omega);have e2:qaF .i64 b m=b-m:=qby (by omega) (by omega);have l01:leI 0 1=true:=leT (by omega);simp only[qnu,qkx,qak,e1,e2,l01,cond_true];by_cases q1:m-a=1
  ·simp only[eqT q1,cond_true];refine qch (S:=List α×(Int×(Int×Unit))) (fun p=>(p.2.2.1-p.2.1).toNat) (fun p=>Ck P n p.1∧m≤p.2.1∧p.2.1≤b∧p.2.2.1≤b) (Res P n) ?_ N _ ⟨h,by simp only;omega,by simp only;omega,by simp only;omega⟩ (by simp only;omega);rintro ih1 ih2 ⟨ys,i,j,⟨⟩⟩ ⟨h,hi,hi2,hj⟩ hih;simp only at h hi hi2 hj hih⊢
   by_cases hc:i<j
   ·have em:=qif (x:=i) (y:=j) (by omega) (by omega) (by omega);have em1:qaj .i64 ((i+j)/2) 1=(i+j)/2+1:=qbK (by omega) (by omega);obtain⟨e,e3,e4⟩:=hφ ys h ((i+j)/2) a (by omega) (by omega) (by omega) (by omega);simp only[ltT hc,cond_true,em,em1,h.inB (i:=(i+j)/2) (by omega) (by omega),h.inB (i:=a) (by omega) (by omega),e3,e4,qf,qg,zaw];by_cases hc0:e<0
    ·simp only[ltT hc0,decide_eq_true hc0,cond_true];exact hih _ ⟨h,by simp only;omega,by simp only;omega,by simp only;omega⟩ (by simp only;omega)
    ·simp only[ltF hc0,decide_eq_false hc0,cond_false];exact hih _ ⟨h,by simp only;omega,by simp only;omega,by simp only;omega⟩ (by simp only;omega)
   ·simp only[ltF hc,cond_false];have ei:qaF .i64 i 1=i-1:=qby (by omega) (by omega);rw[ei];refine qch (S:=List α×(Int×Unit)) (fun p=>(i-p.2.1).toNat) (fun p=>Ck P n p.1∧a≤p.2.1) (Res P n) ?_ N _ ⟨h,by simp only;omega⟩ (by simp only;omega);rintro jh1 jh2 ⟨zs,k,⟨⟩⟩ ⟨hz,hk⟩ hjh;simp only at hz hk hjh⊢
    by_cases hk2:k<i-1
    ·have s1:qaj .i64 k 1=k+1:=qbK (by omega) (by omega);have k1:=hz.set k (hz.get d (i:=k+1) (by omega) (by omega));have k2:=k1.set (k+1) (hz.get d (i:=k) (by omega) (by omega));have sw:=qnr d hz (i:=k) (j:=k+1) (by omega) (by omega) (by omega) (by omega);simp only[ltT hk2,s1,hz.inB (i:=k) (by omega) (by omega),hz.inB (i:=k+1) (by omega) (by omega),k1.inB (i:=k+1) (by omega) (by omega),zaw,cond_true,sw];exact hjh _ ⟨k2,by simp only;omega⟩ (by simp only;omega)
    ·simp only[ltF hk2,cond_false];exact⟨zs,hz,rfl,rfl⟩
  simp only[eqF q1,cond_false];by_cases q2:b-m=1
  ·simp only[eqT q2,cond_true];refine qch (S:=List α×(Int×(Int×Unit))) (fun p=>(p.2.2.1-p.2.1).toNat) (fun p=>Ck P n p.1∧a≤p.2.1∧p.2.1≤m∧p.2.2.1≤m) (Res P n) ?_ N _ ⟨h,by simp only;omega,by simp only;omega,by simp only;omega⟩ (by simp only;omega);rintro ih1 ih2 ⟨ys,i,j,⟨⟩⟩ ⟨h,hi,hi2,hj⟩ hih;simp only at h hi hi2 hj hih⊢
   by_cases hc:i<j
   ·have em:=qif (x:=i) (y:=j) (by omega) (by omega) (by omega);have em1:qaj .i64 ((i+j)/2) 1=(i+j)/2+1:=qbK (by omega) (by omega);obtain⟨e,e3,e4⟩:=hφ ys h m ((i+j)/2) (by omega) (by omega) (by omega) (by omega);simp only[ltT hc,cond_true,em,em1,h.inB (i:=(i+j)/2) (by omega) (by omega),h.inB (i:=m) (by omega) (by omega),e3,e4,qf,qg,zaw];by_cases hc0:e<0
    ·simp only[ltT hc0,decide_eq_true hc0,Bool.not_true,cond_false];exact hih _ ⟨h,by simp only;omega,by simp only;omega,by simp only;omega⟩ (by simp only;omega)
    ·simp only[ltF hc0,decide_eq_false hc0,Bool.not_false,cond_true];exact hih _ ⟨h,by simp only;omega,by simp only;omega,by simp only;omega⟩ (by simp only;omega)
   ·simp only[ltF hc,cond_false];refine qch (S:=List α×(Int×Unit)) (fun p=>(p.2.1-i).toNat) (fun p=>Ck P n p.1∧p.2.1≤m) (Res P n) ?_ N _ ⟨h,by simp only;omega⟩ (by simp only;omega);rintro jh1 jh2 ⟨zs,k,⟨⟩⟩ ⟨hz,hk⟩ hjh;simp only at hz hk hjh⊢
    by_cases hk2:i<k
    ·have s1:qaF .i64 k 1=k-1:=qby (by omega) (by omega);have k1:=hz.set k (hz.get d (i:=k-1) (by omega) (by omega));have k2:=k1.set (k-1) (hz.get d (i:=k) (by omega) (by omega));have sw:=qnr d hz (i:=k) (j:=k-1) (by omega) (by omega) (by omega) (by omega);simp only[ltT hk2,s1,hz.inB (i:=k) (by omega) (by omega),hz.inB (i:=k-1) (by omega) (by omega),k1.inB (i:=k-1) (by omega) (by omega),zaw,cond_true,sw];exact hjh _ ⟨k2,by simp only;omega⟩ (by simp only;omega)
    ·simp only[ltF hk2,cond_false];exact⟨zs,hz,rfl,rfl⟩
  simp only[eqF q2,cond_false];have em:=qif (x:=a) (y:=b) (by omega) (by omega) (by omega);rw[em];generalize hmid:(a+b)/2=mid;have hm1:a<mid:=by omega
  have hm2:mid<b:=by omega
  have en:qaj .i64 mid m=mid+m:=qbK (by omega) (by omega);have en2:qaF .i64 (mid+m) b=mid+m-b:=qby (by omega) (by omega);have en3:qaF .i64 (mid+m) 1=mid+m-1:=qby (by omega) (by omega);simp only[en,en2,en3];obtain⟨st,r,hst,hr,g1,g2,g3,g4⟩:∃st r:Int,(bif ltI mid m then mid+m-b else a)=st∧(bif ltI mid m then mid else m)=r∧a≤st∧st≤r∧r≤mid∧r≤m∧mid+m-st≤b:=by
   by_cases hq:mid<m
   ·exact⟨_,_,rfl,rfl,by rw[ltT hq];simp only[cond_true];omega⟩
   ·exact⟨_,_,rfl,rfl,by rw[ltF hq];simp only[cond_false];omega⟩
  obtain⟨g4,g5⟩:=g4;simp only[hst,hr];refine qch (S:=List α×(Int×(Int×Unit))) (fun p=>(p.2.2.1-p.2.1).toNat) (fun p=>Ck P n p.1∧st≤p.2.1∧p.2.1≤r∧p.2.2.1≤r) (Res P n) ?_ N _ ⟨h,by simp only;omega,by simp only;omega,by simp only;omega⟩ (by simp only;omega);rintro ih1 ih2 ⟨ys,i,j,⟨⟩⟩ ⟨h,hi,hi2,hj⟩ hih;simp only at h hi hi2 hj hih⊢
  by_cases hc:i<j
  ·have em:=qif (x:=i) (y:=j) (by omega) (by omega) (by omega);have em1:qaj .i64 ((i+j)/2) 1=(i+j)/2+1:=qbK (by omega) (by omega);have em2:qaF .i64 (mid+m-1) ((i+j)/2)=mid+m-1-(i+j)/2:=qby (by omega) (by omega);obtain⟨e,e3,e4⟩:=hφ ys h (mid+m-1-(i+j)/2) ((i+j)/2) (by omega) (by omega) (by omega) (by omega);simp only[ltT hc,cond_true,em,em1,em2,h.inB (i:=mid+m-1-(i+j)/2) (by omega) (by omega),h.inB (i:=(i+j)/2) (by omega) (by omega),e3,e4,qf,qg,zaw];by_cases hc0:e<0
   ·simp only[ltT hc0,decide_eq_true hc0,Bool.not_true,cond_false];exact hih _ ⟨h,by simp only;omega,by simp only;omega,by simp only;omega⟩ (by simp only;omega)
   ·simp only[ltF hc0,decide_eq_false hc0,Bool.not_false,cond_true];exact hih _ ⟨h,by simp only;omega,by simp only;omega,by simp only;omega⟩ (by simp only;omega)
  ·have ee:qaF .i64 (mid+m) i=mid+m-i:=qby (by omega) (by omega);simp only[ltF hc,cond_false,ee];obtain⟨zs,z1,z2,z3,z4⟩:∃zs,Ck P n zs∧(bif (ltI i m&&ltI m (mid+m-i))then qp (qfB N ((ys,φ),(i,(m,(mid+m-i,())))))else true)=true∧(bif (ltI i m&&ltI m (mid+m-i))then qp (qeu d N (ys,(i,(m,(mid+m-i,(ψ,()))))))else true)=true∧(bif (ltI i m&&ltI m (mid+m-i))then(qy (qfB N ((ys,φ),(i,(m,(mid+m-i,()))))) ((),(([]:List α),()))).2.1 else ys)=zs∧(bif (ltI i m&&ltI m (mid+m-i))then(qy (qeu d N (ys,(i,(m,(mid+m-i,(ψ,())))))) ((),(([]:List α),()))).2.1 else ys)=zs:=by
    by_cases hq:i<m∧m<mid+m-i
    ·obtain⟨out,k1,k2,k3⟩:=qrZ (φ:=φ) (ψ:=ψ) d hn hN h (a:=i) (m:=m) (b:=mid+m-i) (by omega) hq.1 hq.2 (by omega);exact⟨out,k1,by simp only[ltT hq.1,ltT hq.2,zaw,cond_true,k2,k3,qf,qg,and_self]⟩
    ·have e:(ltI i m&&ltI m (mid+m-i))=false:=by
      by_cases hq1:i<m
      ·rw[ltF (fun hq2=>hq ⟨hq1,hq2⟩),Bool.and_false]
      ·rw[ltF hq1,Bool.false_and]
     exact⟨ys,h,by simp only[e,cond_false,and_self]⟩
   obtain⟨z4,z5⟩:=z4;simp only[z2,z3,z4,z5,cond_true];obtain⟨ws,w1,w2,w3,w4,w5⟩:∃ws,Ck P n ws∧(bif (ltI a i&&ltI i mid)then qp (qgz N M ((zs,φ),(a,(i,(mid,())))))else true)=true∧(bif (ltI a i&&ltI i mid)then qp (qh3 d N M (zs,(a,(i,(mid,(ψ,()))))))else true)=true∧(bif (ltI a i&&ltI i mid)then(qy (qgz N M ((zs,φ),(a,(i,(mid,()))))) ((),(([]:List α),()))).2.1 else zs)=ws∧(bif (ltI a i&&ltI i mid)then(qy (qh3 d N M (zs,(a,(i,(mid,(ψ,())))))) ((),(([]:List α),()))).2.1 else zs)=ws:=by
    by_cases hq:a<i∧i<mid
    ·obtain⟨out,k1,k2,k3⟩:=ih zs z1 a i mid ha hq.1 hq.2 (by omega) (by omega);exact⟨out,k1,by simp only[ltT hq.1,ltT hq.2,zaw,cond_true,k2,k3,qf,qg,and_self]⟩
    ·have e:(ltI a i&&ltI i mid)=false:=by
      by_cases hq1:a<i
      ·rw[ltF (fun hq2=>hq ⟨hq1,hq2⟩),Bool.and_false]
      ·rw[ltF hq1,Bool.false_and]
     exact⟨zs,z1,by simp only[e,cond_false,and_self]⟩
   simp only[w2,w3,w4,w5,cond_true];by_cases hq:mid<mid+m-i∧mid+m-i<b
   ·obtain⟨out,k1,k2,k3⟩:=ih ws w1 mid (mid+m-i) b (by omega) hq.1 hq.2 hb (by omega);simp only[ltT hq.1,ltT hq.2,zaw,cond_true,k2,k3,qf,qg];exact⟨out,k1,rfl,rfl⟩
   ·have e:(ltI mid (mid+m-i)&&ltI (mid+m-i) b)=false:=by
     by_cases hq1:mid<mid+m-i
     ·rw[ltF (fun hq2=>hq ⟨hq1,hq2⟩),Bool.and_false]
     ·rw[ltF hq1,Bool.false_and]
    simp only[e,cond_false,cond_true];exact⟨ws,w1,rfl,rfl⟩
theorem qo1 (hφ:qmd P n d φ ψ) (hn:n≤1099511627776) (hN:2*n+1<N) {ys:List α}(h:Ck P n ys) {a m b:Int}(ha:0≤a) (h1:a<m) (h2:m<b) (hb:b≤(n:Int)):Res P n (qoN N ((ys,φ),(a,(m,(b,()))))) (qlw d N (ys,(a,(m,(b,(ψ,())))))):=
 qmr d hφ hn hN N ys h a m b ha h1 h2 hb (by omega)
theorem qrQ (hφ:qmd P n d φ ψ) (hn:n≤1099511627776) (hN:2*n+100<N) {ys:List α}(h:Ck P n ys):Res P n (qnY N ((ys,φ),((n:Int),()))) (qqh d N (ys,((n:Int),(ψ,())))):=by
 simp only[qnY,qqh,qak];refine qch (S:=List α×(Int×(Int×Unit))) (fun p=>((n:Int)+20-p.2.2.1).toNat) (fun p=>Ck P n p.1∧0≤p.2.1∧p.2.1≤(n:Int)∧p.2.2.1=p.2.1+20) (Res P n) ?_ N _ ⟨h,by simp only;omega,by simp only;omega,by simp only;omega⟩ (by simp only;omega);rintro ih1 ih2 ⟨ys,a,b,⟨⟩⟩ ⟨h,ha,ha2,hb⟩ hih;simp only at h ha ha2 hb hih⊢
 by_cases hc:b≤(n:Int)
 ·obtain⟨out,k1,k2,k3⟩:=qo3 d hφ hn (by omega:n+1<N) h ha ha2 hc;have e1:qaj .i64 b 20=b+20:=qbK (by omega) (by omega);simp only[leT hc,cond_true,k2,k3,qf,qg,e1];exact hih _ ⟨k1,by simp only;omega,by simp only;omega,by simp only⟩ (by simp only;omega)
 ·obtain⟨out,k1,k2,k3⟩:=qo3 d hφ hn (by omega:n+1<N) h ha ha2 (zaF (n:Int));simp only[leF hc,cond_false,k2,k3,qf,qg,cond_true];refine qch (S:=List α×(Int×Unit)) (fun p=>((n:Int)-p.2.1).toNat) (fun p=>Ck P n p.1∧1≤p.2.1∧p.2.1≤2*(n:Int)+20) (Res P n) ?_ N _ ⟨k1,by simp only;omega,by simp only;omega⟩ (by simp only;omega);rintro jh1 jh2 ⟨ys,s,⟨⟩⟩ ⟨h,hs,hs2⟩ hjh;simp only at h hs hs2 hjh⊢
  by_cases hsn:s<(n:Int)
  ·have e1:qoc .i64 2 s=2*s:=by rw[qhe,qim (by omega) (by omega)]
   have e2:qoc .i64 s 2=2*s:=by rw[qhe,qim (by omega) (by omega)];omega
   simp only[ltT hsn,cond_true,e1,e2];refine qch (S:=List α×(Int×(Int×Unit))) (fun p=>((n:Int)+2*s-p.2.2.1).toNat) (fun p=>Ck P n p.1∧0≤p.2.1∧p.2.1≤(n:Int)∧p.2.2.1=p.2.1+2*s) (Res P n) ?_ N _ ⟨h,by simp only;omega,by simp only;omega,by simp only;omega⟩ (by simp only;omega);rintro kh1 kh2 ⟨ys,a,b,⟨⟩⟩ ⟨h,ha,ha2,hb⟩ hkh;simp only at h ha ha2 hb hkh⊢
   have e3:qaj .i64 a s=a+s:=qbK (by omega) (by omega);by_cases hc:b≤(n:Int)
   ·obtain⟨out,k1,k2,k3⟩:=qo1 d hφ hn (by omega:2*n+1<N) h (a:=a) (m:=a+s) (b:=b) ha (by omega) (by omega) hc;have e4:qaj .i64 b (2*s)=b+2*s:=qbK (by omega) (by omega);simp only[leT hc,cond_true,e3,k2,k3,qf,qg,e4];exact hkh _ ⟨k1,by simp only;omega,by simp only;omega,by simp only⟩ (by simp only;omega)
   ·simp only[leF hc,cond_false,e3];by_cases hq:a+s<(n:Int)
    ·obtain⟨out,k1,k2,k3⟩:=qo1 d hφ hn (by omega:2*n+1<N) h (a:=a) (m:=a+s) (b:=(n:Int)) ha (by omega) hq (zaF _);simp only[ltT hq,cond_true,k2,k3,qf,qg];exact hjh _ ⟨k1,by simp only;omega,by simp only;omega⟩ (by simp only;omega)
    ·simp only[ltF hq,cond_false,cond_true];exact hjh _ ⟨h,by simp only;omega,by simp only;omega⟩ (by simp only;omega)
  ·simp only[ltF hsn,cond_false];exact⟨ys,h,rfl,rfl⟩
theorem qrm {le:α→α→Prop}(hφ:qmd P n d φ ψ) (hψ:Cmp P ψ le) (hn:n≤1099511627776) (hN:2*n+100<N) {ys:List α}(h:Ck P n ys):qom P d n le 0 (n:Int) ys (qnY N ((ys,φ),((n:Int),()))):=by
 obtain⟨out,k1,k2,k3⟩:=qrQ d hφ hn hN h;obtain⟨out2,j1,j2⟩:=qq0 d hψ hn hN h;rw[k3]at j1;injection j1 with j1;simp only[Prod.mk.injEq,true_and,and_true]at j1;subst j1;exact⟨out,k2,j2⟩
end
end
end Go.Vi
namespace Go.Vi
def Fol {R R':Type}(K:R→R'→Prop) (o:Option R) (o':Option R'):Prop:=∀r,o=some r→∃r',o'=some r'∧K r r'
section
variable {R R':Type}{K:R→R'→Prop}
theorem Fol.none {o':Option R'}:Fol K none o':=fun r h=>by cases h
theorem Fol.mk {r:R}{r':R'}(h:K r r'):Fol K (some r) (some r'):=fun x hx=>by
 injection hx with hx;subst hx;exact⟨r',rfl,h⟩
theorem Fol.mono {K':R→R'→Prop}{o:Option R}{o':Option R'}(h:Fol K o o') (hk:∀r r',K r r'→K' r r'):Fol K' o o':=fun r hr=>by
 obtain⟨r',h1,h2⟩:=h r hr;exact⟨r',h1,hk _ _ h2⟩
theorem Fol.G {c:Bool}{a:Option R}{o':Option R'}(h:c=true→Fol K a o'):Fol K (bif c then a else .none) o':=by
 cases c
 ·exact Fol.none
 ·exact h rfl
theorem Fol.B {c c':Bool}{a b:Option R}{a' b':Option R'}(hc:c=c') (h1:c=true→Fol K a a') (h2:c=false→Fol K b b'):Fol K (bif c then a else b) (bif c' then a' else b'):=by
 subst hc;cases c
 ·exact h2 rfl
 ·exact h1 rfl
theorem Fol.G2 {c:Bool}{o:Option R}{a b:Option R'}(hc:c=true) (h:Fol K o a):Fol K o (bif c then a else b):=by rw[hc];exact h
theorem Fol.F2 {c:Bool}{o:Option R}{a b:Option R'}(hc:c=false) (h:Fol K o b):Fol K o (bif c then a else b):=by rw[hc];exact h
theorem Fol.J1 {α:Type}{v:α}{f:α→Option R}{o':Option R'}(h:Fol K (f v) o'):Fol K (qT v f) o':=by rw[qak];exact h
theorem Fol.J2 {α:Type}{v:α}{f:α→Option R'}{o:Option R}(h:Fol K o (f v)):Fol K o (qT v f):=by rw[qak];exact h
theorem Fol.R2 {α:Type}{n:Nat}{v:α}{f:α→Option R'}{o:Option R}(h:Fol K o (f v)):Fol K o (qbl n v f):=by rw[qdn];exact h
theorem Fol.it {S S':Type}{st:(S→Option R)→S→Option R}{st':(S'→Option R')→S'→Option R'}(I:S→S'→Prop)
  (h:∀ih ih',(∀s s',I s s'→Fol K (ih s) (ih' s'))→∀s s',I s s'→Fol K (st ih s) (st' ih' s')):∀(N:Nat) (s:S) (s':S'),I s s'→Fol K (qaE N st s) (qaE N st' s')
 |0,_,_,_=>Fol.none
 |N+1,s,s',hI=>h _ _ (fun s s' hs=>Fol.it I h N s s' hs) s s' hI
end
end Go.Vi
namespace Go.Vi
def dig (b:UInt8):Prop:=b=45∨(48≤b.toNat∧b.toNat≤57)
instance (b:UInt8):Decidable (dig b):=by unfold dig;infer_instance
def stops (P:UInt8→Prop) (r:List UInt8):Prop:=∀b t,r=b::t→¬P b
theorem part {P:UInt8→Prop}:(a b:List UInt8)→{r s:List UInt8}→(∀x∈a,P x)→(∀x∈b,P x)→stops P r→stops P s→a++r=b++s→a=b∧r=s
 |[],[],_,_,_,_,_,_,h=>⟨rfl,h⟩
 |[],y::b,r,s,_,hb,hr,_,h=>absurd (hb y zar) (hr y (b++s) h)
 |x::a,[],r,s,ha,_,_,hs,h=>absurd (ha x zar) (hs x (a++r) h.symm)
 |x::a,y::b,r,s,ha,hb,hr,hs,h=>by
  injection h with h1 h2;obtain⟨h3,h4⟩:=part a b (fun z hz=>ha z (zaj _ hz)) (fun z hz=>hb z (zaj _ hz)) hr hs h2;grind
abbrev DVal:Type:=Int×(Int×(List UInt8×Unit))
theorem qrK {α:Type} [DecidableEq α] {ne:α→α→Bool}(hne:∀a b,ne a b= !decide (a=b)) (xs ys:List α) (d:α) (hl:xs.length=ys.length) (hb:xs.length≤1099511627776) {N:Nat}(hN:xs.length<N):
  qaE (S:=Int×Unit) (R:=(Bool×Unit)×Unit) N (fun ih0=>fun p1=>(bif (ltI p1.1 (qn xs))then(bif ((inB p1.1 (qn xs))&&(inB p1.1 (qn ys)))then(bif (ne (qJ xs p1.1 d) (qJ ys p1.1 d))then(some ((false,()),()))else(ih0 ((qaj .i64 p1.1 1),())))else none)else(some ((true,()),())))) (0,())=some ((decide (xs=ys),()),()):=by
 refine qeI (S:=Int×Unit) (R:=(Bool×Unit)×Unit) (fun p=>xs.length-p.1.toNat) (fun p=>∃i:Nat,p.1=(i:Int)∧i≤xs.length∧xs.take i=ys.take i) (fun _=>((decide (xs=ys),()),())) ?_ N _ ⟨0,rfl,zaD _,by simp⟩ (by simp;omega);rintro ih ⟨_,_⟩ ⟨i,rfl,h2,h3⟩ hih;simp only[zat]at hih⊢
 by_cases hi:i<xs.length
 ·have hj:i<ys.length:=by omega
  rw[qa3 (qkT hi),qer hi,qer hj,qb0 d hi,qb0 d hj,hne];simp only[zaw,cond_true];by_cases e:xs[i]=ys[i]
  ·rw[qa7 (by simp[e]),qa2 (by omega),hih _ ⟨i+1,rfl,by omega,by grind [qkz]⟩ (by omega)]
  ·rw[qa3 (by simp[e])];have:xs≠ys:=fun h=>e (by subst h;rfl);simp[this]
 grind [qk9]
theorem qun (a b:List UInt8):Lib.compareBytes a b= -1∨Lib.compareBytes a b=0∨Lib.compareBytes a b=1:=by
 induction a generalizing b with
 |nil=>cases b<;>simp[Lib.compareBytes]
 |cons x a ih=>cases b with
  |nil=>simp[Lib.compareBytes]
  |cons y b=>
   grind [Lib.compareBytes]
theorem qvp (a b:List UInt8):Lib.compareBytes b a= - Lib.compareBytes a b:=by
 induction a generalizing b with
 |nil=>cases b<;>simp[Lib.compareBytes]
 |cons x a ih=>cases b with
  |nil=>simp[Lib.compareBytes]
  |cons y b=>
   grind [Lib.compareBytes]
theorem qvn (a b:List UInt8):Lib.compareBytes a b=0↔a=b:=by
 induction a generalizing b with
 |nil=>cases b<;>simp[Lib.compareBytes]
 |cons x a ih=>cases b with
  |nil=>simp[Lib.compareBytes]
  |cons y b=>
   grind [Lib.compareBytes]
theorem qtW (a b:List UInt8):qnS a b=decide (Lib.compareBytes a b<0):=by
 rw[qoZ];induction a generalizing b with
 |nil=>cases b<;>simp[Lib.compareBytes,Op.bytesLess]
 |cons x a ih=>cases b with
  |nil=>simp[Lib.compareBytes,Op.bytesLess]
  |cons y b=>
   grind [Lib.compareBytes,Op.bytesLess]
end Go.Vi
namespace Go.Vi
noncomputable section
def ic (x y:Int):Int:=if x<y then -1 else if y<x then 1 else 0
def vc (a b:DVal):Int:=if ic a.1 b.1≠0 then ic a.1 b.1 else if ic a.2.1 b.2.1≠0 then ic a.2.1 b.2.1 else Lib.compareBytes a.2.2.1 b.2.2.1
theorem qa0 (x y:Int):(x<y∧ic x y= -1)∨(x=y∧ic x y=0)∨(y<x∧ic x y=1):=by
 unfold ic;split
 ·simp[*]
 ·split
  ·simp[*]
  ·have:x=y:=by omega
   simp[this]
theorem quc (a b:DVal):vc a b= -1∨vc a b=0∨vc a b=1:=by
 unfold vc;have h1:=qa0 a.1 b.1;have h2:=qa0 a.2.1 b.2.1;have h3:=qun a.2.2.1 b.2.2.1;split
 ·omega
 ·split
  ·omega
  ·exact h3
theorem qrW (a b:DVal):vc b a= - vc a b:=by
 have s:∀x y,ic y x= - ic x y:=fun x y=>by
  have h1:=qa0 x y;have h2:=qa0 y x;omega
 unfold vc;rw[s a.1 b.1,s a.2.1 b.2.1,qvp];split<;>split<;>first|omega|(split<;>split<;>omega)
theorem qpL (a b:DVal):vc a b=0↔a=b:=by
 obtain⟨k,n,s,_⟩:=a;obtain⟨k',n',s',_⟩:=b;have h1:=qa0 k k';have h2:=qa0 n n';have h3:=qvn s s';simp only[vc,Prod.mk.injEq,and_true];split
 ·rename_i h;constructor
  ·intro h0;exact absurd h0 h
  ·rintro⟨rfl,_⟩;omega
 ·split
  ·rename_i h;constructor
   ·intro h0;exact absurd h0 h
   ·rintro⟨_,rfl,_⟩;omega
  ·rw[h3];constructor
   ·intro h;exact⟨by omega,by omega,h⟩
   ·exact fun h=>h.2.2
abbrev qaQ:Type:=List DVal
def qai:qaQ→qaQ→Int
 |[],ys=>ic 0 (ys.length:Int)
 |_::xs,[]=>ic ((xs.length:Int)+1) 0
 |x::xs,y::ys=>if vc x y≠0 then vc x y else qai xs ys
theorem quw (a b k:Int):ic (a+k) (b+k)=ic a b:=by
 unfold ic;by_cases h1:a<b
 ·rw[if_pos h1,if_pos (by omega)]
 ·rw[if_neg h1,if_neg (by omega)];by_cases h2:b<a
  ·rw[if_pos h2,if_pos (by omega)]
  ·rw[if_neg h2,if_neg (by omega)]
theorem qmm (xs ys:qaQ) (i:Nat) (h:¬(i<xs.length∧i<ys.length)) (hx:i≤xs.length) (hy:i≤ys.length):qai (xs.drop i) (ys.drop i)=ic (xs.length:Int) (ys.length:Int):=by
 by_cases h1:i<xs.length
 ·have h2:¬i<ys.length:=fun h2=>h ⟨h1,h2⟩;rw[zaB h1,zaI (l:=ys) (by omega),qai];have e1:((xs.drop (i+1)).length:Int)+1=(xs.length:Int)+(-(i:Int)):=by rw[zal];omega
  have e2:(0:Int)=(ys.length:Int)+(-(i:Int)):=by omega
  rw[e1,show ic ((xs.length:Int)+ -(i:Int)) 0=ic ((xs.length:Int)+ -(i:Int)) ((ys.length:Int)+ -(i:Int)) by rw[←e2],quw]
 ·rw[zaI (l:=xs) (by omega)];rw[qai.eq_def];simp only;have e1:((ys.drop i).length:Int)=(ys.length:Int)+(-(i:Int)):=by rw[zal];omega
  have e2:(0:Int)=(xs.length:Int)+(-(i:Int)):=by omega
  rw[e1,show ic 0 ((ys.length:Int)+ -(i:Int))=ic ((xs.length:Int)+ -(i:Int)) ((ys.length:Int)+ -(i:Int)) by rw[←e2],quw]
theorem qpU:(a b c:List UInt8)→Lib.compareBytes a b<0→Lib.compareBytes b c<0→Lib.compareBytes a c<0
 |[],[],_,h,_=>by simp[Lib.compareBytes]at h
 |[],_::_,[],_,h=>by simp[Lib.compareBytes]at h
 |[],_::_,_::_,_,_=>by simp[Lib.compareBytes]
 |_::_,[],_,h,_=>by simp[Lib.compareBytes]at h
 |_::_,_::_,[],_,h=>by simp[Lib.compareBytes]at h
 |x::a,y::b,z::c,h1,h2=>by
  simp only[Lib.compareBytes,UInt8.lt_iff_toNat_lt]at h1 h2⊢
  have ih:=qpU a b c;by_cases e1:x.toNat<y.toNat
  ·by_cases e2:y.toNat<z.toNat
   ·rw[if_pos (by omega)];omega
   ·by_cases e3:z.toNat<y.toNat
    ·rw[if_neg e2,if_pos e3]at h2;omega
    ·rw[if_pos (by omega)];omega
  ·by_cases e4:y.toNat<x.toNat
   ·rw[if_neg e1,if_pos e4]at h1;omega
   ·rw[if_neg e1,if_neg e4]at h1;by_cases e2:y.toNat<z.toNat
    ·rw[if_pos (by omega)];omega
    ·by_cases e3:z.toNat<y.toNat
     ·rw[if_neg e2,if_pos e3]at h2;omega
     ·rw[if_neg e2,if_neg e3]at h2;rw[if_neg (by omega),if_neg (by omega)];exact ih h1 h2
theorem qt7 {a b c:DVal}(h1:vc a b<0) (h2:vc b c<0):vc a c<0:=by
 unfold vc at *
 have a1:=qa0 a.1 b.1;have a2:=qa0 b.1 c.1;have a3:=qa0 a.1 c.1;have b1:=qa0 a.2.1 b.2.1;have b2:=qa0 b.2.1 c.2.1;have b3:=qa0 a.2.1 c.2.1;have tr:=qpU a.2.2.1 b.2.2.1 c.2.2.1;generalize Lib.compareBytes a.2.2.1 b.2.2.1=s1 at *
 generalize Lib.compareBytes b.2.2.1 c.2.2.1=s2 at *
 generalize Lib.compareBytes a.2.2.1 c.2.2.1=s3 at *
 generalize ic a.1 b.1=i1 at *
 generalize ic b.1 c.1=i2 at *
 generalize ic a.1 c.1=i3 at *
 generalize ic a.2.1 b.2.1=j1 at *
 generalize ic b.2.1 c.2.1=j2 at *
 generalize ic a.2.1 c.2.1=j3 at *
 have k1:i1= -1∨(i1=0∧(j1= -1∨(j1=0∧s1<0))):=by
  split at h1
  ·omega
  ·split at h1<;>omega
 have k2:i2= -1∨(i2=0∧(j2= -1∨(j2=0∧s2<0))):=by
  split at h2
  ·omega
  ·split at h2<;>omega
 have k3:i3= -1∨(i3=0∧(j3= -1∨(j3=0∧s3<0))):=by
  rcases k1 with k1|⟨k1,k1'|⟨k1',k1''⟩⟩<;>rcases k2 with k2|⟨k2,k2'|⟨k2',k2''⟩⟩<;>first|omega|exact .inr ⟨by omega,.inr ⟨by omega,tr k1'' k2''⟩⟩
 split
 ·omega
 ·split<;>omega
theorem qrJ (x y:Int):ic y x= - ic x y:=by
 have h1:=qa0 x y;have h2:=qa0 y x;omega
theorem qni:(a b:qaQ)→qai b a= - qai a b
 |[],[]=>by simp[qai,ic]
 |[],y::ys=>by simp only[qai,List.length_cons];rw[qrJ];simp
 |x::xs,[]=>by simp only[qai,List.length_cons];rw[qrJ];simp
 |x::xs,y::ys=>by
  simp only[qai,qrW x y,qni xs ys];by_cases h:vc x y=0
  ·simp[h]
  ·have:¬(-vc x y=0):=by omega
   simp[h,this]
theorem qha:(a b:qaQ)→(qai a b=0↔a=b)
 |[],[]=>by simp[qai,ic]
 |[],y::ys=>by
  have:=qa0 0 (((y::ys).length:Nat):Int);simp only[qai,List.length_cons]at this⊢
  constructor
  ·intro h;omega
  ·intro h;cases h
 |x::xs,[]=>by
  have:=qa0 ((xs.length:Int)+1) 0;simp only[qai];constructor
  ·intro h;omega
  ·intro h;cases h
 |x::xs,y::ys=>by
  simp only[qai,List.cons.injEq,←qpL x y,←qha xs ys];by_cases h:vc x y=0
  ·simp[h]
  ·simp[h]
theorem qih:(a b c:qaQ)→qai a b<0→qai b c<0→qai a c<0
 |[],[],_,h,_=>by simp[qai,ic]at h
 |[],y::ys,[],_,h=>by
  have:=qa0 ((ys.length:Int)+1) 0;simp only[qai]at h;omega
 |[],_::_,z::zs,_,_=>by
  have:=qa0 0 (((z::zs).length:Nat):Int);simp only[qai,List.length_cons]at this⊢
  omega
 |x::xs,[],_,h,_=>by
  have:=qa0 ((xs.length:Int)+1) 0;simp only[qai]at h;omega
 |_::_,y::ys,[],_,h=>by
  have:=qa0 ((ys.length:Int)+1) 0;simp only[qai]at h;omega
 |x::xs,y::ys,z::zs,h1,h2=>by
  simp only[qai]at h1 h2⊢
  have ih:=qih xs ys zs;by_cases e1:vc x y=0
  ·have e1':=(qpL x y).1 e1;subst e1';simp only[e1,ne_eq,not_true_eq_false,if_false]at h1;by_cases e2:vc x z=0
   ·simp only[e2,ne_eq,not_true_eq_false,if_false]at h2⊢
    exact ih h1 h2
   ·simp only[e2,ne_eq,not_false_eq_true,if_true]at h2⊢
    exact h2
  ·simp only[e1,ne_eq,not_false_eq_true,if_true]at h1;by_cases e2:vc y z=0
   ·have e2':=(qpL y z).1 e2;subst e2';simp only[e1,ne_eq,not_false_eq_true,if_true];exact h1
   ·simp only[e2,ne_eq,not_false_eq_true,if_true]at h2;have:=qt7 h1 h2;have e3:¬vc x z=0:=by omega
    simp only[e3,ne_eq,not_false_eq_true,if_true];exact this
end
end Go.Vi
namespace Go.Vi
abbrev Hnd:=Int×(Int×Int)
structure Acc {H E:Type}(q:H→List (Option (List E))) (u:H→List (Option (List E))→H) (rd:H→Int→Option (List E)) (c:H→H) (bf:Bool→H→H→H) (O:H→H→Prop):Prop where
 qu:∀p v,q (u p v)=v
 qc:∀p,q (c p)=q p
 rd:∀p i r,qN (q p) i=some r→rd p i=some r
 refl:∀p,O p p
 trans:∀a b d,O a b→O b d→O a d
 ou:∀p v,O p (u p v)
 oc:∀p,O p (c p)
 bt:∀a b,bf true a b=a
 bff:∀a b,bf false a b=b
section
variable {H E:Type}(q:H→List (Option (List E))) (u:H→List (Option (List E))→H) (rd:H→Int→Option (List E)) (c:H→H) (bf:Bool→H→H→H) (d:E)
variable {q u rd c bf d} {O:H→H→Prop}
theorem qu0 {q:List (Option (List E))}{h:Hnd}{xs:List E}(s:Sl q h xs) {i:Nat}(hi:i≤xs.length) (d:E):∃q',qrC q (h.1,(qX h.2.1 (i:Int),qX h.2.1 (xs.length:Int))) d=some q'∧Sl q' (h.1,(0,(i:Int))) (xs.take i)∧Kp (fun j=>j=h.1) q q':=by
 rw[qmR,s.lo,qbp,qbp];rcases s with⟨rfl,rfl⟩|⟨r,h0,h1,h2,h3⟩
 ·refine⟨q,if_pos rfl,?_,Kp.refl⟩;grind [Sl.nil]
 ·have hp:=(qP h0).1;have hl:xs.length≤r.length:=by
   grind
  unfold qra;rw[if_neg (by omega),←qa9,h0];refine⟨q.set h.1.toNat (some (r.take (i:Int).toNat++(zaT ((xs.length:Int).toNat-(i:Int).toNat) d++r.drop (xs.length:Int).toNat))),rfl,.inr ⟨_,by rw[←qec];exact qar h0,rfl,?_,?_⟩,by rw[←qec];exact Kp.set hp rfl⟩;all_goals grind
noncomputable def gDel (q:H→List (Option (List E))) (u:H→List (Option (List E))→H) (c:H→H) (ua:H→List (Option (List E))→Hnd→List E→H) (d:E) (b:Nat) (p:H) (x:Hnd×(Int×(Int×Unit))):Option (H×(Hnd×Unit)):=
 let c0:=(qcJ (q p) (x.1.1,((qX x.1.2.1 x.2.2.1),(qX x.1.2.1 (qaS x.1.2.2 x.1.2.1)))))
 let c1:=(qy c0 ([]:List E))
 let c2:=(qfF (q p) (x.1.1,((qX x.1.2.1 0),(qX x.1.2.1 x.2.1))) c1)
 let c3:=(qy c2 (q p,(x.1.1,((qX x.1.2.1 0),(qX x.1.2.1 x.2.1)))))
 (bif ((inS x.2.1 x.2.2.1 (qaS x.1.2.2 x.1.2.1))&&(leI (qaS x.1.2.2 x.1.2.1) (qaS x.1.2.2 x.1.2.1)))then(bif (eqI x.2.1 x.2.2.1)then(some (p,(x.1,())))else(qT (qaS x.1.2.2 x.1.2.1) (fun y0=>(bif ((inS 0 x.2.1 (qaS x.1.2.2 x.1.2.1))&&((inS x.2.2.1 (qaS x.1.2.2 x.1.2.1) (qaS x.1.2.2 x.1.2.1))&&((qp c0)&&((qp c2)&&((leI (qX x.1.2.1 0) 0)&&(qc1 (qX x.1.2.1 x.2.1) (qn c1) b))))))then(qT c3.2 (fun y1=>(qbl 690 (ua p c3.1 (x.1.1,((qX x.1.2.1 0),(qX x.1.2.1 x.2.1))) c1) (fun h2=>let c4:=(qrC (q h2) (y1.1,((qX y1.2.1 (qaS y1.2.2 y1.2.1)),(qX y1.2.1 y0))) d)
  (bif ((inS (qaS y1.2.2 y1.2.1) y0 (qaS (qn (qy (qN (q h2) y1.1) ([]:List E))) y1.2.1))&&((qp (qN (q h2) y1.1))&&((leI y1.2.1 0)&&(qp c4))))then(qbl 790 (c (u h2 (qy c4 (q h2)))) (fun h3=>(some (h3,(y1,())))))else none)))))else none))))else none)
theorem qkV (k:Nat):qaS (k:Int) 0=(k:Int):=by rw[qdF];omega
theorem qtD {q:List (Option (List E))}{h:Hnd}{xs:List E}(s:Sl q h xs) {k:Nat}(hk:k<xs.length):
  ∃q' r,qfF q (h.1,(0,(k:Int))) (xs.drop (k+1))=some (q',(h.1,(0,((xs.length-1:Nat):Int))))∧qN q' h.1=some r∧r.take (xs.length-1)=xs.eraseIdx k∧xs.length≤r.length∧Kp (fun j=>j=h.1) q q':=by
 obtain⟨r,h0,h1,h2⟩:=s.row hk;have hp:=qP h0;have ha:∀i,i≤xs.length→r.take i=xs.take i:=fun i hi=>by grind
 rw[qj2];unfold qqK;by_cases hl:(xs.drop (k+1)).length=0
 ·rw[if_pos hl];rw[zal]at hl;have:k=xs.length-1:=by omega
  subst this;refine⟨q,r,rfl,h0,?_,h2,Kp.refl⟩;grind
 ·rw[if_neg hl,if_neg (by omega),←qa9,h0];rw[zal]at hl;simp only[zal];rw[if_pos (by omega)];refine⟨qdD q h.1 (r.take (k:Int).toNat++xs.drop (k+1)++r.drop ((k:Int).toNat+(xs.length-(k+1)))),_,?_,qar h0,?_,?_,Kp.set hp.1 rfl⟩
  ·grind [qec]
  ·grind
  ·simp;omega
end
end Go.Vi
