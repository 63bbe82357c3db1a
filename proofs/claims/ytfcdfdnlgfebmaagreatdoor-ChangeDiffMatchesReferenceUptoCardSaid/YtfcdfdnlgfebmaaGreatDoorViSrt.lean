/- Stable sorting: where the comparisons answer it comes to an end, and it hangs on their signs alone. -/
import Derived.Test.YtfcdfdnlgfebmaaGreatDoorViLib
set_option linter.unusedVariables false
set_option linter.unusedSimpArgs false
set_option linter.unnecessarySimpa false
set_option linter.unusedSectionVars false
set_option linter.unusedSimpArgs false
set_option maxRecDepth 100000
namespace Go.Vi
noncomputable section
def qfA {α:Type} (d:α) (N:Nat) (x:((List α)×(Int×(Int×(((α×(α×Unit))→(Option (Int×Unit)))×Unit))))):(Option (Unit×((List α)×Unit))):=
 (qZ (S:=((List α)×(Int×Unit))) (R:=(Unit×((List α)×Unit))) N (fun ih0=>(fun p1=>(bif (ltI p1.2.1 x.2.2.1) then (qZ (S:=((List α)×(Int×Unit))) (R:=(Unit×((List α)×Unit))) N (fun ih2=>(fun p3=>(bif (((!(ltI x.2.1 p3.2.1))||(inB p3.2.1 (qn p3.1)))&&(((!(ltI x.2.1 p3.2.1))||(inB (qO .i64 p3.2.1 1) (qn p3.1)))&&((!(ltI x.2.1 p3.2.1))||(qw (x.2.2.2.1 ((qh p3.1 p3.2.1 d),((qh p3.1 (qO .i64 p3.2.1 1) d),()))))))) then (bif ((ltI x.2.1 p3.2.1)&&(ltI (qp (x.2.2.2.1 ((qh p3.1 p3.2.1 d),((qh p3.1 (qO .i64 p3.2.1 1) d),()))) (0,())).1 0)) then (bif ((inB (qO .i64 p3.2.1 1) (qn p3.1))&&((inB p3.2.1 (qn p3.1))&&((inB p3.2.1 (qn p3.1))&&(inB (qO .i64 p3.2.1 1) (qn (qbN p3.1 p3.2.1 (qh p3.1 (qO .i64 p3.2.1 1) d))))))) then (ih2 ((qbN (qbN p3.1 p3.2.1 (qh p3.1 (qO .i64 p3.2.1 1) d)) (qO .i64 p3.2.1 1) (qh p3.1 p3.2.1 d)),((qO .i64 p3.2.1 1),()))) else none) else (ih0 (p3.1,((qQ .i64 p1.2.1 1),())))) else none))) (p1.1,(p1.2.1,()))) else (some ((),(p1.1,())))))) (x.1,((qQ .i64 x.2.1 1),())))
def qjy {α:Type} (d:α) (N:Nat) (x:((List α)×(Int×(Int×(Int×(((α×(α×Unit))→(Option (Int×Unit)))×Unit)))))):(Option (Unit×((List α)×Unit))):=
 (qZ (S:=((List α)×(Int×Unit))) (R:=(Unit×((List α)×Unit))) N (fun ih0=>(fun p1=>(bif (ltI p1.2.1 x.2.2.2.1) then (bif ((inB (qQ .i64 x.2.2.1 p1.2.1) (qn p1.1))&&((inB (qQ .i64 x.2.1 p1.2.1) (qn p1.1))&&((inB (qQ .i64 x.2.1 p1.2.1) (qn p1.1))&&(inB (qQ .i64 x.2.2.1 p1.2.1) (qn (qbN p1.1 (qQ .i64 x.2.1 p1.2.1) (qh p1.1 (qQ .i64 x.2.2.1 p1.2.1) d))))))) then (ih0 ((qbN (qbN p1.1 (qQ .i64 x.2.1 p1.2.1) (qh p1.1 (qQ .i64 x.2.2.1 p1.2.1) d)) (qQ .i64 x.2.2.1 p1.2.1) (qh p1.1 (qQ .i64 x.2.1 p1.2.1) d)),((qQ .i64 p1.2.1 1),()))) else none) else (some ((),(p1.1,())))))) (x.1,(0,())))
def qe8 {α:Type} (d:α) (N:Nat) (x:((List α)×(Int×(Int×(Int×(((α×(α×Unit))→(Option (Int×Unit)))×Unit)))))):(Option (Unit×((List α)×Unit))):=
 (qW (qO .i64 x.2.2.1 x.2.1) (fun y0=>(qZ (S:=((List α)×(Int×(Int×Unit)))) (R:=(Unit×((List α)×Unit))) N (fun ih1=>(fun p2=>(bif (neI p2.2.1 p2.2.2.1) then (bif (bif (ltI p2.2.2.1 p2.2.1) then (qw (qjy d N (p2.1,((qO .i64 x.2.2.1 p2.2.1),(x.2.2.1,(p2.2.2.1,(x.2.2.2.2.1,()))))))) else (qw (qjy d N (p2.1,((qO .i64 x.2.2.1 p2.2.1),((qO .i64 (qQ .i64 x.2.2.1 p2.2.2.1) p2.2.1),(p2.2.1,(x.2.2.2.2.1,())))))))) then (ih1 ((bif (ltI p2.2.2.1 p2.2.1) then (qp (qjy d N (p2.1,((qO .i64 x.2.2.1 p2.2.1),(x.2.2.1,(p2.2.2.1,(x.2.2.2.2.1,())))))) ((),(([]:List α),()))).2.1 else (qp (qjy d N (p2.1,((qO .i64 x.2.2.1 p2.2.1),((qO .i64 (qQ .i64 x.2.2.1 p2.2.2.1) p2.2.1),(p2.2.1,(x.2.2.2.2.1,())))))) ((),(([]:List α),()))).2.1),((bif (ltI p2.2.2.1 p2.2.1) then (qO .i64 p2.2.1 p2.2.2.1) else p2.2.1),((bif (ltI p2.2.2.1 p2.2.1) then p2.2.2.1 else (qO .i64 p2.2.2.1 p2.2.1)),())))) else none) else (bif (qw (qjy d N (p2.1,((qO .i64 x.2.2.1 p2.2.1),(x.2.2.1,(p2.2.1,(x.2.2.2.2.1,()))))))) then (some ((),((qp (qjy d N (p2.1,((qO .i64 x.2.2.1 p2.2.1),(x.2.2.1,(p2.2.1,(x.2.2.2.2.1,())))))) ((),(([]:List α),()))).2.1,()))) else none)))) (x.1,(y0,((qO .i64 x.2.2.2.1 x.2.2.1),()))))))
def qpL {α:Type} (d:α) (N:Nat) (Fs:((List α)×(Int×(Int×(Int×(((α×(α×Unit))→(Option (Int×Unit)))×Unit)))))→(Option (Unit×((List α)×Unit)))) (x:((List α)×(Int×(Int×(Int×(((α×(α×Unit))→(Option (Int×Unit)))×Unit)))))):(Option (Unit×((List α)×Unit))):=
 (bif (eqI (qO .i64 x.2.2.1 x.2.1) 1) then (qZ (S:=((List α)×(Int×(Int×Unit)))) (R:=(Unit×((List α)×Unit))) N (fun ih0=>(fun p1=>(bif (ltI p1.2.1 p1.2.2.1) then (bif (leI 0 1) then (qW (qcr .i64 (qi4 .u64 (qcr .u64 (qQ .i64 p1.2.1 p1.2.2.1)) 1)) (fun y2=>(bif ((inB y2 (qn p1.1))&&((inB x.2.1 (qn p1.1))&&(qw (x.2.2.2.2.1 ((qh p1.1 y2 d),((qh p1.1 x.2.1 d),())))))) then (ih0 (p1.1,((bif (ltI (qp (x.2.2.2.2.1 ((qh p1.1 y2 d),((qh p1.1 x.2.1 d),()))) (0,())).1 0) then (qQ .i64 y2 1) else p1.2.1),((bif (ltI (qp (x.2.2.2.2.1 ((qh p1.1 y2 d),((qh p1.1 x.2.1 d),()))) (0,())).1 0) then p1.2.2.1 else y2),())))) else none))) else none) else (qZ (S:=((List α)×(Int×Unit))) (R:=(Unit×((List α)×Unit))) N (fun ih2=>(fun p3=>(bif (ltI p3.2.1 (qO .i64 p1.2.1 1)) then (bif ((inB (qQ .i64 p3.2.1 1) (qn p3.1))&&((inB p3.2.1 (qn p3.1))&&((inB p3.2.1 (qn p3.1))&&(inB (qQ .i64 p3.2.1 1) (qn (qbN p3.1 p3.2.1 (qh p3.1 (qQ .i64 p3.2.1 1) d))))))) then (ih2 ((qbN (qbN p3.1 p3.2.1 (qh p3.1 (qQ .i64 p3.2.1 1) d)) (qQ .i64 p3.2.1 1) (qh p3.1 p3.2.1 d)),((qQ .i64 p3.2.1 1),()))) else none) else (some ((),(p3.1,())))))) (p1.1,(x.2.1,())))))) (x.1,(x.2.2.1,(x.2.2.2.1,())))) else (bif (eqI (qO .i64 x.2.2.2.1 x.2.2.1) 1) then (qZ (S:=((List α)×(Int×(Int×Unit)))) (R:=(Unit×((List α)×Unit))) N (fun ih0=>(fun p1=>(bif (ltI p1.2.1 p1.2.2.1) then (bif (leI 0 1) then (qW (qcr .i64 (qi4 .u64 (qcr .u64 (qQ .i64 p1.2.1 p1.2.2.1)) 1)) (fun y2=>(bif ((inB x.2.2.1 (qn p1.1))&&((inB y2 (qn p1.1))&&(qw (x.2.2.2.2.1 ((qh p1.1 x.2.2.1 d),((qh p1.1 y2 d),())))))) then (ih0 (p1.1,((bif (!(ltI (qp (x.2.2.2.2.1 ((qh p1.1 x.2.2.1 d),((qh p1.1 y2 d),()))) (0,())).1 0)) then (qQ .i64 y2 1) else p1.2.1),((bif (!(ltI (qp (x.2.2.2.2.1 ((qh p1.1 x.2.2.1 d),((qh p1.1 y2 d),()))) (0,())).1 0)) then p1.2.2.1 else y2),())))) else none))) else none) else (qZ (S:=((List α)×(Int×Unit))) (R:=(Unit×((List α)×Unit))) N (fun ih2=>(fun p3=>(bif (ltI p1.2.1 p3.2.1) then (bif ((inB (qO .i64 p3.2.1 1) (qn p3.1))&&((inB p3.2.1 (qn p3.1))&&((inB p3.2.1 (qn p3.1))&&(inB (qO .i64 p3.2.1 1) (qn (qbN p3.1 p3.2.1 (qh p3.1 (qO .i64 p3.2.1 1) d))))))) then (ih2 ((qbN (qbN p3.1 p3.2.1 (qh p3.1 (qO .i64 p3.2.1 1) d)) (qO .i64 p3.2.1 1) (qh p3.1 p3.2.1 d)),((qO .i64 p3.2.1 1),()))) else none) else (some ((),(p3.1,())))))) (p1.1,(x.2.2.1,())))))) (x.1,(x.2.1,(x.2.2.1,())))) else (bif (leI 0 1) then (qW (qcr .i64 (qi4 .u64 (qcr .u64 (qQ .i64 x.2.1 x.2.2.2.1)) 1)) (fun y0=>(qW (qQ .i64 y0 x.2.2.1) (fun y1=>(qW (bif (ltI y0 x.2.2.1) then (qO .i64 y1 x.2.2.2.1) else x.2.1) (fun y2=>(qW (bif (ltI y0 x.2.2.1) then y0 else x.2.2.1) (fun y3=>(qZ (S:=((List α)×(Int×(Int×Unit)))) (R:=(Unit×((List α)×Unit))) N (fun ih4=>(fun p5=>(bif (ltI p5.2.1 p5.2.2.1) then (bif (leI 0 1) then (qW (qcr .i64 (qi4 .u64 (qcr .u64 (qQ .i64 p5.2.1 p5.2.2.1)) 1)) (fun y6=>(bif ((inB (qO .i64 (qO .i64 y1 1) y6) (qn p5.1))&&((inB y6 (qn p5.1))&&(qw (x.2.2.2.2.1 ((qh p5.1 (qO .i64 (qO .i64 y1 1) y6) d),((qh p5.1 y6 d),())))))) then (ih4 (p5.1,((bif (!(ltI (qp (x.2.2.2.2.1 ((qh p5.1 (qO .i64 (qO .i64 y1 1) y6) d),((qh p5.1 y6 d),()))) (0,())).1 0)) then (qQ .i64 y6 1) else p5.2.1),((bif (!(ltI (qp (x.2.2.2.2.1 ((qh p5.1 (qO .i64 (qO .i64 y1 1) y6) d),((qh p5.1 y6 d),()))) (0,())).1 0)) then p5.2.2.1 else y6),())))) else none))) else none) else (qW (qO .i64 y1 p5.2.1) (fun y6=>(qW ((ltI p5.2.1 x.2.2.1)&&(ltI x.2.2.1 y6)) (fun y7=>(bif (bif y7 then (qw (qe8 d N (p5.1,(p5.2.1,(x.2.2.1,(y6,(x.2.2.2.2.1,()))))))) else true) then (qW ((ltI x.2.1 p5.2.1)&&(ltI p5.2.1 y0)) (fun y8=>(bif (bif y8 then (qw (Fs ((bif y7 then (qp (qe8 d N (p5.1,(p5.2.1,(x.2.2.1,(y6,(x.2.2.2.2.1,())))))) ((),(([]:List α),()))).2.1 else p5.1),(x.2.1,(p5.2.1,(y0,(x.2.2.2.2.1,()))))))) else true) then (qW ((ltI y0 y6)&&(ltI y6 x.2.2.2.1)) (fun y9=>(bif (bif y9 then (qw (Fs ((bif y8 then (qp (Fs ((bif y7 then (qp (qe8 d N (p5.1,(p5.2.1,(x.2.2.1,(y6,(x.2.2.2.2.1,())))))) ((),(([]:List α),()))).2.1 else p5.1),(x.2.1,(p5.2.1,(y0,(x.2.2.2.2.1,())))))) ((),(([]:List α),()))).2.1 else (bif y7 then (qp (qe8 d N (p5.1,(p5.2.1,(x.2.2.1,(y6,(x.2.2.2.2.1,())))))) ((),(([]:List α),()))).2.1 else p5.1)),(y0,(y6,(x.2.2.2.1,(x.2.2.2.2.1,()))))))) else true) then (some ((),((bif y9 then (qp (Fs ((bif y8 then (qp (Fs ((bif y7 then (qp (qe8 d N (p5.1,(p5.2.1,(x.2.2.1,(y6,(x.2.2.2.2.1,())))))) ((),(([]:List α),()))).2.1 else p5.1),(x.2.1,(p5.2.1,(y0,(x.2.2.2.2.1,())))))) ((),(([]:List α),()))).2.1 else (bif y7 then (qp (qe8 d N (p5.1,(p5.2.1,(x.2.2.1,(y6,(x.2.2.2.2.1,())))))) ((),(([]:List α),()))).2.1 else p5.1)),(y0,(y6,(x.2.2.2.1,(x.2.2.2.2.1,())))))) ((),(([]:List α),()))).2.1 else (bif y8 then (qp (Fs ((bif y7 then (qp (qe8 d N (p5.1,(p5.2.1,(x.2.2.1,(y6,(x.2.2.2.2.1,())))))) ((),(([]:List α),()))).2.1 else p5.1),(x.2.1,(p5.2.1,(y0,(x.2.2.2.2.1,())))))) ((),(([]:List α),()))).2.1 else (bif y7 then (qp (qe8 d N (p5.1,(p5.2.1,(x.2.2.1,(y6,(x.2.2.2.2.1,())))))) ((),(([]:List α),()))).2.1 else p5.1))),()))) else none))) else none))) else none)))))))) (x.1,(y2,(y3,())))))))))))) else none)))
def qg0 {α:Type} (d:α) (N:Nat) (M:Nat):((List α)×(Int×(Int×(Int×(((α×(α×Unit))→(Option (Int×Unit)))×Unit)))))→(Option (Unit×((List α)×Unit))):=
 Nat.rec (motive:=fun _=>((List α)×(Int×(Int×(Int×(((α×(α×Unit))→(Option (Int×Unit)))×Unit)))))→(Option (Unit×((List α)×Unit)))) (fun _=>none) (fun _ Fs=>qpL d N Fs) M
def qm9 {α:Type} (d:α) (N:Nat):((List α)×(Int×(Int×(Int×(((α×(α×Unit))→(Option (Int×Unit)))×Unit)))))→(Option (Unit×((List α)×Unit))):=qg0 d N N
def qox {α:Type} (d:α) (N:Nat) (x:((List α)×(Int×(((α×(α×Unit))→(Option (Int×Unit)))×Unit)))):(Option (Unit×((List α)×Unit))):=
 (qZ (S:=((List α)×(Int×(Int×Unit)))) (R:=(Unit×((List α)×Unit))) N (fun ih0=>(fun p1=>(bif (leI p1.2.2.1 x.2.1) then (bif (qw (qfA d N (p1.1,(p1.2.1,(p1.2.2.1,(x.2.2.1,())))))) then (qW (qp (qfA d N (p1.1,(p1.2.1,(p1.2.2.1,(x.2.2.1,()))))) ((),(([]:List α),()))).2.1 (fun ys2=>(qW p1.2.2.1 (fun y3=>(ih0 (ys2,(y3,((qQ .i64 y3 20),())))))))) else none) else (bif (qw (qfA d N (p1.1,(p1.2.1,(x.2.1,(x.2.2.1,())))))) then (qZ (S:=((List α)×(Int×Unit))) (R:=(Unit×((List α)×Unit))) N (fun ih2=>(fun p3=>(bif (ltI p3.2.1 x.2.1) then (qZ (S:=((List α)×(Int×(Int×Unit)))) (R:=(Unit×((List α)×Unit))) N (fun ih4=>(fun p5=>(bif (leI p5.2.2.1 x.2.1) then (bif (qw (qm9 d N (p5.1,(p5.2.1,((qQ .i64 p5.2.1 p3.2.1),(p5.2.2.1,(x.2.2.1,()))))))) then (qW (qp (qm9 d N (p5.1,(p5.2.1,((qQ .i64 p5.2.1 p3.2.1),(p5.2.2.1,(x.2.2.1,())))))) ((),(([]:List α),()))).2.1 (fun ys6=>(qW p5.2.2.1 (fun y7=>(ih4 (ys6,(y7,((qQ .i64 y7 (qmn .i64 2 p3.2.1)),())))))))) else none) else (qW (qQ .i64 p5.2.1 p3.2.1) (fun y6=>(bif (bif (ltI y6 x.2.1) then (qw (qm9 d N (p5.1,(p5.2.1,(y6,(x.2.1,(x.2.2.1,()))))))) else true) then (ih2 ((bif (ltI y6 x.2.1) then (qp (qm9 d N (p5.1,(p5.2.1,(y6,(x.2.1,(x.2.2.1,())))))) ((),(([]:List α),()))).2.1 else p5.1),((qmn .i64 p3.2.1 2),()))) else none)))))) (p3.1,(0,((qmn .i64 2 p3.2.1),())))) else (some ((),(p3.1,())))))) ((qp (qfA d N (p1.1,(p1.2.1,(x.2.1,(x.2.2.1,()))))) ((),(([]:List α),()))).2.1,(20,()))) else none)))) (x.1,(0,(20,()))))
def qqr {α:Type} (d:α) (N:Nat) (x:((List α)×(((α×(α×Unit))→(Option (Int×Unit)))×Unit))):(Option (Unit×((List α)×Unit))):=
 (bif (qw (qox d N (x.1,((qn x.1),(x.2.1,()))))) then (some ((),((qp (qox d N (x.1,((qn x.1),(x.2.1,())))) ((),(([]:List α),()))).2.1,()))) else none)
theorem qcl {S R:Type} {st1 st2:(S→Option R)→S→Option R} (μ:S→Nat) (I:S→Prop) (Q:Option R→Option R→Prop)
  (hs:∀ih1 ih2 p,I p→(∀q,I q→μ q<μ p→Q (ih1 q) (ih2 q))→Q (st1 ih1 p) (st2 ih2 p)):∀(N:Nat) (p:S),I p→μ p<N→Q (qZ N st1 p) (qZ N st2 p)
 |0,p,_,h=>by omega
 |N+1,p,hI,h=>by
  rw [qam,qam]
  exact hs _ _ p hI fun q hq hm=>qcl μ I Q hs N q hq (by omega)
structure Ck {α:Type} (P:α→Prop) (n:Nat) (ys:List α):Prop where
 len:ys.length=n
 all:∀x∈ys,P x
def qsA {α:Type} (P:α→Prop) (φ ψ:(α×(α×Unit))→Option (Int×Unit)):Prop:=∀a b,P a→P b→∃c e,φ (a,(b,()))=some (c,())∧ψ (a,(b,()))=some (e,())∧(c<0↔e<0)
def Res {α:Type} (P:α→Prop) (n:Nat) (r s:Option (Unit×(List α×Unit))):Prop:=∃out,Ck P n out∧r=some ((),(out,()))∧s=some ((),(out,()))
theorem Ck.inB {α:Type} {P:α→Prop} {n:Nat} {ys:List α} (h:Ck P n ys) {i:Int} (h0:0≤i) (h1:i<(n:Int)):inB i (qn ys)=true:=by
 rw [qca,qi,h.len]; simp; omega
theorem Ck.get {α:Type} {P:α→Prop} {n:Nat} {ys:List α} (h:Ck P n ys) (d:α) {i:Int} (h0:0≤i) (h1:i<(n:Int)):P (qh ys i d):=by
 obtain ⟨k,rfl⟩:∃k:Nat,i=(k:Int):=⟨i.toNat,by omega⟩
 have hk:k<ys.length:=by rw [h.len]; omega
 rw [qP _ hk]
 exact h.all _ (List.getElem_mem hk)
theorem Ck.set {α:Type} {P:α→Prop} {n:Nat} {ys:List α} (h:Ck P n ys) (i:Int) {v:α} (hv:P v):Ck P n (qbN ys i v):=by
 rw [qcd]
 refine ⟨by rw [List.length_set]; exact h.len,fun x hx=> ?_⟩
 rcases List.mem_or_eq_of_mem_set hx with hx|rfl
 ·exact h.all x hx
 ·exact hv
theorem ltT {x y:Int} (h:x<y):ltI x y=true:=by rw [qaN]; exact decide_eq_true h
theorem ltF {x y:Int} (h:¬x<y):ltI x y=false:=by rw [qaN]; exact decide_eq_false h
theorem leT {x y:Int} (h:x≤y):leI x y=true:=by rw [qba]; exact decide_eq_true h
theorem leF {x y:Int} (h:¬x≤y):leI x y=false:=by rw [qba]; exact decide_eq_false h
theorem eqT {x y:Int} (h:x=y):eqI x y=true:=by rw [qbT]; exact decide_eq_true h
theorem eqF {x y:Int} (h:¬x=y):eqI x y=false:=by rw [qbT]; exact decide_eq_false h
theorem neT {x y:Int} (h:¬x=y):neI x y=true:=by rw [qaS]; simp [h]
theorem neF {x y:Int} (h:x=y):neI x y=false:=by rw [qaS]; simp [h]
theorem qqA {x y:Int} (hx:0≤x) (hy:0≤y) (h:x+y≤4398046511104):qcr .i64 (qi4 .u64 (qcr .u64 (qQ .i64 x y)) 1)=(x+y) / 2:=by
 have e1:qQ .i64 x y=x+y:=qaz (by omega) (by omega)
 have e2:qcr .u64 (x+y)=x+y:=by rw [qeu,qqx]; omega
 have e3:qi4 .u64 (x+y) 1=(x+y) / 2:=by
  rw [qjR]
  have:(2:Int)^ (min (1:Int).toNat IntKind.u64.bits)=2:=by decide
  rw [this,Int.fdiv_eq_ediv_of_nonneg _ (by omega)]
 rw [e1,e2,e3,qpW (by omega) (by omega)]
section
variable {α:Type} {P:α→Prop} {n:Nat} (d:α) {φ ψ:(α×(α×Unit))→Option (Int×Unit)} {N:Nat}
theorem qoX (hφ:qsA P φ ψ) (hn:n≤1099511627776) (hN:n+1<N) {ys:List α} (h:Ck P n ys) {a b:Int} (ha:0≤a) (ha2:a≤(n:Int)) (hb:b≤(n:Int)):Res P n (qfA d N (ys,(a,(b,(φ,()))))) (qfA d N (ys,(a,(b,(ψ,()))))):=by
 simp only [qfA]
 have ea:qQ .i64 a 1=a+1:=qaz (by omega) (by omega)
 rw [ea]
 refine qcl (S:=List α×(Int×Unit)) (fun p=>(b - p.2.1).toNat) (fun p=>Ck P n p.1∧a+1≤p.2.1∧p.2.1≤(n:Int)+1) (Res P n) ?_ N _ ⟨h,by simp only; omega,by simp only; omega⟩ (by simp only; omega)
 rintro ih1 ih2 ⟨ys,i,⟨⟩⟩ ⟨h,hi,hi2⟩ hih
 simp only at h hi hi2 hih⊢
 by_cases hc:i<b
 ·simp only [ltT hc,cond_true]
  refine qcl (S:=List α×(Int×Unit)) (fun p=>(p.2.1 - a).toNat) (fun p=>Ck P n p.1∧a≤p.2.1∧p.2.1≤i) (Res P n) ?_ N _ ⟨h,by simp only; omega,by simp only; omega⟩ (by simp only; omega)
  rintro jh1 jh2 ⟨zs,j,⟨⟩⟩ ⟨hz,hj1,hj2⟩ hjh
  simp only at hz hj1 hj2 hjh⊢
  have ei:qQ .i64 i 1=i+1:=qaz (by omega) (by omega)
  by_cases hja:a<j
  ·have s1:qO .i64 j 1=j - 1:=qax (by omega) (by omega)
   obtain ⟨c,e,e1,e2,e3⟩:=hφ _ _ (hz.get d (i:=j) (by omega) (by omega)) (hz.get d (i:=j - 1) (by omega) (by omega))
   have b1:=hz.inB (i:=j) (by omega) (by omega)
   have b2:=hz.inB (i:=j - 1) (by omega) (by omega)
   have k1:=hz.set j (hz.get d (i:=j - 1) (by omega) (by omega))
   have b3:=k1.inB (i:=j - 1) (by omega) (by omega)
   have k2:=k1.set (j - 1) (hz.get d (i:=j) (by omega) (by omega))
   simp only [ltT hja,s1,b1,b2,e1,e2,qg,qj,Bool.not_true,Bool.false_or,Bool.and_self,cond_true,Bool.true_and]
   by_cases hc0:c<0
   ·simp only [ltT hc0,ltT (e3.1 hc0),b3,cond_true]
    exact hjh _ ⟨k2,by simp only; omega,by simp only; omega⟩ (by simp only; omega)
   ·simp only [ltF hc0,ltF (fun q=>hc0 (e3.2 q)),cond_false,ei]
    exact hih _ ⟨hz,by simp only; omega,by simp only; omega⟩ (by simp only; omega)
  ·simp only [ltF hja,Bool.not_false,Bool.true_or,Bool.and_self,cond_true,Bool.false_and,cond_false,ei]
   exact hih _ ⟨hz,by simp only; omega,by simp only; omega⟩ (by simp only; omega)
 ·simp only [ltF hc,cond_false]
  exact ⟨ys,h,rfl,rfl⟩
theorem qld (hn:n≤1099511627776) (hN:n+1<N) {ys:List α} (h:Ck P n ys) {a b m:Int} (ha:0≤a) (hb:0≤b) (hm:0≤m) (ha2:a+m≤(n:Int)) (hb2:b+m≤(n:Int)):Res P n (qjy d N (ys,(a,(b,(m,(φ,())))))) (qjy d N (ys,(a,(b,(m,(ψ,())))))):=by
 simp only [qjy]
 refine qcl (S:=List α×(Int×Unit)) (fun p=>(m - p.2.1).toNat) (fun p=>Ck P n p.1∧0≤p.2.1) (Res P n) ?_ N _ ⟨h,by simp only; omega⟩ (by simp only; omega)
 rintro ih1 ih2 ⟨ys,i,⟨⟩⟩ ⟨h,hi⟩ hih
 simp only at h hi hih⊢
 by_cases hc:i<m
 ·have e1:qQ .i64 a i=a+i:=qaz (by omega) (by omega)
  have e2:qQ .i64 b i=b+i:=qaz (by omega) (by omega)
  have e3:qQ .i64 i 1=i+1:=qaz (by omega) (by omega)
  have b1:=h.inB (i:=a+i) (by omega) (by omega)
  have b2:=h.inB (i:=b+i) (by omega) (by omega)
  have k1:=h.set (a+i) (h.get d (i:=b+i) (by omega) (by omega))
  have b3:=k1.inB (i:=b+i) (by omega) (by omega)
  have k2:=k1.set (b+i) (h.get d (i:=a+i) (by omega) (by omega))
  simp only [ltT hc,e1,e2,e3,b1,b2,b3,Bool.and_self,cond_true]
  exact hih _ ⟨k2,by simp only; omega⟩ (by simp only; omega)
 ·simp only [ltF hc,cond_false]
  exact ⟨ys,h,rfl,rfl⟩
theorem qs0 (hn:n≤1099511627776) (hN:2 * n+1<N) {ys:List α} (h:Ck P n ys) {a m b:Int} (ha:0≤a) (h1:a<m) (h2:m<b) (hb:b≤(n:Int)):Res P n (qe8 d N (ys,(a,(m,(b,(φ,())))))) (qe8 d N (ys,(a,(m,(b,(ψ,())))))):=by
 have e1:qO .i64 m a=m - a:=qax (by omega) (by omega)
 have e2:qO .i64 b m=b - m:=qax (by omega) (by omega)
 simp only [qe8,qI,e1,e2]
 refine qcl (S:=List α×(Int×(Int×Unit))) (fun p=>(p.2.1+p.2.2.1).toNat) (fun p=>Ck P n p.1∧1≤p.2.1∧p.2.1≤m - a∧1≤p.2.2.1∧p.2.2.1≤b - m) (Res P n) ?_ N _ ⟨h,by simp only; omega,by simp only; omega,by simp only; omega,by simp only; omega⟩ (by simp only; omega)
 rintro ih1 ih2 ⟨ys,i,j,⟨⟩⟩ ⟨h,hi,hi2,hj,hj2⟩ hih
 simp only at h hi hi2 hj hj2 hih⊢
 have s1:qO .i64 m i=m - i:=qax (by omega) (by omega)
 by_cases hc:i=j
 ·obtain ⟨out,k1,k2,k3⟩:=qld (φ:=φ) (ψ:=ψ) d hn (by omega:n+1<N) h (a:=m - i) (b:=m) (m:=i) (by omega) (by omega) (by omega) (by omega) (by omega)
  simp only [neF hc,cond_false,s1,k2,k3,qg,qj,cond_true]
  exact ⟨out,k1,rfl,rfl⟩
 ·have s2:qQ .i64 m j=m+j:=qaz (by omega) (by omega)
  have s3:qO .i64 (m+j) i=m+j - i:=qax (by omega) (by omega)
  have s4:qO .i64 i j=i - j:=qax (by omega) (by omega)
  have s5:qO .i64 j i=j - i:=qax (by omega) (by omega)
  by_cases hq:j<i
  ·obtain ⟨out,k1,k2,k3⟩:=qld (φ:=φ) (ψ:=ψ) d hn (by omega:n+1<N) h (a:=m - i) (b:=m) (m:=j) (by omega) (by omega) (by omega) (by omega) (by omega)
   simp only [neT hc,ltT hq,cond_true,s1,s4,k2,k3,qg,qj]
   exact hih _ ⟨k1,by simp only; omega,by simp only; omega,by simp only; omega,by simp only; omega⟩ (by simp only; omega)
  ·obtain ⟨out,k1,k2,k3⟩:=qld (φ:=φ) (ψ:=ψ) d hn (by omega:n+1<N) h (a:=m - i) (b:=m+j - i) (m:=i) (by omega) (by omega) (by omega) (by omega) (by omega)
   simp only [neT hc,ltF hq,cond_true,cond_false,s1,s2,s3,s5,k2,k3,qg,qj]
   exact hih _ ⟨k1,by simp only; omega,by simp only; omega,by simp only; omega,by simp only; omega⟩ (by simp only; omega)
theorem qmG (hφ:qsA P φ ψ) (hn:n≤1099511627776) (hN:2 * n+1<N):∀(M:Nat) (ys:List α),Ck P n ys→∀(a m b:Int),0≤a→a<m→m<b→b≤(n:Int)→(b - a).toNat<M→Res P n (qg0 d N M (ys,(a,(m,(b,(φ,())))))) (qg0 d N M (ys,(a,(m,(b,(ψ,()))))))
 |0,_,_,_,_,_,_,_,_,_,h=>by omega
 |M+1,ys,h,a,m,b,ha,h1,h2,hb,hM=>by
  have ih:=qmG hφ hn hN M
  have unf:∀χ,qg0 d N (M+1) (ys,(a,(m,(b,(χ,())))))=qpL d N (qg0 d N M) (ys,(a,(m,(b,(χ,()))))):=fun _=>rfl
  rw [unf,unf]
  have e1:qO .i64 m a=m - a:=qax (by omega) (by omega)
  have e2:qO .i64 b m=b - m:=qax (by omega) (by omega)
  have l01:leI 0 1=true:=leT (by omega)
  simp only [qpL,qI,e1,e2,l01,cond_true]
  by_cases q1:m - a=1
  ·simp only [eqT q1,cond_true]
   refine qcl (S:=List α×(Int×(Int×Unit))) (fun p=>(p.2.2.1 - p.2.1).toNat) (fun p=>Ck P n p.1∧m≤p.2.1∧p.2.1≤b∧p.2.2.1≤b) (Res P n) ?_ N _ ⟨h,by simp only; omega,by simp only; omega,by simp only; omega⟩ (by simp only; omega)
   rintro ih1 ih2 ⟨ys,i,j,⟨⟩⟩ ⟨h,hi,hi2,hj⟩ hih
   simp only at h hi hi2 hj hih⊢
   by_cases hc:i<j
   ·have em:=qqA (x:=i) (y:=j) (by omega) (by omega) (by omega)
    have em1:qQ .i64 ((i+j) / 2) 1=(i+j) / 2+1:=qaz (by omega) (by omega)
    obtain ⟨c,e,e3,e4,e5⟩:=hφ _ _ (h.get d (i:=(i+j) / 2) (by omega) (by omega)) (h.get d (i:=a) (by omega) (by omega))
    simp only [ltT hc,cond_true,em,em1,h.inB (i:=(i+j) / 2) (by omega) (by omega),h.inB (i:=a) (by omega) (by omega),e3,e4,qg,qj,Bool.and_self]
    by_cases hc0:c<0
    ·simp only [ltT hc0,ltT (e5.1 hc0),cond_true]
     exact hih _ ⟨h,by simp only; omega,by simp only; omega,by simp only; omega⟩ (by simp only; omega)
    ·simp only [ltF hc0,ltF (fun q=>hc0 (e5.2 q)),cond_false]
     exact hih _ ⟨h,by simp only; omega,by simp only; omega,by simp only; omega⟩ (by simp only; omega)
   ·simp only [ltF hc,cond_false]
    have ei:qO .i64 i 1=i - 1:=qax (by omega) (by omega)
    rw [ei]
    refine qcl (S:=List α×(Int×Unit)) (fun p=>(i - p.2.1).toNat) (fun p=>Ck P n p.1∧a≤p.2.1) (Res P n) ?_ N _ ⟨h,by simp only; omega⟩ (by simp only; omega)
    rintro jh1 jh2 ⟨zs,k,⟨⟩⟩ ⟨hz,hk⟩ hjh
    simp only at hz hk hjh⊢
    by_cases hk2:k<i - 1
    ·have s1:qQ .i64 k 1=k+1:=qaz (by omega) (by omega)
     have k1:=hz.set k (hz.get d (i:=k+1) (by omega) (by omega))
     have k2:=k1.set (k+1) (hz.get d (i:=k) (by omega) (by omega))
     simp only [ltT hk2,s1,hz.inB (i:=k) (by omega) (by omega),hz.inB (i:=k+1) (by omega) (by omega),k1.inB (i:=k+1) (by omega) (by omega),Bool.and_self,cond_true]
     exact hjh _ ⟨k2,by simp only; omega⟩ (by simp only; omega)
    ·simp only [ltF hk2,cond_false]
     exact ⟨zs,hz,rfl,rfl⟩
  simp only [eqF q1,cond_false]
  by_cases q2:b - m=1
  ·simp only [eqT q2,cond_true]
   refine qcl (S:=List α×(Int×(Int×Unit))) (fun p=>(p.2.2.1 - p.2.1).toNat) (fun p=>Ck P n p.1∧a≤p.2.1∧p.2.1≤m∧p.2.2.1≤m) (Res P n) ?_ N _ ⟨h,by simp only; omega,by simp only; omega,by simp only; omega⟩ (by simp only; omega)
   rintro ih1 ih2 ⟨ys,i,j,⟨⟩⟩ ⟨h,hi,hi2,hj⟩ hih
   simp only at h hi hi2 hj hih⊢
   by_cases hc:i<j
   ·have em:=qqA (x:=i) (y:=j) (by omega) (by omega) (by omega)
    have em1:qQ .i64 ((i+j) / 2) 1=(i+j) / 2+1:=qaz (by omega) (by omega)
    obtain ⟨c,e,e3,e4,e5⟩:=hφ _ _ (h.get d (i:=m) (by omega) (by omega)) (h.get d (i:=(i+j) / 2) (by omega) (by omega))
    simp only [ltT hc,cond_true,em,em1,h.inB (i:=(i+j) / 2) (by omega) (by omega),h.inB (i:=m) (by omega) (by omega),e3,e4,qg,qj,Bool.and_self]
    by_cases hc0:c<0
    ·simp only [ltT hc0,ltT (e5.1 hc0),Bool.not_true,cond_false]
     exact hih _ ⟨h,by simp only; omega,by simp only; omega,by simp only; omega⟩ (by simp only; omega)
    ·simp only [ltF hc0,ltF (fun q=>hc0 (e5.2 q)),Bool.not_false,cond_true]
     exact hih _ ⟨h,by simp only; omega,by simp only; omega,by simp only; omega⟩ (by simp only; omega)
   ·simp only [ltF hc,cond_false]
    refine qcl (S:=List α×(Int×Unit)) (fun p=>(p.2.1 - i).toNat) (fun p=>Ck P n p.1∧p.2.1≤m) (Res P n) ?_ N _ ⟨h,by simp only; omega⟩ (by simp only; omega)
    rintro jh1 jh2 ⟨zs,k,⟨⟩⟩ ⟨hz,hk⟩ hjh
    simp only at hz hk hjh⊢
    by_cases hk2:i<k
    ·have s1:qO .i64 k 1=k - 1:=qax (by omega) (by omega)
     have k1:=hz.set k (hz.get d (i:=k - 1) (by omega) (by omega))
     have k2:=k1.set (k - 1) (hz.get d (i:=k) (by omega) (by omega))
     simp only [ltT hk2,s1,hz.inB (i:=k) (by omega) (by omega),hz.inB (i:=k - 1) (by omega) (by omega),k1.inB (i:=k - 1) (by omega) (by omega),Bool.and_self,cond_true]
     exact hjh _ ⟨k2,by simp only; omega⟩ (by simp only; omega)
    ·simp only [ltF hk2,cond_false]
     exact ⟨zs,hz,rfl,rfl⟩
  simp only [eqF q2,cond_false]
  have em:=qqA (x:=a) (y:=b) (by omega) (by omega) (by omega)
  rw [em]
  generalize hmid:(a+b) / 2=mid
  have hm1:a<mid:=by omega
  have hm2:mid<b:=by omega
  have en:qQ .i64 mid m=mid+m:=qaz (by omega) (by omega)
  have en2:qO .i64 (mid+m) b=mid+m - b:=qax (by omega) (by omega)
  have en3:qO .i64 (mid+m) 1=mid+m - 1:=qax (by omega) (by omega)
  simp only [en,en2,en3]
  obtain ⟨st,r,hst,hr,g1,g2,g3,g4⟩:∃st r:Int,(bif ltI mid m then mid+m - b else a)=st∧(bif ltI mid m then mid else m)=r∧a≤st∧st≤r∧r≤mid∧r≤m∧mid+m - st≤b:=by
   by_cases hq:mid<m
   ·exact ⟨_,_,rfl,rfl,by rw [ltT hq]; simp only [cond_true]; omega⟩
   ·exact ⟨_,_,rfl,rfl,by rw [ltF hq]; simp only [cond_false]; omega⟩
  obtain ⟨g4,g5⟩:=g4
  simp only [hst,hr]
  refine qcl (S:=List α×(Int×(Int×Unit))) (fun p=>(p.2.2.1 - p.2.1).toNat) (fun p=>Ck P n p.1∧st≤p.2.1∧p.2.1≤r∧p.2.2.1≤r) (Res P n) ?_ N _ ⟨h,by simp only; omega,by simp only; omega,by simp only; omega⟩ (by simp only; omega)
  rintro ih1 ih2 ⟨ys,i,j,⟨⟩⟩ ⟨h,hi,hi2,hj⟩ hih
  simp only at h hi hi2 hj hih⊢
  by_cases hc:i<j
  ·have em:=qqA (x:=i) (y:=j) (by omega) (by omega) (by omega)
   have em1:qQ .i64 ((i+j) / 2) 1=(i+j) / 2+1:=qaz (by omega) (by omega)
   have em2:qO .i64 (mid+m - 1) ((i+j) / 2)=mid+m - 1 - (i+j) / 2:=qax (by omega) (by omega)
   obtain ⟨c,e,e3,e4,e5⟩:=hφ _ _ (h.get d (i:=mid+m - 1 - (i+j) / 2) (by omega) (by omega)) (h.get d (i:=(i+j) / 2) (by omega) (by omega))
   simp only [ltT hc,cond_true,em,em1,em2,h.inB (i:=mid+m - 1 - (i+j) / 2) (by omega) (by omega),h.inB (i:=(i+j) / 2) (by omega) (by omega),e3,e4,qg,qj,Bool.and_self]
   by_cases hc0:c<0
   ·simp only [ltT hc0,ltT (e5.1 hc0),Bool.not_true,cond_false]
    exact hih _ ⟨h,by simp only; omega,by simp only; omega,by simp only; omega⟩ (by simp only; omega)
   ·simp only [ltF hc0,ltF (fun q=>hc0 (e5.2 q)),Bool.not_false,cond_true]
    exact hih _ ⟨h,by simp only; omega,by simp only; omega,by simp only; omega⟩ (by simp only; omega)
  ·have ee:qO .i64 (mid+m) i=mid+m - i:=qax (by omega) (by omega)
   simp only [ltF hc,cond_false,ee]
   obtain ⟨zs,z1,z2,z3,z4⟩:∃zs,Ck P n zs∧(bif (ltI i m&&ltI m (mid+m - i)) then qw (qe8 d N (ys,(i,(m,(mid+m - i,(φ,())))))) else true)=true∧(bif (ltI i m&&ltI m (mid+m - i)) then qw (qe8 d N (ys,(i,(m,(mid+m - i,(ψ,())))))) else true)=true∧(bif (ltI i m&&ltI m (mid+m - i)) then (qp (qe8 d N (ys,(i,(m,(mid+m - i,(φ,())))))) ((),(([]:List α),()))).2.1 else ys)=zs∧(bif (ltI i m&&ltI m (mid+m - i)) then (qp (qe8 d N (ys,(i,(m,(mid+m - i,(ψ,())))))) ((),(([]:List α),()))).2.1 else ys)=zs:=by
    by_cases hq:i<m∧m<mid+m - i
    ·obtain ⟨out,k1,k2,k3⟩:=qs0 (φ:=φ) (ψ:=ψ) d hn hN h (a:=i) (m:=m) (b:=mid+m - i) (by omega) hq.1 hq.2 (by omega)
     exact ⟨out,k1,by simp only [ltT hq.1,ltT hq.2,Bool.and_self,cond_true,k2,k3,qg,qj,and_self]⟩
    ·have e:(ltI i m&&ltI m (mid+m - i))=false:=by
      by_cases hq1:i<m
      ·rw [ltF (fun hq2=>hq ⟨hq1,hq2⟩),Bool.and_false]
      ·rw [ltF hq1,Bool.false_and]
     exact ⟨ys,h,by simp only [e,cond_false,and_self]⟩
   obtain ⟨z4,z5⟩:=z4
   simp only [z2,z3,z4,z5,cond_true]
   obtain ⟨ws,w1,w2,w3,w4,w5⟩:∃ws,Ck P n ws∧(bif (ltI a i&&ltI i mid) then qw (qg0 d N M (zs,(a,(i,(mid,(φ,())))))) else true)=true∧(bif (ltI a i&&ltI i mid) then qw (qg0 d N M (zs,(a,(i,(mid,(ψ,())))))) else true)=true∧(bif (ltI a i&&ltI i mid) then (qp (qg0 d N M (zs,(a,(i,(mid,(φ,())))))) ((),(([]:List α),()))).2.1 else zs)=ws∧(bif (ltI a i&&ltI i mid) then (qp (qg0 d N M (zs,(a,(i,(mid,(ψ,())))))) ((),(([]:List α),()))).2.1 else zs)=ws:=by
    by_cases hq:a<i∧i<mid
    ·obtain ⟨out,k1,k2,k3⟩:=ih zs z1 a i mid ha hq.1 hq.2 (by omega) (by omega)
     exact ⟨out,k1,by simp only [ltT hq.1,ltT hq.2,Bool.and_self,cond_true,k2,k3,qg,qj,and_self]⟩
    ·have e:(ltI a i&&ltI i mid)=false:=by
      by_cases hq1:a<i
      ·rw [ltF (fun hq2=>hq ⟨hq1,hq2⟩),Bool.and_false]
      ·rw [ltF hq1,Bool.false_and]
     exact ⟨zs,z1,by simp only [e,cond_false,and_self]⟩
   simp only [w2,w3,w4,w5,cond_true]
   by_cases hq:mid<mid+m - i∧mid+m - i<b
   ·obtain ⟨out,k1,k2,k3⟩:=ih ws w1 mid (mid+m - i) b (by omega) hq.1 hq.2 hb (by omega)
    simp only [ltT hq.1,ltT hq.2,Bool.and_self,cond_true,k2,k3,qg,qj]
    exact ⟨out,k1,rfl,rfl⟩
   ·have e:(ltI mid (mid+m - i)&&ltI (mid+m - i) b)=false:=by
     by_cases hq1:mid<mid+m - i
     ·rw [ltF (fun hq2=>hq ⟨hq1,hq2⟩),Bool.and_false]
     ·rw [ltF hq1,Bool.false_and]
    simp only [e,cond_false,cond_true]
    exact ⟨ws,w1,rfl,rfl⟩
theorem qop (hφ:qsA P φ ψ) (hn:n≤1099511627776) (hN:2 * n+1<N) {ys:List α} (h:Ck P n ys) {a m b:Int} (ha:0≤a) (h1:a<m) (h2:m<b) (hb:b≤(n:Int)):Res P n (qm9 d N (ys,(a,(m,(b,(φ,())))))) (qm9 d N (ys,(a,(m,(b,(ψ,())))))):=
 qmG d hφ hn hN N ys h a m b ha h1 h2 hb (by omega)
theorem qrR (hφ:qsA P φ ψ) (hn:n≤1099511627776) (hN:2 * n+100<N) {ys:List α} (h:Ck P n ys):Res P n (qox d N (ys,((n:Int),(φ,())))) (qox d N (ys,((n:Int),(ψ,())))):=by
 simp only [qox,qI]
 refine qcl (S:=List α×(Int×(Int×Unit))) (fun p=>((n:Int)+20 - p.2.2.1).toNat) (fun p=>Ck P n p.1∧0≤p.2.1∧p.2.1≤(n:Int)∧p.2.2.1=p.2.1+20) (Res P n) ?_ N _ ⟨h,by simp only; omega,by simp only; omega,by simp only; omega⟩ (by simp only; omega)
 rintro ih1 ih2 ⟨ys,a,b,⟨⟩⟩ ⟨h,ha,ha2,hb⟩ hih
 simp only at h ha ha2 hb hih⊢
 by_cases hc:b≤(n:Int)
 ·obtain ⟨out,k1,k2,k3⟩:=qoX d hφ hn (by omega:n+1<N) h ha ha2 hc
  have e1:qQ .i64 b 20=b+20:=qaz (by omega) (by omega)
  simp only [leT hc,cond_true,k2,k3,qg,qj,e1]
  exact hih _ ⟨k1,by simp only; omega,by simp only; omega,by simp only⟩ (by simp only; omega)
 ·obtain ⟨out,k1,k2,k3⟩:=qoX d hφ hn (by omega:n+1<N) h ha ha2 (Int.le_refl (n:Int))
  simp only [leF hc,cond_false,k2,k3,qg,qj,cond_true]
  refine qcl (S:=List α×(Int×Unit)) (fun p=>((n:Int) - p.2.1).toNat) (fun p=>Ck P n p.1∧1≤p.2.1∧p.2.1≤2 * (n:Int)+20) (Res P n) ?_ N _ ⟨k1,by simp only; omega,by simp only; omega⟩ (by simp only; omega)
  rintro jh1 jh2 ⟨ys,s,⟨⟩⟩ ⟨h,hs,hs2⟩ hjh
  simp only at h hs hs2 hjh⊢
  by_cases hsn:s<(n:Int)
  ·have e1:qmn .i64 2 s=2 * s:=by rw [qed,qdk (by omega) (by omega)]
   have e2:qmn .i64 s 2=2 * s:=by rw [qed,qdk (by omega) (by omega)]; omega
   simp only [ltT hsn,cond_true,e1,e2]
   refine qcl (S:=List α×(Int×(Int×Unit))) (fun p=>((n:Int)+2 * s - p.2.2.1).toNat) (fun p=>Ck P n p.1∧0≤p.2.1∧p.2.1≤(n:Int)∧p.2.2.1=p.2.1+2 * s) (Res P n) ?_ N _ ⟨h,by simp only; omega,by simp only; omega,by simp only; omega⟩ (by simp only; omega)
   rintro kh1 kh2 ⟨ys,a,b,⟨⟩⟩ ⟨h,ha,ha2,hb⟩ hkh
   simp only at h ha ha2 hb hkh⊢
   have e3:qQ .i64 a s=a+s:=qaz (by omega) (by omega)
   by_cases hc:b≤(n:Int)
   ·obtain ⟨out,k1,k2,k3⟩:=qop d hφ hn (by omega:2 * n+1<N) h (a:=a) (m:=a+s) (b:=b) ha (by omega) (by omega) hc
    have e4:qQ .i64 b (2 * s)=b+2 * s:=qaz (by omega) (by omega)
    simp only [leT hc,cond_true,e3,k2,k3,qg,qj,e4]
    exact hkh _ ⟨k1,by simp only; omega,by simp only; omega,by simp only⟩ (by simp only; omega)
   ·simp only [leF hc,cond_false,e3]
    by_cases hq:a+s<(n:Int)
    ·obtain ⟨out,k1,k2,k3⟩:=qop d hφ hn (by omega:2 * n+1<N) h (a:=a) (m:=a+s) (b:=(n:Int)) ha (by omega) hq (Int.le_refl _)
     simp only [ltT hq,cond_true,k2,k3,qg,qj]
     exact hjh _ ⟨k1,by simp only; omega,by simp only; omega⟩ (by simp only; omega)
    ·simp only [ltF hq,cond_false,cond_true]
     exact hjh _ ⟨h,by simp only; omega,by simp only; omega⟩ (by simp only; omega)
  ·simp only [ltF hsn,cond_false]
   exact ⟨ys,h,rfl,rfl⟩
theorem srtAll_ok (hφ:qsA P φ ψ) {ys:List α} (hn:ys.length≤1099511627776) (hN:2 * ys.length+100<N) (h:∀x∈ys,P x):∃out:List α,qqr d N (ys,(φ,()))=some ((),(out,()))∧qqr d N (ys,(ψ,()))=some ((),(out,()))∧out.length=ys.length∧∀x∈out,P x:=by
 obtain ⟨out,k1,k2,k3⟩:=qrR d hφ hn hN ⟨rfl,h⟩
 refine ⟨out,?_,?_,k1.len,k1.all⟩
 ·simp only [qqr,qi,k2,qg,qj,cond_true]
 ·simp only [qqr,qi,k3,qg,qj,cond_true]
end
end
end Go.Vi
