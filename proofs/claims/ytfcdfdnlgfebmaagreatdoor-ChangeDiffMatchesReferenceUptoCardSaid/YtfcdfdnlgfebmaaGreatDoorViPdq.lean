/- Sorting by comparisons: what is sorted, what is moved. -/
import Derived.Test.YtfcdfdnlgfebmaaGreatDoorViSrt
set_option linter.unusedVariables false
set_option linter.unusedSimpArgs false
set_option linter.unnecessarySimpa false
set_option linter.unusedSectionVars false
set_option linter.unusedSimpArgs false
set_option linter.unusedVariables false
set_option maxRecDepth 100000
namespace Go.Vi
noncomputable section
def qkv {α:Type} (d:α) (N:Nat) (x:((List α)×(Int×(Int×(Int×(((α×(α×Unit))→(Option (Int×Unit)))×Unit)))))):(Option (Unit×((List α)×Unit))):=
 (qZ (S:=((List α)×(Int×Unit))) (R:=(Unit×((List α)×Unit))) N (fun ih0=>(fun p1=>(qW (qQ .i64 (qmn .i64 2 p1.2.1) 1) (fun y2=>(bif (leI x.2.2.1 y2) then (some ((),(p1.1,()))) else (bif (((!(ltI (qQ .i64 y2 1) x.2.2.1))||(inB (qQ .i64 x.2.2.2.1 y2) (qn p1.1)))&&(((!(ltI (qQ .i64 y2 1) x.2.2.1))||(inB (qQ .i64 (qQ .i64 x.2.2.2.1 y2) 1) (qn p1.1)))&&((!(ltI (qQ .i64 y2 1) x.2.2.1))||(qw (x.2.2.2.2.1 ((qh p1.1 (qQ .i64 x.2.2.2.1 y2) d),((qh p1.1 (qQ .i64 (qQ .i64 x.2.2.2.1 y2) 1) d),()))))))) then (qW ((ltI (qQ .i64 y2 1) x.2.2.1)&&(ltI (qp (x.2.2.2.2.1 ((qh p1.1 (qQ .i64 x.2.2.2.1 y2) d),((qh p1.1 (qQ .i64 (qQ .i64 x.2.2.2.1 y2) 1) d),()))) (0,())).1 0)) (fun y3=>(qW (bif y3 then (qQ .i64 y2 1) else y2) (fun y4=>(bif ((inB (qQ .i64 x.2.2.2.1 p1.2.1) (qn p1.1))&&((inB (qQ .i64 x.2.2.2.1 y4) (qn p1.1))&&(qw (x.2.2.2.2.1 ((qh p1.1 (qQ .i64 x.2.2.2.1 p1.2.1) d),((qh p1.1 (qQ .i64 x.2.2.2.1 y4) d),())))))) then (bif (!(ltI (qp (x.2.2.2.2.1 ((qh p1.1 (qQ .i64 x.2.2.2.1 p1.2.1) d),((qh p1.1 (qQ .i64 x.2.2.2.1 y4) d),()))) (0,())).1 0)) then (some ((),(p1.1,()))) else (bif ((inB (qQ .i64 x.2.2.2.1 y4) (qn p1.1))&&((inB (qQ .i64 x.2.2.2.1 p1.2.1) (qn p1.1))&&((inB (qQ .i64 x.2.2.2.1 p1.2.1) (qn p1.1))&&(inB (qQ .i64 x.2.2.2.1 y4) (qn (qbN p1.1 (qQ .i64 x.2.2.2.1 p1.2.1) (qh p1.1 (qQ .i64 x.2.2.2.1 y4) d))))))) then (ih0 ((qbN (qbN p1.1 (qQ .i64 x.2.2.2.1 p1.2.1) (qh p1.1 (qQ .i64 x.2.2.2.1 y4) d)) (qQ .i64 x.2.2.2.1 y4) (qh p1.1 (qQ .i64 x.2.2.2.1 p1.2.1) d)),(y4,()))) else none)) else none))))) else none)))))) (x.1,(x.2.1,())))
def qpk {α:Type} (d:α) (N:Nat) (x:((List α)×(Int×(Int×(((α×(α×Unit))→(Option (Int×Unit)))×Unit))))):(Option (Unit×((List α)×Unit))):=
 (qW (qO .i64 x.2.2.1 x.2.1) (fun y0=>(bif (neI 2 0) then (qZ (S:=((List α)×(Int×Unit))) (R:=(Unit×((List α)×Unit))) N (fun ih1=>(fun p2=>(bif (leI 0 p2.2.1) then (bif (qw (qkv d N (p2.1,(p2.2.1,(y0,(x.2.1,(x.2.2.2.1,()))))))) then (ih1 ((qp (qkv d N (p2.1,(p2.2.1,(y0,(x.2.1,(x.2.2.2.1,())))))) ((),(([]:List α),()))).2.1,((qO .i64 p2.2.1 1),()))) else none) else (qZ (S:=((List α)×(Int×Unit))) (R:=(Unit×((List α)×Unit))) N (fun ih3=>(fun p4=>(bif (leI 0 p4.2.1) then (bif ((inB (qQ .i64 x.2.1 p4.2.1) (qn p4.1))&&((inB x.2.1 (qn p4.1))&&((inB x.2.1 (qn p4.1))&&(inB (qQ .i64 x.2.1 p4.2.1) (qn (qbN p4.1 x.2.1 (qh p4.1 (qQ .i64 x.2.1 p4.2.1) d))))))) then (bif (qw (qkv d N ((qbN (qbN p4.1 x.2.1 (qh p4.1 (qQ .i64 x.2.1 p4.2.1) d)) (qQ .i64 x.2.1 p4.2.1) (qh p4.1 x.2.1 d)),(0,(p4.2.1,(x.2.1,(x.2.2.2.1,()))))))) then (ih3 ((qp (qkv d N ((qbN (qbN p4.1 x.2.1 (qh p4.1 (qQ .i64 x.2.1 p4.2.1) d)) (qQ .i64 x.2.1 p4.2.1) (qh p4.1 x.2.1 d)),(0,(p4.2.1,(x.2.1,(x.2.2.2.1,())))))) ((),(([]:List α),()))).2.1,((qO .i64 p4.2.1 1),()))) else none) else none) else (some ((),(p4.1,())))))) (p2.1,((qO .i64 y0 1),())))))) (x.1,((qom .i64 (qO .i64 y0 1) 2),()))) else none)))
def qbn {α:Type} (d:α) (N:Nat) (x:((List α)×(Int×(Int×(((α×(α×Unit))→(Option (Int×Unit)))×Unit))))):(Option (Unit×((List α)×Unit))):=
 (qZ (S:=((List α)×(Int×(Int×Unit)))) (R:=(Unit×((List α)×Unit))) N (fun ih0=>(fun p1=>(bif (ltI p1.2.1 p1.2.2.1) then (bif ((inB p1.2.2.1 (qn p1.1))&&((inB p1.2.1 (qn p1.1))&&((inB p1.2.1 (qn p1.1))&&(inB p1.2.2.1 (qn (qbN p1.1 p1.2.1 (qh p1.1 p1.2.2.1 d))))))) then (qW (qQ .i64 p1.2.1 1) (fun y2=>(ih0 ((qbN (qbN p1.1 p1.2.1 (qh p1.1 p1.2.2.1 d)) p1.2.2.1 (qh p1.1 p1.2.1 d)),(y2,((qO .i64 p1.2.2.1 1),())))))) else none) else (some ((),(p1.1,())))))) (x.1,(x.2.1,((qO .i64 x.2.2.1 1),()))))
def qhd {α:Type} (d:α) (N:Nat) (x:((List α)×(Int×(Int×(Int×(((α×(α×Unit))→(Option (Int×Unit)))×Unit)))))):(Option ((Int×(Int×Unit))×((List α)×(Int×Unit)))):=
 (bif ((inB x.2.2.1 (qn x.1))&&((inB x.2.1 (qn x.1))&&(qw (x.2.2.2.2.1 ((qh x.1 x.2.2.1 d),((qh x.1 x.2.1 d),())))))) then (bif (ltI (qp (x.2.2.2.2.1 ((qh x.1 x.2.2.1 d),((qh x.1 x.2.1 d),()))) (0,())).1 0) then (some ((x.2.2.1,(x.2.1,())),(x.1,((qQ .i64 x.2.2.2.1 1),())))) else (some ((x.2.1,(x.2.2.1,())),(x.1,(x.2.2.2.1,()))))) else none)
def qgq {α:Type} (d:α) (N:Nat) (x:((List α)×(Int×(Int×(Int×(Int×(((α×(α×Unit))→(Option (Int×Unit)))×Unit))))))):(Option ((Int×Unit)×((List α)×(Int×Unit)))):=
 (bif (qw (qhd d N (x.1,(x.2.1,(x.2.2.1,(x.2.2.2.2.1,(x.2.2.2.2.2.1,()))))))) then (qW (qp (qhd d N (x.1,(x.2.1,(x.2.2.1,(x.2.2.2.2.1,(x.2.2.2.2.2.1,())))))) ((0,(0,())),(([]:List α),(0,())))).2.1 (fun ys0=>(qW (qp (qhd d N (x.1,(x.2.1,(x.2.2.1,(x.2.2.2.2.1,(x.2.2.2.2.2.1,())))))) ((0,(0,())),(([]:List α),(0,())))).1.1 (fun y1=>(qW (qp (qhd d N (x.1,(x.2.1,(x.2.2.1,(x.2.2.2.2.1,(x.2.2.2.2.2.1,())))))) ((0,(0,())),(([]:List α),(0,())))).1.2.1 (fun y2=>(qW (qp (qhd d N (x.1,(x.2.1,(x.2.2.1,(x.2.2.2.2.1,(x.2.2.2.2.2.1,())))))) ((0,(0,())),(([]:List α),(0,())))).2.2.1 (fun y3=>(bif (qw (qhd d N (ys0,(y2,(x.2.2.2.1,(y3,(x.2.2.2.2.2.1,()))))))) then (qW (qp (qhd d N (ys0,(y2,(x.2.2.2.1,(y3,(x.2.2.2.2.2.1,())))))) ((0,(0,())),(([]:List α),(0,())))).2.1 (fun ys4=>(qW (qp (qhd d N (ys0,(y2,(x.2.2.2.1,(y3,(x.2.2.2.2.2.1,())))))) ((0,(0,())),(([]:List α),(0,())))).1.1 (fun y5=>(qW (qp (qhd d N (ys0,(y2,(x.2.2.2.1,(y3,(x.2.2.2.2.2.1,())))))) ((0,(0,())),(([]:List α),(0,())))).1.2.1 (fun y6=>(qW (qp (qhd d N (ys0,(y2,(x.2.2.2.1,(y3,(x.2.2.2.2.2.1,())))))) ((0,(0,())),(([]:List α),(0,())))).2.2.1 (fun y7=>(bif (qw (qhd d N (ys4,(y1,(y5,(y7,(x.2.2.2.2.2.1,()))))))) then (qW (qp (qhd d N (ys4,(y1,(y5,(y7,(x.2.2.2.2.2.1,())))))) ((0,(0,())),(([]:List α),(0,())))).2.1 (fun ys8=>(qW (qp (qhd d N (ys4,(y1,(y5,(y7,(x.2.2.2.2.2.1,())))))) ((0,(0,())),(([]:List α),(0,())))).1.1 (fun y9=>(qW (qp (qhd d N (ys4,(y1,(y5,(y7,(x.2.2.2.2.2.1,())))))) ((0,(0,())),(([]:List α),(0,())))).1.2.1 (fun y10=>(qW (qp (qhd d N (ys4,(y1,(y5,(y7,(x.2.2.2.2.2.1,())))))) ((0,(0,())),(([]:List α),(0,())))).2.2.1 (fun y11=>(some ((y10,()),(ys8,(y11,())))))))))))) else none))))))))) else none))))))))) else none)
def qs {α:Type} (d:α) (N:Nat) (x:((List α)×(Int×(Int×(((α×(α×Unit))→(Option (Int×Unit)))×Unit))))):(Option ((Int×Unit)×((List α)×(Int×Unit)))):=
 (bif (qw (qgq d N (x.1,((qO .i64 x.2.1 1),(x.2.1,((qQ .i64 x.2.1 1),(x.2.2.1,(x.2.2.2.1,())))))))) then (some (((qp (qgq d N (x.1,((qO .i64 x.2.1 1),(x.2.1,((qQ .i64 x.2.1 1),(x.2.2.1,(x.2.2.2.1,()))))))) ((0,()),(([]:List α),(0,())))).1.1,()),((qp (qgq d N (x.1,((qO .i64 x.2.1 1),(x.2.1,((qQ .i64 x.2.1 1),(x.2.2.1,(x.2.2.2.1,()))))))) ((0,()),(([]:List α),(0,())))).2.1,((qp (qgq d N (x.1,((qO .i64 x.2.1 1),(x.2.1,((qQ .i64 x.2.1 1),(x.2.2.1,(x.2.2.2.1,()))))))) ((0,()),(([]:List α),(0,())))).2.2.1,())))) else none)
def qfk {α:Type} (d:α) (N:Nat) (x:((List α)×(Int×(Int×(((α×(α×Unit))→(Option (Int×Unit)))×Unit))))):(Option ((Int×(Int×Unit))×((List α)×Unit))):=
 (qW (qO .i64 x.2.2.1 x.2.1) (fun y0=>(bif (neI 4 0) then (qW (qQ .i64 x.2.1 (qmn .i64 (qom .i64 y0 4) 1)) (fun y1=>(bif (neI 4 0) then (qW (qQ .i64 x.2.1 (qmn .i64 (qom .i64 y0 4) 2)) (fun y2=>(bif (neI 4 0) then (qW (qQ .i64 x.2.1 (qmn .i64 (qom .i64 y0 4) 3)) (fun y3=>(bif (bif (leI 8 y0) then ((bif (leI 50 y0) then ((qw (qs d N (x.1,(y1,(0,(x.2.2.2.1,()))))))&&((qw (qs d N ((qp (qs d N (x.1,(y1,(0,(x.2.2.2.1,()))))) ((0,()),(([]:List α),(0,())))).2.1,(y2,((qp (qs d N (x.1,(y1,(0,(x.2.2.2.1,()))))) ((0,()),(([]:List α),(0,())))).2.2.1,(x.2.2.2.1,()))))))&&(qw (qs d N ((qp (qs d N ((qp (qs d N (x.1,(y1,(0,(x.2.2.2.1,()))))) ((0,()),(([]:List α),(0,())))).2.1,(y2,((qp (qs d N (x.1,(y1,(0,(x.2.2.2.1,()))))) ((0,()),(([]:List α),(0,())))).2.2.1,(x.2.2.2.1,()))))) ((0,()),(([]:List α),(0,())))).2.1,(y3,((qp (qs d N ((qp (qs d N (x.1,(y1,(0,(x.2.2.2.1,()))))) ((0,()),(([]:List α),(0,())))).2.1,(y2,((qp (qs d N (x.1,(y1,(0,(x.2.2.2.1,()))))) ((0,()),(([]:List α),(0,())))).2.2.1,(x.2.2.2.1,()))))) ((0,()),(([]:List α),(0,())))).2.2.1,(x.2.2.2.1,())))))))) else true)&&(qw (qgq d N ((bif (leI 50 y0) then (qp (qs d N ((qp (qs d N ((qp (qs d N (x.1,(y1,(0,(x.2.2.2.1,()))))) ((0,()),(([]:List α),(0,())))).2.1,(y2,((qp (qs d N (x.1,(y1,(0,(x.2.2.2.1,()))))) ((0,()),(([]:List α),(0,())))).2.2.1,(x.2.2.2.1,()))))) ((0,()),(([]:List α),(0,())))).2.1,(y3,((qp (qs d N ((qp (qs d N (x.1,(y1,(0,(x.2.2.2.1,()))))) ((0,()),(([]:List α),(0,())))).2.1,(y2,((qp (qs d N (x.1,(y1,(0,(x.2.2.2.1,()))))) ((0,()),(([]:List α),(0,())))).2.2.1,(x.2.2.2.1,()))))) ((0,()),(([]:List α),(0,())))).2.2.1,(x.2.2.2.1,()))))) ((0,()),(([]:List α),(0,())))).2.1 else x.1),((bif (leI 50 y0) then (qp (qs d N (x.1,(y1,(0,(x.2.2.2.1,()))))) ((0,()),(([]:List α),(0,())))).1.1 else y1),((bif (leI 50 y0) then (qp (qs d N ((qp (qs d N (x.1,(y1,(0,(x.2.2.2.1,()))))) ((0,()),(([]:List α),(0,())))).2.1,(y2,((qp (qs d N (x.1,(y1,(0,(x.2.2.2.1,()))))) ((0,()),(([]:List α),(0,())))).2.2.1,(x.2.2.2.1,()))))) ((0,()),(([]:List α),(0,())))).1.1 else y2),((bif (leI 50 y0) then (qp (qs d N ((qp (qs d N ((qp (qs d N (x.1,(y1,(0,(x.2.2.2.1,()))))) ((0,()),(([]:List α),(0,())))).2.1,(y2,((qp (qs d N (x.1,(y1,(0,(x.2.2.2.1,()))))) ((0,()),(([]:List α),(0,())))).2.2.1,(x.2.2.2.1,()))))) ((0,()),(([]:List α),(0,())))).2.1,(y3,((qp (qs d N ((qp (qs d N (x.1,(y1,(0,(x.2.2.2.1,()))))) ((0,()),(([]:List α),(0,())))).2.1,(y2,((qp (qs d N (x.1,(y1,(0,(x.2.2.2.1,()))))) ((0,()),(([]:List α),(0,())))).2.2.1,(x.2.2.2.1,()))))) ((0,()),(([]:List α),(0,())))).2.2.1,(x.2.2.2.1,()))))) ((0,()),(([]:List α),(0,())))).1.1 else y3),((bif (leI 50 y0) then (qp (qs d N ((qp (qs d N ((qp (qs d N (x.1,(y1,(0,(x.2.2.2.1,()))))) ((0,()),(([]:List α),(0,())))).2.1,(y2,((qp (qs d N (x.1,(y1,(0,(x.2.2.2.1,()))))) ((0,()),(([]:List α),(0,())))).2.2.1,(x.2.2.2.1,()))))) ((0,()),(([]:List α),(0,())))).2.1,(y3,((qp (qs d N ((qp (qs d N (x.1,(y1,(0,(x.2.2.2.1,()))))) ((0,()),(([]:List α),(0,())))).2.1,(y2,((qp (qs d N (x.1,(y1,(0,(x.2.2.2.1,()))))) ((0,()),(([]:List α),(0,())))).2.2.1,(x.2.2.2.1,()))))) ((0,()),(([]:List α),(0,())))).2.2.1,(x.2.2.2.1,()))))) ((0,()),(([]:List α),(0,())))).2.2.1 else 0),(x.2.2.2.1,()))))))))) else true) then (qW (bif (leI 8 y0) then (qp (qgq d N ((bif (leI 50 y0) then (qp (qs d N ((qp (qs d N ((qp (qs d N (x.1,(y1,(0,(x.2.2.2.1,()))))) ((0,()),(([]:List α),(0,())))).2.1,(y2,((qp (qs d N (x.1,(y1,(0,(x.2.2.2.1,()))))) ((0,()),(([]:List α),(0,())))).2.2.1,(x.2.2.2.1,()))))) ((0,()),(([]:List α),(0,())))).2.1,(y3,((qp (qs d N ((qp (qs d N (x.1,(y1,(0,(x.2.2.2.1,()))))) ((0,()),(([]:List α),(0,())))).2.1,(y2,((qp (qs d N (x.1,(y1,(0,(x.2.2.2.1,()))))) ((0,()),(([]:List α),(0,())))).2.2.1,(x.2.2.2.1,()))))) ((0,()),(([]:List α),(0,())))).2.2.1,(x.2.2.2.1,()))))) ((0,()),(([]:List α),(0,())))).2.1 else x.1),((bif (leI 50 y0) then (qp (qs d N (x.1,(y1,(0,(x.2.2.2.1,()))))) ((0,()),(([]:List α),(0,())))).1.1 else y1),((bif (leI 50 y0) then (qp (qs d N ((qp (qs d N (x.1,(y1,(0,(x.2.2.2.1,()))))) ((0,()),(([]:List α),(0,())))).2.1,(y2,((qp (qs d N (x.1,(y1,(0,(x.2.2.2.1,()))))) ((0,()),(([]:List α),(0,())))).2.2.1,(x.2.2.2.1,()))))) ((0,()),(([]:List α),(0,())))).1.1 else y2),((bif (leI 50 y0) then (qp (qs d N ((qp (qs d N ((qp (qs d N (x.1,(y1,(0,(x.2.2.2.1,()))))) ((0,()),(([]:List α),(0,())))).2.1,(y2,((qp (qs d N (x.1,(y1,(0,(x.2.2.2.1,()))))) ((0,()),(([]:List α),(0,())))).2.2.1,(x.2.2.2.1,()))))) ((0,()),(([]:List α),(0,())))).2.1,(y3,((qp (qs d N ((qp (qs d N (x.1,(y1,(0,(x.2.2.2.1,()))))) ((0,()),(([]:List α),(0,())))).2.1,(y2,((qp (qs d N (x.1,(y1,(0,(x.2.2.2.1,()))))) ((0,()),(([]:List α),(0,())))).2.2.1,(x.2.2.2.1,()))))) ((0,()),(([]:List α),(0,())))).2.2.1,(x.2.2.2.1,()))))) ((0,()),(([]:List α),(0,())))).1.1 else y3),((bif (leI 50 y0) then (qp (qs d N ((qp (qs d N ((qp (qs d N (x.1,(y1,(0,(x.2.2.2.1,()))))) ((0,()),(([]:List α),(0,())))).2.1,(y2,((qp (qs d N (x.1,(y1,(0,(x.2.2.2.1,()))))) ((0,()),(([]:List α),(0,())))).2.2.1,(x.2.2.2.1,()))))) ((0,()),(([]:List α),(0,())))).2.1,(y3,((qp (qs d N ((qp (qs d N (x.1,(y1,(0,(x.2.2.2.1,()))))) ((0,()),(([]:List α),(0,())))).2.1,(y2,((qp (qs d N (x.1,(y1,(0,(x.2.2.2.1,()))))) ((0,()),(([]:List α),(0,())))).2.2.1,(x.2.2.2.1,()))))) ((0,()),(([]:List α),(0,())))).2.2.1,(x.2.2.2.1,()))))) ((0,()),(([]:List α),(0,())))).2.2.1 else 0),(x.2.2.2.1,()))))))) ((0,()),(([]:List α),(0,())))).2.2.1 else 0) (fun y4=>(qW (bif (leI 8 y0) then (qp (qgq d N ((bif (leI 50 y0) then (qp (qs d N ((qp (qs d N ((qp (qs d N (x.1,(y1,(0,(x.2.2.2.1,()))))) ((0,()),(([]:List α),(0,())))).2.1,(y2,((qp (qs d N (x.1,(y1,(0,(x.2.2.2.1,()))))) ((0,()),(([]:List α),(0,())))).2.2.1,(x.2.2.2.1,()))))) ((0,()),(([]:List α),(0,())))).2.1,(y3,((qp (qs d N ((qp (qs d N (x.1,(y1,(0,(x.2.2.2.1,()))))) ((0,()),(([]:List α),(0,())))).2.1,(y2,((qp (qs d N (x.1,(y1,(0,(x.2.2.2.1,()))))) ((0,()),(([]:List α),(0,())))).2.2.1,(x.2.2.2.1,()))))) ((0,()),(([]:List α),(0,())))).2.2.1,(x.2.2.2.1,()))))) ((0,()),(([]:List α),(0,())))).2.1 else x.1),((bif (leI 50 y0) then (qp (qs d N (x.1,(y1,(0,(x.2.2.2.1,()))))) ((0,()),(([]:List α),(0,())))).1.1 else y1),((bif (leI 50 y0) then (qp (qs d N ((qp (qs d N (x.1,(y1,(0,(x.2.2.2.1,()))))) ((0,()),(([]:List α),(0,())))).2.1,(y2,((qp (qs d N (x.1,(y1,(0,(x.2.2.2.1,()))))) ((0,()),(([]:List α),(0,())))).2.2.1,(x.2.2.2.1,()))))) ((0,()),(([]:List α),(0,())))).1.1 else y2),((bif (leI 50 y0) then (qp (qs d N ((qp (qs d N ((qp (qs d N (x.1,(y1,(0,(x.2.2.2.1,()))))) ((0,()),(([]:List α),(0,())))).2.1,(y2,((qp (qs d N (x.1,(y1,(0,(x.2.2.2.1,()))))) ((0,()),(([]:List α),(0,())))).2.2.1,(x.2.2.2.1,()))))) ((0,()),(([]:List α),(0,())))).2.1,(y3,((qp (qs d N ((qp (qs d N (x.1,(y1,(0,(x.2.2.2.1,()))))) ((0,()),(([]:List α),(0,())))).2.1,(y2,((qp (qs d N (x.1,(y1,(0,(x.2.2.2.1,()))))) ((0,()),(([]:List α),(0,())))).2.2.1,(x.2.2.2.1,()))))) ((0,()),(([]:List α),(0,())))).2.2.1,(x.2.2.2.1,()))))) ((0,()),(([]:List α),(0,())))).1.1 else y3),((bif (leI 50 y0) then (qp (qs d N ((qp (qs d N ((qp (qs d N (x.1,(y1,(0,(x.2.2.2.1,()))))) ((0,()),(([]:List α),(0,())))).2.1,(y2,((qp (qs d N (x.1,(y1,(0,(x.2.2.2.1,()))))) ((0,()),(([]:List α),(0,())))).2.2.1,(x.2.2.2.1,()))))) ((0,()),(([]:List α),(0,())))).2.1,(y3,((qp (qs d N ((qp (qs d N (x.1,(y1,(0,(x.2.2.2.1,()))))) ((0,()),(([]:List α),(0,())))).2.1,(y2,((qp (qs d N (x.1,(y1,(0,(x.2.2.2.1,()))))) ((0,()),(([]:List α),(0,())))).2.2.1,(x.2.2.2.1,()))))) ((0,()),(([]:List α),(0,())))).2.2.1,(x.2.2.2.1,()))))) ((0,()),(([]:List α),(0,())))).2.2.1 else 0),(x.2.2.2.1,()))))))) ((0,()),(([]:List α),(0,())))).1.1 else y2) (fun y5=>(bif (eqI y4 0) then (some ((y5,(1,())),((bif (leI 8 y0) then (qp (qgq d N ((bif (leI 50 y0) then (qp (qs d N ((qp (qs d N ((qp (qs d N (x.1,(y1,(0,(x.2.2.2.1,()))))) ((0,()),(([]:List α),(0,())))).2.1,(y2,((qp (qs d N (x.1,(y1,(0,(x.2.2.2.1,()))))) ((0,()),(([]:List α),(0,())))).2.2.1,(x.2.2.2.1,()))))) ((0,()),(([]:List α),(0,())))).2.1,(y3,((qp (qs d N ((qp (qs d N (x.1,(y1,(0,(x.2.2.2.1,()))))) ((0,()),(([]:List α),(0,())))).2.1,(y2,((qp (qs d N (x.1,(y1,(0,(x.2.2.2.1,()))))) ((0,()),(([]:List α),(0,())))).2.2.1,(x.2.2.2.1,()))))) ((0,()),(([]:List α),(0,())))).2.2.1,(x.2.2.2.1,()))))) ((0,()),(([]:List α),(0,())))).2.1 else x.1),((bif (leI 50 y0) then (qp (qs d N (x.1,(y1,(0,(x.2.2.2.1,()))))) ((0,()),(([]:List α),(0,())))).1.1 else y1),((bif (leI 50 y0) then (qp (qs d N ((qp (qs d N (x.1,(y1,(0,(x.2.2.2.1,()))))) ((0,()),(([]:List α),(0,())))).2.1,(y2,((qp (qs d N (x.1,(y1,(0,(x.2.2.2.1,()))))) ((0,()),(([]:List α),(0,())))).2.2.1,(x.2.2.2.1,()))))) ((0,()),(([]:List α),(0,())))).1.1 else y2),((bif (leI 50 y0) then (qp (qs d N ((qp (qs d N ((qp (qs d N (x.1,(y1,(0,(x.2.2.2.1,()))))) ((0,()),(([]:List α),(0,())))).2.1,(y2,((qp (qs d N (x.1,(y1,(0,(x.2.2.2.1,()))))) ((0,()),(([]:List α),(0,())))).2.2.1,(x.2.2.2.1,()))))) ((0,()),(([]:List α),(0,())))).2.1,(y3,((qp (qs d N ((qp (qs d N (x.1,(y1,(0,(x.2.2.2.1,()))))) ((0,()),(([]:List α),(0,())))).2.1,(y2,((qp (qs d N (x.1,(y1,(0,(x.2.2.2.1,()))))) ((0,()),(([]:List α),(0,())))).2.2.1,(x.2.2.2.1,()))))) ((0,()),(([]:List α),(0,())))).2.2.1,(x.2.2.2.1,()))))) ((0,()),(([]:List α),(0,())))).1.1 else y3),((bif (leI 50 y0) then (qp (qs d N ((qp (qs d N ((qp (qs d N (x.1,(y1,(0,(x.2.2.2.1,()))))) ((0,()),(([]:List α),(0,())))).2.1,(y2,((qp (qs d N (x.1,(y1,(0,(x.2.2.2.1,()))))) ((0,()),(([]:List α),(0,())))).2.2.1,(x.2.2.2.1,()))))) ((0,()),(([]:List α),(0,())))).2.1,(y3,((qp (qs d N ((qp (qs d N (x.1,(y1,(0,(x.2.2.2.1,()))))) ((0,()),(([]:List α),(0,())))).2.1,(y2,((qp (qs d N (x.1,(y1,(0,(x.2.2.2.1,()))))) ((0,()),(([]:List α),(0,())))).2.2.1,(x.2.2.2.1,()))))) ((0,()),(([]:List α),(0,())))).2.2.1,(x.2.2.2.1,()))))) ((0,()),(([]:List α),(0,())))).2.2.1 else 0),(x.2.2.2.1,()))))))) ((0,()),(([]:List α),(0,())))).2.1 else x.1),()))) else (bif (eqI y4 12) then (some ((y5,(2,())),((bif (leI 8 y0) then (qp (qgq d N ((bif (leI 50 y0) then (qp (qs d N ((qp (qs d N ((qp (qs d N (x.1,(y1,(0,(x.2.2.2.1,()))))) ((0,()),(([]:List α),(0,())))).2.1,(y2,((qp (qs d N (x.1,(y1,(0,(x.2.2.2.1,()))))) ((0,()),(([]:List α),(0,())))).2.2.1,(x.2.2.2.1,()))))) ((0,()),(([]:List α),(0,())))).2.1,(y3,((qp (qs d N ((qp (qs d N (x.1,(y1,(0,(x.2.2.2.1,()))))) ((0,()),(([]:List α),(0,())))).2.1,(y2,((qp (qs d N (x.1,(y1,(0,(x.2.2.2.1,()))))) ((0,()),(([]:List α),(0,())))).2.2.1,(x.2.2.2.1,()))))) ((0,()),(([]:List α),(0,())))).2.2.1,(x.2.2.2.1,()))))) ((0,()),(([]:List α),(0,())))).2.1 else x.1),((bif (leI 50 y0) then (qp (qs d N (x.1,(y1,(0,(x.2.2.2.1,()))))) ((0,()),(([]:List α),(0,())))).1.1 else y1),((bif (leI 50 y0) then (qp (qs d N ((qp (qs d N (x.1,(y1,(0,(x.2.2.2.1,()))))) ((0,()),(([]:List α),(0,())))).2.1,(y2,((qp (qs d N (x.1,(y1,(0,(x.2.2.2.1,()))))) ((0,()),(([]:List α),(0,())))).2.2.1,(x.2.2.2.1,()))))) ((0,()),(([]:List α),(0,())))).1.1 else y2),((bif (leI 50 y0) then (qp (qs d N ((qp (qs d N ((qp (qs d N (x.1,(y1,(0,(x.2.2.2.1,()))))) ((0,()),(([]:List α),(0,())))).2.1,(y2,((qp (qs d N (x.1,(y1,(0,(x.2.2.2.1,()))))) ((0,()),(([]:List α),(0,())))).2.2.1,(x.2.2.2.1,()))))) ((0,()),(([]:List α),(0,())))).2.1,(y3,((qp (qs d N ((qp (qs d N (x.1,(y1,(0,(x.2.2.2.1,()))))) ((0,()),(([]:List α),(0,())))).2.1,(y2,((qp (qs d N (x.1,(y1,(0,(x.2.2.2.1,()))))) ((0,()),(([]:List α),(0,())))).2.2.1,(x.2.2.2.1,()))))) ((0,()),(([]:List α),(0,())))).2.2.1,(x.2.2.2.1,()))))) ((0,()),(([]:List α),(0,())))).1.1 else y3),((bif (leI 50 y0) then (qp (qs d N ((qp (qs d N ((qp (qs d N (x.1,(y1,(0,(x.2.2.2.1,()))))) ((0,()),(([]:List α),(0,())))).2.1,(y2,((qp (qs d N (x.1,(y1,(0,(x.2.2.2.1,()))))) ((0,()),(([]:List α),(0,())))).2.2.1,(x.2.2.2.1,()))))) ((0,()),(([]:List α),(0,())))).2.1,(y3,((qp (qs d N ((qp (qs d N (x.1,(y1,(0,(x.2.2.2.1,()))))) ((0,()),(([]:List α),(0,())))).2.1,(y2,((qp (qs d N (x.1,(y1,(0,(x.2.2.2.1,()))))) ((0,()),(([]:List α),(0,())))).2.2.1,(x.2.2.2.1,()))))) ((0,()),(([]:List α),(0,())))).2.2.1,(x.2.2.2.1,()))))) ((0,()),(([]:List α),(0,())))).2.2.1 else 0),(x.2.2.2.1,()))))))) ((0,()),(([]:List α),(0,())))).2.1 else x.1),()))) else (some ((y5,(0,())),((bif (leI 8 y0) then (qp (qgq d N ((bif (leI 50 y0) then (qp (qs d N ((qp (qs d N ((qp (qs d N (x.1,(y1,(0,(x.2.2.2.1,()))))) ((0,()),(([]:List α),(0,())))).2.1,(y2,((qp (qs d N (x.1,(y1,(0,(x.2.2.2.1,()))))) ((0,()),(([]:List α),(0,())))).2.2.1,(x.2.2.2.1,()))))) ((0,()),(([]:List α),(0,())))).2.1,(y3,((qp (qs d N ((qp (qs d N (x.1,(y1,(0,(x.2.2.2.1,()))))) ((0,()),(([]:List α),(0,())))).2.1,(y2,((qp (qs d N (x.1,(y1,(0,(x.2.2.2.1,()))))) ((0,()),(([]:List α),(0,())))).2.2.1,(x.2.2.2.1,()))))) ((0,()),(([]:List α),(0,())))).2.2.1,(x.2.2.2.1,()))))) ((0,()),(([]:List α),(0,())))).2.1 else x.1),((bif (leI 50 y0) then (qp (qs d N (x.1,(y1,(0,(x.2.2.2.1,()))))) ((0,()),(([]:List α),(0,())))).1.1 else y1),((bif (leI 50 y0) then (qp (qs d N ((qp (qs d N (x.1,(y1,(0,(x.2.2.2.1,()))))) ((0,()),(([]:List α),(0,())))).2.1,(y2,((qp (qs d N (x.1,(y1,(0,(x.2.2.2.1,()))))) ((0,()),(([]:List α),(0,())))).2.2.1,(x.2.2.2.1,()))))) ((0,()),(([]:List α),(0,())))).1.1 else y2),((bif (leI 50 y0) then (qp (qs d N ((qp (qs d N ((qp (qs d N (x.1,(y1,(0,(x.2.2.2.1,()))))) ((0,()),(([]:List α),(0,())))).2.1,(y2,((qp (qs d N (x.1,(y1,(0,(x.2.2.2.1,()))))) ((0,()),(([]:List α),(0,())))).2.2.1,(x.2.2.2.1,()))))) ((0,()),(([]:List α),(0,())))).2.1,(y3,((qp (qs d N ((qp (qs d N (x.1,(y1,(0,(x.2.2.2.1,()))))) ((0,()),(([]:List α),(0,())))).2.1,(y2,((qp (qs d N (x.1,(y1,(0,(x.2.2.2.1,()))))) ((0,()),(([]:List α),(0,())))).2.2.1,(x.2.2.2.1,()))))) ((0,()),(([]:List α),(0,())))).2.2.1,(x.2.2.2.1,()))))) ((0,()),(([]:List α),(0,())))).1.1 else y3),((bif (leI 50 y0) then (qp (qs d N ((qp (qs d N ((qp (qs d N (x.1,(y1,(0,(x.2.2.2.1,()))))) ((0,()),(([]:List α),(0,())))).2.1,(y2,((qp (qs d N (x.1,(y1,(0,(x.2.2.2.1,()))))) ((0,()),(([]:List α),(0,())))).2.2.1,(x.2.2.2.1,()))))) ((0,()),(([]:List α),(0,())))).2.1,(y3,((qp (qs d N ((qp (qs d N (x.1,(y1,(0,(x.2.2.2.1,()))))) ((0,()),(([]:List α),(0,())))).2.1,(y2,((qp (qs d N (x.1,(y1,(0,(x.2.2.2.1,()))))) ((0,()),(([]:List α),(0,())))).2.2.1,(x.2.2.2.1,()))))) ((0,()),(([]:List α),(0,())))).2.2.1,(x.2.2.2.1,()))))) ((0,()),(([]:List α),(0,())))).2.2.1 else 0),(x.2.2.2.1,()))))))) ((0,()),(([]:List α),(0,())))).2.1 else x.1),()))))))))) else none))) else none))) else none))) else none)))
def qcg {α:Type} (d:α) (N:Nat) (x:((List α)×(Int×(Int×(((α×(α×Unit))→(Option (Int×Unit)))×Unit))))):(Option ((Bool×Unit)×((List α)×Unit))):=
 (qW (qQ .i64 x.2.1 1) (fun y0=>(qZ (S:=((List α)×(Int×(Int×Unit)))) (R:=((Bool×Unit)×((List α)×Unit))) N (fun ih1=>(fun p2=>(bif (ltI p2.2.2.1 5) then (qZ (S:=((List α)×(Int×Unit))) (R:=((Bool×Unit)×((List α)×Unit))) N (fun ih3=>(fun p4=>(bif (((!(ltI p4.2.1 x.2.2.1))||(inB p4.2.1 (qn p4.1)))&&(((!(ltI p4.2.1 x.2.2.1))||(inB (qO .i64 p4.2.1 1) (qn p4.1)))&&((!(ltI p4.2.1 x.2.2.1))||(qw (x.2.2.2.1 ((qh p4.1 p4.2.1 d),((qh p4.1 (qO .i64 p4.2.1 1) d),()))))))) then (bif ((ltI p4.2.1 x.2.2.1)&&(!(ltI (qp (x.2.2.2.1 ((qh p4.1 p4.2.1 d),((qh p4.1 (qO .i64 p4.2.1 1) d),()))) (0,())).1 0))) then (ih3 (p4.1,((qQ .i64 p4.2.1 1),()))) else (bif (eqI p4.2.1 x.2.2.1) then (some ((true,()),(p4.1,()))) else (bif (ltI (qO .i64 x.2.2.1 x.2.1) 50) then (some ((false,()),(p4.1,()))) else (bif ((inB (qO .i64 p4.2.1 1) (qn p4.1))&&((inB p4.2.1 (qn p4.1))&&((inB p4.2.1 (qn p4.1))&&(inB (qO .i64 p4.2.1 1) (qn (qbN p4.1 p4.2.1 (qh p4.1 (qO .i64 p4.2.1 1) d))))))) then (bif (leI 2 (qO .i64 p4.2.1 x.2.1)) then (qZ (S:=((List α)×(Int×Unit))) (R:=((Bool×Unit)×((List α)×Unit))) N (fun ih5=>(fun p6=>(bif (leI 1 p6.2.1) then (bif ((inB p6.2.1 (qn p6.1))&&((inB (qO .i64 p6.2.1 1) (qn p6.1))&&(qw (x.2.2.2.1 ((qh p6.1 p6.2.1 d),((qh p6.1 (qO .i64 p6.2.1 1) d),())))))) then (bif (!(ltI (qp (x.2.2.2.1 ((qh p6.1 p6.2.1 d),((qh p6.1 (qO .i64 p6.2.1 1) d),()))) (0,())).1 0)) then (bif (leI 2 (qO .i64 x.2.2.1 p4.2.1)) then (qZ (S:=((List α)×(Int×Unit))) (R:=((Bool×Unit)×((List α)×Unit))) N (fun ih7=>(fun p8=>(bif (ltI p8.2.1 x.2.2.1) then (bif ((inB p8.2.1 (qn p8.1))&&((inB (qO .i64 p8.2.1 1) (qn p8.1))&&(qw (x.2.2.2.1 ((qh p8.1 p8.2.1 d),((qh p8.1 (qO .i64 p8.2.1 1) d),())))))) then (bif (!(ltI (qp (x.2.2.2.1 ((qh p8.1 p8.2.1 d),((qh p8.1 (qO .i64 p8.2.1 1) d),()))) (0,())).1 0)) then (ih1 (p8.1,(p4.2.1,((qQ .i64 p2.2.2.1 1),())))) else (bif ((inB (qO .i64 p8.2.1 1) (qn p8.1))&&((inB p8.2.1 (qn p8.1))&&((inB p8.2.1 (qn p8.1))&&(inB (qO .i64 p8.2.1 1) (qn (qbN p8.1 p8.2.1 (qh p8.1 (qO .i64 p8.2.1 1) d))))))) then (ih7 ((qbN (qbN p8.1 p8.2.1 (qh p8.1 (qO .i64 p8.2.1 1) d)) (qO .i64 p8.2.1 1) (qh p8.1 p8.2.1 d)),((qQ .i64 p8.2.1 1),()))) else none)) else none) else (ih1 (p8.1,(p4.2.1,((qQ .i64 p2.2.2.1 1),()))))))) (p6.1,((qQ .i64 p4.2.1 1),()))) else (ih1 (p6.1,(p4.2.1,((qQ .i64 p2.2.2.1 1),()))))) else (bif ((inB (qO .i64 p6.2.1 1) (qn p6.1))&&((inB p6.2.1 (qn p6.1))&&((inB p6.2.1 (qn p6.1))&&(inB (qO .i64 p6.2.1 1) (qn (qbN p6.1 p6.2.1 (qh p6.1 (qO .i64 p6.2.1 1) d))))))) then (ih5 ((qbN (qbN p6.1 p6.2.1 (qh p6.1 (qO .i64 p6.2.1 1) d)) (qO .i64 p6.2.1 1) (qh p6.1 p6.2.1 d)),((qO .i64 p6.2.1 1),()))) else none)) else none) else (bif (leI 2 (qO .i64 x.2.2.1 p4.2.1)) then (qZ (S:=((List α)×(Int×Unit))) (R:=((Bool×Unit)×((List α)×Unit))) N (fun ih7=>(fun p8=>(bif (ltI p8.2.1 x.2.2.1) then (bif ((inB p8.2.1 (qn p8.1))&&((inB (qO .i64 p8.2.1 1) (qn p8.1))&&(qw (x.2.2.2.1 ((qh p8.1 p8.2.1 d),((qh p8.1 (qO .i64 p8.2.1 1) d),())))))) then (bif (!(ltI (qp (x.2.2.2.1 ((qh p8.1 p8.2.1 d),((qh p8.1 (qO .i64 p8.2.1 1) d),()))) (0,())).1 0)) then (ih1 (p8.1,(p4.2.1,((qQ .i64 p2.2.2.1 1),())))) else (bif ((inB (qO .i64 p8.2.1 1) (qn p8.1))&&((inB p8.2.1 (qn p8.1))&&((inB p8.2.1 (qn p8.1))&&(inB (qO .i64 p8.2.1 1) (qn (qbN p8.1 p8.2.1 (qh p8.1 (qO .i64 p8.2.1 1) d))))))) then (ih7 ((qbN (qbN p8.1 p8.2.1 (qh p8.1 (qO .i64 p8.2.1 1) d)) (qO .i64 p8.2.1 1) (qh p8.1 p8.2.1 d)),((qQ .i64 p8.2.1 1),()))) else none)) else none) else (ih1 (p8.1,(p4.2.1,((qQ .i64 p2.2.2.1 1),()))))))) (p6.1,((qQ .i64 p4.2.1 1),()))) else (ih1 (p6.1,(p4.2.1,((qQ .i64 p2.2.2.1 1),())))))))) ((qbN (qbN p4.1 p4.2.1 (qh p4.1 (qO .i64 p4.2.1 1) d)) (qO .i64 p4.2.1 1) (qh p4.1 p4.2.1 d)),((qO .i64 p4.2.1 1),()))) else (bif (leI 2 (qO .i64 x.2.2.1 p4.2.1)) then (qZ (S:=((List α)×(Int×Unit))) (R:=((Bool×Unit)×((List α)×Unit))) N (fun ih5=>(fun p6=>(bif (ltI p6.2.1 x.2.2.1) then (bif ((inB p6.2.1 (qn p6.1))&&((inB (qO .i64 p6.2.1 1) (qn p6.1))&&(qw (x.2.2.2.1 ((qh p6.1 p6.2.1 d),((qh p6.1 (qO .i64 p6.2.1 1) d),())))))) then (bif (!(ltI (qp (x.2.2.2.1 ((qh p6.1 p6.2.1 d),((qh p6.1 (qO .i64 p6.2.1 1) d),()))) (0,())).1 0)) then (ih1 (p6.1,(p4.2.1,((qQ .i64 p2.2.2.1 1),())))) else (bif ((inB (qO .i64 p6.2.1 1) (qn p6.1))&&((inB p6.2.1 (qn p6.1))&&((inB p6.2.1 (qn p6.1))&&(inB (qO .i64 p6.2.1 1) (qn (qbN p6.1 p6.2.1 (qh p6.1 (qO .i64 p6.2.1 1) d))))))) then (ih5 ((qbN (qbN p6.1 p6.2.1 (qh p6.1 (qO .i64 p6.2.1 1) d)) (qO .i64 p6.2.1 1) (qh p6.1 p6.2.1 d)),((qQ .i64 p6.2.1 1),()))) else none)) else none) else (ih1 (p6.1,(p4.2.1,((qQ .i64 p2.2.2.1 1),()))))))) ((qbN (qbN p4.1 p4.2.1 (qh p4.1 (qO .i64 p4.2.1 1) d)) (qO .i64 p4.2.1 1) (qh p4.1 p4.2.1 d)),((qQ .i64 p4.2.1 1),()))) else (ih1 ((qbN (qbN p4.1 p4.2.1 (qh p4.1 (qO .i64 p4.2.1 1) d)) (qO .i64 p4.2.1 1) (qh p4.1 p4.2.1 d)),(p4.2.1,((qQ .i64 p2.2.2.1 1),())))))) else none)))) else none))) (p2.1,(p2.2.1,()))) else (some ((false,()),(p2.1,())))))) (x.1,(y0,(0,()))))))
def qg4 {α:Type} (d:α) (N:Nat) (x:((List α)×(Int×(Int×(Int×(((α×(α×Unit))→(Option (Int×Unit)))×Unit)))))):(Option ((Int×Unit)×((List α)×Unit))):=
 (bif ((inB x.2.2.2.1 (qn x.1))&&((inB x.2.1 (qn x.1))&&((inB x.2.1 (qn x.1))&&(inB x.2.2.2.1 (qn (qbN x.1 x.2.1 (qh x.1 x.2.2.2.1 d))))))) then (qZ (S:=((List α)×(Int×(Int×Unit)))) (R:=((Int×Unit)×((List α)×Unit))) N (fun ih0=>(fun p1=>(qZ (S:=((List α)×(Int×(Int×Unit)))) (R:=((Int×Unit)×((List α)×Unit))) N (fun ih2=>(fun p3=>(bif (((!(leI p3.2.1 p3.2.2.1))||(inB x.2.1 (qn p3.1)))&&(((!(leI p3.2.1 p3.2.2.1))||(inB p3.2.1 (qn p3.1)))&&((!(leI p3.2.1 p3.2.2.1))||(qw (x.2.2.2.2.1 ((qh p3.1 x.2.1 d),((qh p3.1 p3.2.1 d),()))))))) then (bif ((leI p3.2.1 p3.2.2.1)&&(!(ltI (qp (x.2.2.2.2.1 ((qh p3.1 x.2.1 d),((qh p3.1 p3.2.1 d),()))) (0,())).1 0))) then (ih2 (p3.1,((qQ .i64 p3.2.1 1),(p3.2.2.1,())))) else (qZ (S:=((List α)×(Int×Unit))) (R:=((Int×Unit)×((List α)×Unit))) N (fun ih4=>(fun p5=>(bif (((!(leI p3.2.1 p5.2.1))||(inB x.2.1 (qn p5.1)))&&(((!(leI p3.2.1 p5.2.1))||(inB p5.2.1 (qn p5.1)))&&((!(leI p3.2.1 p5.2.1))||(qw (x.2.2.2.2.1 ((qh p5.1 x.2.1 d),((qh p5.1 p5.2.1 d),()))))))) then (bif ((leI p3.2.1 p5.2.1)&&(ltI (qp (x.2.2.2.2.1 ((qh p5.1 x.2.1 d),((qh p5.1 p5.2.1 d),()))) (0,())).1 0)) then (ih4 (p5.1,((qO .i64 p5.2.1 1),()))) else (bif (ltI p5.2.1 p3.2.1) then (some ((p3.2.1,()),(p5.1,()))) else (bif ((inB p5.2.1 (qn p5.1))&&((inB p3.2.1 (qn p5.1))&&((inB p3.2.1 (qn p5.1))&&(inB p5.2.1 (qn (qbN p5.1 p3.2.1 (qh p5.1 p5.2.1 d))))))) then (qW (qQ .i64 p3.2.1 1) (fun y6=>(ih0 ((qbN (qbN p5.1 p3.2.1 (qh p5.1 p5.2.1 d)) p5.2.1 (qh p5.1 p3.2.1 d)),(y6,((qO .i64 p5.2.1 1),())))))) else none))) else none))) (p3.1,(p3.2.2.1,())))) else none))) (p1.1,(p1.2.1,(p1.2.2.1,())))))) ((qbN (qbN x.1 x.2.1 (qh x.1 x.2.2.2.1 d)) x.2.2.2.1 (qh x.1 x.2.1 d)),((qQ .i64 x.2.1 1),((qO .i64 x.2.2.1 1),())))) else none)
def qe2 {α:Type} (d:α) (N:Nat) (x:((List α)×(Int×(Int×(Int×(((α×(α×Unit))→(Option (Int×Unit)))×Unit)))))):(Option ((Int×(Bool×Unit))×((List α)×Unit))):=
 (bif ((inB x.2.2.2.1 (qn x.1))&&((inB x.2.1 (qn x.1))&&((inB x.2.1 (qn x.1))&&(inB x.2.2.2.1 (qn (qbN x.1 x.2.1 (qh x.1 x.2.2.2.1 d))))))) then (qZ (S:=((List α)×(Int×Unit))) (R:=((Int×(Bool×Unit))×((List α)×Unit))) N (fun ih0=>(fun p1=>(bif (((!(leI p1.2.1 (qO .i64 x.2.2.1 1)))||(inB p1.2.1 (qn p1.1)))&&(((!(leI p1.2.1 (qO .i64 x.2.2.1 1)))||(inB x.2.1 (qn p1.1)))&&((!(leI p1.2.1 (qO .i64 x.2.2.1 1)))||(qw (x.2.2.2.2.1 ((qh p1.1 p1.2.1 d),((qh p1.1 x.2.1 d),()))))))) then (bif ((leI p1.2.1 (qO .i64 x.2.2.1 1))&&(ltI (qp (x.2.2.2.2.1 ((qh p1.1 p1.2.1 d),((qh p1.1 x.2.1 d),()))) (0,())).1 0)) then (ih0 (p1.1,((qQ .i64 p1.2.1 1),()))) else (qZ (S:=((List α)×(Int×Unit))) (R:=((Int×(Bool×Unit))×((List α)×Unit))) N (fun ih2=>(fun p3=>(bif (((!(leI p1.2.1 p3.2.1))||(inB p3.2.1 (qn p3.1)))&&(((!(leI p1.2.1 p3.2.1))||(inB x.2.1 (qn p3.1)))&&((!(leI p1.2.1 p3.2.1))||(qw (x.2.2.2.2.1 ((qh p3.1 p3.2.1 d),((qh p3.1 x.2.1 d),()))))))) then (bif ((leI p1.2.1 p3.2.1)&&(!(ltI (qp (x.2.2.2.2.1 ((qh p3.1 p3.2.1 d),((qh p3.1 x.2.1 d),()))) (0,())).1 0))) then (ih2 (p3.1,((qO .i64 p3.2.1 1),()))) else (bif (ltI p3.2.1 p1.2.1) then (bif ((inB x.2.1 (qn p3.1))&&((inB p3.2.1 (qn p3.1))&&((inB p3.2.1 (qn p3.1))&&(inB x.2.1 (qn (qbN p3.1 p3.2.1 (qh p3.1 x.2.1 d))))))) then (some ((p3.2.1,(true,())),((qbN (qbN p3.1 p3.2.1 (qh p3.1 x.2.1 d)) x.2.1 (qh p3.1 p3.2.1 d)),()))) else none) else (bif ((inB p3.2.1 (qn p3.1))&&((inB p1.2.1 (qn p3.1))&&((inB p1.2.1 (qn p3.1))&&(inB p3.2.1 (qn (qbN p3.1 p1.2.1 (qh p3.1 p3.2.1 d))))))) then (qW (qQ .i64 p1.2.1 1) (fun y4=>(qZ (S:=((List α)×(Int×(Int×Unit)))) (R:=((Int×(Bool×Unit))×((List α)×Unit))) N (fun ih5=>(fun p6=>(qZ (S:=((List α)×(Int×(Int×Unit)))) (R:=((Int×(Bool×Unit))×((List α)×Unit))) N (fun ih7=>(fun p8=>(bif (((!(leI p8.2.1 p8.2.2.1))||(inB p8.2.1 (qn p8.1)))&&(((!(leI p8.2.1 p8.2.2.1))||(inB x.2.1 (qn p8.1)))&&((!(leI p8.2.1 p8.2.2.1))||(qw (x.2.2.2.2.1 ((qh p8.1 p8.2.1 d),((qh p8.1 x.2.1 d),()))))))) then (bif ((leI p8.2.1 p8.2.2.1)&&(ltI (qp (x.2.2.2.2.1 ((qh p8.1 p8.2.1 d),((qh p8.1 x.2.1 d),()))) (0,())).1 0)) then (ih7 (p8.1,((qQ .i64 p8.2.1 1),(p8.2.2.1,())))) else (qZ (S:=((List α)×(Int×Unit))) (R:=((Int×(Bool×Unit))×((List α)×Unit))) N (fun ih9=>(fun p10=>(bif (((!(leI p8.2.1 p10.2.1))||(inB p10.2.1 (qn p10.1)))&&(((!(leI p8.2.1 p10.2.1))||(inB x.2.1 (qn p10.1)))&&((!(leI p8.2.1 p10.2.1))||(qw (x.2.2.2.2.1 ((qh p10.1 p10.2.1 d),((qh p10.1 x.2.1 d),()))))))) then (bif ((leI p8.2.1 p10.2.1)&&(!(ltI (qp (x.2.2.2.2.1 ((qh p10.1 p10.2.1 d),((qh p10.1 x.2.1 d),()))) (0,())).1 0))) then (ih9 (p10.1,((qO .i64 p10.2.1 1),()))) else (bif (ltI p10.2.1 p8.2.1) then (bif ((inB x.2.1 (qn p10.1))&&((inB p10.2.1 (qn p10.1))&&((inB p10.2.1 (qn p10.1))&&(inB x.2.1 (qn (qbN p10.1 p10.2.1 (qh p10.1 x.2.1 d))))))) then (some ((p10.2.1,(false,())),((qbN (qbN p10.1 p10.2.1 (qh p10.1 x.2.1 d)) x.2.1 (qh p10.1 p10.2.1 d)),()))) else none) else (bif ((inB p10.2.1 (qn p10.1))&&((inB p8.2.1 (qn p10.1))&&((inB p8.2.1 (qn p10.1))&&(inB p10.2.1 (qn (qbN p10.1 p8.2.1 (qh p10.1 p10.2.1 d))))))) then (qW (qQ .i64 p8.2.1 1) (fun y11=>(ih5 ((qbN (qbN p10.1 p8.2.1 (qh p10.1 p10.2.1 d)) p10.2.1 (qh p10.1 p8.2.1 d)),(y11,((qO .i64 p10.2.1 1),())))))) else none))) else none))) (p8.1,(p8.2.2.1,())))) else none))) (p6.1,(p6.2.1,(p6.2.2.1,())))))) ((qbN (qbN p3.1 p1.2.1 (qh p3.1 p3.2.1 d)) p3.2.1 (qh p3.1 p1.2.1 d)),(y4,((qO .i64 p3.2.1 1),())))))) else none))) else none))) (p1.1,((qO .i64 x.2.2.1 1),())))) else none))) ((qbN (qbN x.1 x.2.1 (qh x.1 x.2.2.2.1 d)) x.2.2.2.1 (qh x.1 x.2.1 d)),((qQ .i64 x.2.1 1),()))) else none)
def qok (x:(Int×Unit)):(Option ((Int×Unit)×(Int×Unit))):=
 (bif (leI 0 13) then (bif (leI 0 7) then (bif (leI 0 17) then (some (((qil .u64 (qil .u64 (qil .u64 x.1 (qjV .u64 x.1 13)) (qi4 .u64 (qil .u64 x.1 (qjV .u64 x.1 13)) 7)) (qjV .u64 (qil .u64 (qil .u64 x.1 (qjV .u64 x.1 13)) (qi4 .u64 (qil .u64 x.1 (qjV .u64 x.1 13)) 7)) 17)),()),((qil .u64 (qil .u64 (qil .u64 x.1 (qjV .u64 x.1 13)) (qi4 .u64 (qil .u64 x.1 (qjV .u64 x.1 13)) 7)) (qjV .u64 (qil .u64 (qil .u64 x.1 (qjV .u64 x.1 13)) (qi4 .u64 (qil .u64 x.1 (qjV .u64 x.1 13)) 7)) 17)),()))) else none) else none) else none)
def qqm (L:(Int×Unit)→Option ((Int×Unit)×Unit)) (x:(Int×Unit)):(Option ((Int×Unit)×Unit)):=
 (bif ((qw (L ((qcr .u64 x.1),())))&&(leI 0 (qp (L ((qcr .u64 x.1),())) ((0,()),())).1.1)) then (some (((qjV .u64 1 (qp (L ((qcr .u64 x.1),())) ((0,()),())).1.1),()),())) else none)
def qgl {α:Type} (d:α) (N:Nat) (L:(Int×Unit)→Option ((Int×Unit)×Unit)) (x:((List α)×(Int×(Int×(((α×(α×Unit))→(Option (Int×Unit)))×Unit))))):(Option (Unit×((List α)×Unit))):=
 (qW (qO .i64 x.2.2.1 x.2.1) (fun y0=>(bif (leI 8 y0) then (bif (qw ((qqm L) (y0,()))) then (qW y0 (fun y1=>(qW (qp ((qqm L) (y0,())) ((0,()),())).1.1 (fun y2=>(bif (neI 4 0) then (qZ (S:=((List α)×(Int×(Int×Unit)))) (R:=(Unit×((List α)×Unit))) N (fun ih3=>(fun p4=>(bif (neI 4 0) then (bif (leI p4.2.2.1 (qQ .i64 (qQ .i64 x.2.1 (qmn .i64 (qom .i64 y1 4) 2)) 1)) then (bif (qw (qok (p4.2.1,()))) then (qW (qp (qok (p4.2.1,())) ((0,()),(0,()))).2.1 (fun y5=>(qW (qcr .i64 (qux .u64 (qp (qok (p4.2.1,())) ((0,()),(0,()))).1.1 (qO .u64 y2 1))) (fun y6=>(qW y5 (fun y7=>(qW (bif (leI y1 y6) then (qO .i64 y6 y1) else y6) (fun y8=>(bif ((inB (qQ .i64 x.2.1 y8) (qn p4.1))&&((inB p4.2.2.1 (qn p4.1))&&((inB p4.2.2.1 (qn p4.1))&&(inB (qQ .i64 x.2.1 y8) (qn (qbN p4.1 p4.2.2.1 (qh p4.1 (qQ .i64 x.2.1 y8) d))))))) then (ih3 ((qbN (qbN p4.1 p4.2.2.1 (qh p4.1 (qQ .i64 x.2.1 y8) d)) (qQ .i64 x.2.1 y8) (qh p4.1 p4.2.2.1 d)),(y7,((qQ .i64 p4.2.2.1 1),())))) else none))))))))) else none) else (some ((),(p4.1,())))) else none))) (x.1,((qcr .u64 y0),((qO .i64 (qQ .i64 x.2.1 (qmn .i64 (qom .i64 y1 4) 2)) 1),())))) else none))))) else none) else (some ((),(x.1,()))))))
def pdqS {α:Type} (d:α) (N:Nat) (L:(Int×Unit)→Option ((Int×Unit)×Unit)) (Fs:((List α)×(Int×(Int×(Int×(((α×(α×Unit))→(Option (Int×Unit)))×Unit)))))→(Option (Unit×((List α)×Unit)))) (x:((List α)×(Int×(Int×(Int×(((α×(α×Unit))→(Option (Int×Unit)))×Unit)))))):(Option (Unit×((List α)×Unit))):=
 (qZ (S:=((List α)×(Int×(Int×(Int×(Bool×(Bool×Unit))))))) (R:=(Unit×((List α)×Unit))) N (fun ih0=>(fun p1=>(qW (qO .i64 p1.2.2.1 p1.2.1) (fun y2=>(bif (leI y2 12) then (bif (qw (qfA d N (p1.1,(p1.2.1,(p1.2.2.1,(x.2.2.2.2.1,())))))) then (some ((),((qp (qfA d N (p1.1,(p1.2.1,(p1.2.2.1,(x.2.2.2.2.1,()))))) ((),(([]:List α),()))).2.1,()))) else none) else (bif (eqI p1.2.2.2.1 0) then (bif (qw (qpk d N (p1.1,(p1.2.1,(p1.2.2.1,(x.2.2.2.2.1,())))))) then (some ((),((qp (qpk d N (p1.1,(p1.2.1,(p1.2.2.1,(x.2.2.2.2.1,()))))) ((),(([]:List α),()))).2.1,()))) else none) else (bif (bif (!p1.2.2.2.2.1) then (qw (qgl d N L (p1.1,(p1.2.1,(p1.2.2.1,(x.2.2.2.2.1,())))))) else true) then (qW (bif (!p1.2.2.2.2.1) then (qO .i64 p1.2.2.2.1 1) else p1.2.2.2.1) (fun y3=>(bif (qw (qfk d N ((bif (!p1.2.2.2.2.1) then (qp (qgl d N L (p1.1,(p1.2.1,(p1.2.2.1,(x.2.2.2.2.1,()))))) ((),(([]:List α),()))).2.1 else p1.1),(p1.2.1,(p1.2.2.1,(x.2.2.2.2.1,())))))) then (qW (qp (qfk d N ((bif (!p1.2.2.2.2.1) then (qp (qgl d N L (p1.1,(p1.2.1,(p1.2.2.1,(x.2.2.2.2.1,()))))) ((),(([]:List α),()))).2.1 else p1.1),(p1.2.1,(p1.2.2.1,(x.2.2.2.2.1,()))))) ((0,(0,())),(([]:List α),()))).2.1 (fun ys4=>(qW p1.2.1 (fun y5=>(qW p1.2.2.1 (fun y6=>(qW (qp (qfk d N ((bif (!p1.2.2.2.2.1) then (qp (qgl d N L (p1.1,(p1.2.1,(p1.2.2.1,(x.2.2.2.2.1,()))))) ((),(([]:List α),()))).2.1 else p1.1),(p1.2.1,(p1.2.2.1,(x.2.2.2.2.1,()))))) ((0,(0,())),(([]:List α),()))).1.1 (fun y7=>(qW (qp (qfk d N ((bif (!p1.2.2.2.2.1) then (qp (qgl d N L (p1.1,(p1.2.1,(p1.2.2.1,(x.2.2.2.2.1,()))))) ((),(([]:List α),()))).2.1 else p1.1),(p1.2.1,(p1.2.2.1,(x.2.2.2.2.1,()))))) ((0,(0,())),(([]:List α),()))).1.2.1 (fun y8=>(bif (bif (eqI y8 2) then (qw (qbn d N (ys4,(y5,(y6,(x.2.2.2.2.1,())))))) else true) then (qW (bif (eqI y8 2) then (qO .i64 (qO .i64 y6 1) (qO .i64 y7 y5)) else y7) (fun y9=>(qW (bif (eqI y8 2) then 1 else y8) (fun y10=>(qW ((p1.2.2.2.2.1&&p1.2.2.2.2.2.1)&&(eqI y10 1)) (fun y11=>(bif y11 then (bif (qw (qcg d N ((bif (eqI y8 2) then (qp (qbn d N (ys4,(y5,(y6,(x.2.2.2.2.1,()))))) ((),(([]:List α),()))).2.1 else ys4),(y5,(y6,(x.2.2.2.2.1,())))))) then (bif (qp (qcg d N ((bif (eqI y8 2) then (qp (qbn d N (ys4,(y5,(y6,(x.2.2.2.2.1,()))))) ((),(([]:List α),()))).2.1 else ys4),(y5,(y6,(x.2.2.2.2.1,()))))) ((false,()),(([]:List α),()))).1.1 then (some ((),((qp (qcg d N ((bif (eqI y8 2) then (qp (qbn d N (ys4,(y5,(y6,(x.2.2.2.2.1,()))))) ((),(([]:List α),()))).2.1 else ys4),(y5,(y6,(x.2.2.2.2.1,()))))) ((false,()),(([]:List α),()))).2.1,()))) else (bif (((!(ltI 0 y5))||(inB (qO .i64 y5 1) (qn (qp (qcg d N ((bif (eqI y8 2) then (qp (qbn d N (ys4,(y5,(y6,(x.2.2.2.2.1,()))))) ((),(([]:List α),()))).2.1 else ys4),(y5,(y6,(x.2.2.2.2.1,()))))) ((false,()),(([]:List α),()))).2.1)))&&(((!(ltI 0 y5))||(inB y9 (qn (qp (qcg d N ((bif (eqI y8 2) then (qp (qbn d N (ys4,(y5,(y6,(x.2.2.2.2.1,()))))) ((),(([]:List α),()))).2.1 else ys4),(y5,(y6,(x.2.2.2.2.1,()))))) ((false,()),(([]:List α),()))).2.1)))&&((!(ltI 0 y5))||(qw (x.2.2.2.2.1 ((qh (qp (qcg d N ((bif (eqI y8 2) then (qp (qbn d N (ys4,(y5,(y6,(x.2.2.2.2.1,()))))) ((),(([]:List α),()))).2.1 else ys4),(y5,(y6,(x.2.2.2.2.1,()))))) ((false,()),(([]:List α),()))).2.1 (qO .i64 y5 1) d),((qh (qp (qcg d N ((bif (eqI y8 2) then (qp (qbn d N (ys4,(y5,(y6,(x.2.2.2.2.1,()))))) ((),(([]:List α),()))).2.1 else ys4),(y5,(y6,(x.2.2.2.2.1,()))))) ((false,()),(([]:List α),()))).2.1 y9 d),()))))))) then (qW ((ltI 0 y5)&&(!(ltI (qp (x.2.2.2.2.1 ((qh (qp (qcg d N ((bif (eqI y8 2) then (qp (qbn d N (ys4,(y5,(y6,(x.2.2.2.2.1,()))))) ((),(([]:List α),()))).2.1 else ys4),(y5,(y6,(x.2.2.2.2.1,()))))) ((false,()),(([]:List α),()))).2.1 (qO .i64 y5 1) d),((qh (qp (qcg d N ((bif (eqI y8 2) then (qp (qbn d N (ys4,(y5,(y6,(x.2.2.2.2.1,()))))) ((),(([]:List α),()))).2.1 else ys4),(y5,(y6,(x.2.2.2.2.1,()))))) ((false,()),(([]:List α),()))).2.1 y9 d),()))) (0,())).1 0))) (fun y12=>(bif y12 then (bif (qw (qg4 d N ((qp (qcg d N ((bif (eqI y8 2) then (qp (qbn d N (ys4,(y5,(y6,(x.2.2.2.2.1,()))))) ((),(([]:List α),()))).2.1 else ys4),(y5,(y6,(x.2.2.2.2.1,()))))) ((false,()),(([]:List α),()))).2.1,(y5,(y6,(y9,(x.2.2.2.2.1,()))))))) then (qW (qp (qg4 d N ((qp (qcg d N ((bif (eqI y8 2) then (qp (qbn d N (ys4,(y5,(y6,(x.2.2.2.2.1,()))))) ((),(([]:List α),()))).2.1 else ys4),(y5,(y6,(x.2.2.2.2.1,()))))) ((false,()),(([]:List α),()))).2.1,(y5,(y6,(y9,(x.2.2.2.2.1,())))))) ((0,()),(([]:List α),()))).2.1 (fun ys13=>(qW y6 (fun y14=>(qW (qp (qg4 d N ((qp (qcg d N ((bif (eqI y8 2) then (qp (qbn d N (ys4,(y5,(y6,(x.2.2.2.2.1,()))))) ((),(([]:List α),()))).2.1 else ys4),(y5,(y6,(x.2.2.2.2.1,()))))) ((false,()),(([]:List α),()))).2.1,(y5,(y6,(y9,(x.2.2.2.2.1,())))))) ((0,()),(([]:List α),()))).1.1 (fun y15=>(ih0 (ys13,(y15,(y14,(y3,(p1.2.2.2.2.1,(p1.2.2.2.2.2.1,()))))))))))))) else none) else (bif (qw (qe2 d N ((qp (qcg d N ((bif (eqI y8 2) then (qp (qbn d N (ys4,(y5,(y6,(x.2.2.2.2.1,()))))) ((),(([]:List α),()))).2.1 else ys4),(y5,(y6,(x.2.2.2.2.1,()))))) ((false,()),(([]:List α),()))).2.1,(y5,(y6,(y9,(x.2.2.2.2.1,()))))))) then (qW (qp (qe2 d N ((qp (qcg d N ((bif (eqI y8 2) then (qp (qbn d N (ys4,(y5,(y6,(x.2.2.2.2.1,()))))) ((),(([]:List α),()))).2.1 else ys4),(y5,(y6,(x.2.2.2.2.1,()))))) ((false,()),(([]:List α),()))).2.1,(y5,(y6,(y9,(x.2.2.2.2.1,())))))) ((0,(false,())),(([]:List α),()))).2.1 (fun ys13=>(qW y5 (fun y14=>(qW y6 (fun y15=>(qW (qp (qe2 d N ((qp (qcg d N ((bif (eqI y8 2) then (qp (qbn d N (ys4,(y5,(y6,(x.2.2.2.2.1,()))))) ((),(([]:List α),()))).2.1 else ys4),(y5,(y6,(x.2.2.2.2.1,()))))) ((false,()),(([]:List α),()))).2.1,(y5,(y6,(y9,(x.2.2.2.2.1,())))))) ((0,(false,())),(([]:List α),()))).1.1 (fun y16=>(qW (qp (qe2 d N ((qp (qcg d N ((bif (eqI y8 2) then (qp (qbn d N (ys4,(y5,(y6,(x.2.2.2.2.1,()))))) ((),(([]:List α),()))).2.1 else ys4),(y5,(y6,(x.2.2.2.2.1,()))))) ((false,()),(([]:List α),()))).2.1,(y5,(y6,(y9,(x.2.2.2.2.1,())))))) ((0,(false,())),(([]:List α),()))).1.2.1 (fun y17=>(qW (qO .i64 y16 y14) (fun y18=>(qW (qO .i64 y15 y16) (fun y19=>(bif (neI 8 0) then (qW (qom .i64 y2 8) (fun y20=>(bif (bif (ltI y18 y19) then (qw (Fs (ys13,(y14,(y16,(y3,(x.2.2.2.2.1,()))))))) else (qw (Fs (ys13,((qQ .i64 y16 1),(y15,(y3,(x.2.2.2.2.1,())))))))) then (ih0 ((bif (ltI y18 y19) then (qp (Fs (ys13,(y14,(y16,(y3,(x.2.2.2.2.1,())))))) ((),(([]:List α),()))).2.1 else (qp (Fs (ys13,((qQ .i64 y16 1),(y15,(y3,(x.2.2.2.2.1,())))))) ((),(([]:List α),()))).2.1),((bif (ltI y18 y19) then (qQ .i64 y16 1) else y14),((bif (ltI y18 y19) then y15 else y16),(y3,((bif (ltI y18 y19) then (leI y20 y18) else (leI y20 y19)),(y17,()))))))) else none))) else none))))))))))))))) else none)))) else none)) else none) else (bif (((!(ltI 0 y5))||(inB (qO .i64 y5 1) (qn (bif (eqI y8 2) then (qp (qbn d N (ys4,(y5,(y6,(x.2.2.2.2.1,()))))) ((),(([]:List α),()))).2.1 else ys4))))&&(((!(ltI 0 y5))||(inB y9 (qn (bif (eqI y8 2) then (qp (qbn d N (ys4,(y5,(y6,(x.2.2.2.2.1,()))))) ((),(([]:List α),()))).2.1 else ys4))))&&((!(ltI 0 y5))||(qw (x.2.2.2.2.1 ((qh (bif (eqI y8 2) then (qp (qbn d N (ys4,(y5,(y6,(x.2.2.2.2.1,()))))) ((),(([]:List α),()))).2.1 else ys4) (qO .i64 y5 1) d),((qh (bif (eqI y8 2) then (qp (qbn d N (ys4,(y5,(y6,(x.2.2.2.2.1,()))))) ((),(([]:List α),()))).2.1 else ys4) y9 d),()))))))) then (qW ((ltI 0 y5)&&(!(ltI (qp (x.2.2.2.2.1 ((qh (bif (eqI y8 2) then (qp (qbn d N (ys4,(y5,(y6,(x.2.2.2.2.1,()))))) ((),(([]:List α),()))).2.1 else ys4) (qO .i64 y5 1) d),((qh (bif (eqI y8 2) then (qp (qbn d N (ys4,(y5,(y6,(x.2.2.2.2.1,()))))) ((),(([]:List α),()))).2.1 else ys4) y9 d),()))) (0,())).1 0))) (fun y12=>(bif y12 then (bif (qw (qg4 d N ((bif (eqI y8 2) then (qp (qbn d N (ys4,(y5,(y6,(x.2.2.2.2.1,()))))) ((),(([]:List α),()))).2.1 else ys4),(y5,(y6,(y9,(x.2.2.2.2.1,()))))))) then (qW (qp (qg4 d N ((bif (eqI y8 2) then (qp (qbn d N (ys4,(y5,(y6,(x.2.2.2.2.1,()))))) ((),(([]:List α),()))).2.1 else ys4),(y5,(y6,(y9,(x.2.2.2.2.1,())))))) ((0,()),(([]:List α),()))).2.1 (fun ys13=>(qW y6 (fun y14=>(qW (qp (qg4 d N ((bif (eqI y8 2) then (qp (qbn d N (ys4,(y5,(y6,(x.2.2.2.2.1,()))))) ((),(([]:List α),()))).2.1 else ys4),(y5,(y6,(y9,(x.2.2.2.2.1,())))))) ((0,()),(([]:List α),()))).1.1 (fun y15=>(ih0 (ys13,(y15,(y14,(y3,(p1.2.2.2.2.1,(p1.2.2.2.2.2.1,()))))))))))))) else none) else (bif (qw (qe2 d N ((bif (eqI y8 2) then (qp (qbn d N (ys4,(y5,(y6,(x.2.2.2.2.1,()))))) ((),(([]:List α),()))).2.1 else ys4),(y5,(y6,(y9,(x.2.2.2.2.1,()))))))) then (qW (qp (qe2 d N ((bif (eqI y8 2) then (qp (qbn d N (ys4,(y5,(y6,(x.2.2.2.2.1,()))))) ((),(([]:List α),()))).2.1 else ys4),(y5,(y6,(y9,(x.2.2.2.2.1,())))))) ((0,(false,())),(([]:List α),()))).2.1 (fun ys13=>(qW y5 (fun y14=>(qW y6 (fun y15=>(qW (qp (qe2 d N ((bif (eqI y8 2) then (qp (qbn d N (ys4,(y5,(y6,(x.2.2.2.2.1,()))))) ((),(([]:List α),()))).2.1 else ys4),(y5,(y6,(y9,(x.2.2.2.2.1,())))))) ((0,(false,())),(([]:List α),()))).1.1 (fun y16=>(qW (qp (qe2 d N ((bif (eqI y8 2) then (qp (qbn d N (ys4,(y5,(y6,(x.2.2.2.2.1,()))))) ((),(([]:List α),()))).2.1 else ys4),(y5,(y6,(y9,(x.2.2.2.2.1,())))))) ((0,(false,())),(([]:List α),()))).1.2.1 (fun y17=>(qW (qO .i64 y16 y14) (fun y18=>(qW (qO .i64 y15 y16) (fun y19=>(bif (neI 8 0) then (qW (qom .i64 y2 8) (fun y20=>(bif (bif (ltI y18 y19) then (qw (Fs (ys13,(y14,(y16,(y3,(x.2.2.2.2.1,()))))))) else (qw (Fs (ys13,((qQ .i64 y16 1),(y15,(y3,(x.2.2.2.2.1,())))))))) then (ih0 ((bif (ltI y18 y19) then (qp (Fs (ys13,(y14,(y16,(y3,(x.2.2.2.2.1,())))))) ((),(([]:List α),()))).2.1 else (qp (Fs (ys13,((qQ .i64 y16 1),(y15,(y3,(x.2.2.2.2.1,())))))) ((),(([]:List α),()))).2.1),((bif (ltI y18 y19) then (qQ .i64 y16 1) else y14),((bif (ltI y18 y19) then y15 else y16),(y3,((bif (ltI y18 y19) then (leI y20 y18) else (leI y20 y19)),(y17,()))))))) else none))) else none))))))))))))))) else none)))) else none)))))))) else none))))))))))) else none))) else none))))))) (x.1,(x.2.1,(x.2.2.1,(x.2.2.2.1,(true,(true,())))))))
def pdqG {α:Type} (d:α) (N:Nat) (L:(Int×Unit)→Option ((Int×Unit)×Unit)) (M:Nat):((List α)×(Int×(Int×(Int×(((α×(α×Unit))→(Option (Int×Unit)))×Unit)))))→(Option (Unit×((List α)×Unit))):=
 Nat.rec (motive:=fun _=>((List α)×(Int×(Int×(Int×(((α×(α×Unit))→(Option (Int×Unit)))×Unit)))))→(Option (Unit×((List α)×Unit)))) (fun _=>none) (fun _ Fs=>pdqS d N L Fs) M
def qsf {α:Type} (d:α) (N:Nat) (L:(Int×Unit)→Option ((Int×Unit)×Unit)) (x:((List α)×(((α×(α×Unit))→(Option (Int×Unit)))×Unit))):(Option (Unit×((List α)×Unit))):=
 (qW (qn x.1) (fun y0=>(bif ((qw (L ((qcr .u64 y0),())))&&(qw (pdqG d N L N (x.1,(0,(y0,((qp (L ((qcr .u64 y0),())) ((0,()),())).1.1,(x.2.1,())))))))) then (some ((),((qp (pdqG d N L N (x.1,(0,(y0,((qp (L ((qcr .u64 y0),())) ((0,()),())).1.1,(x.2.1,())))))) ((),(([]:List α),()))).2.1,()))) else none)))
theorem qa2 {S R:Type} {st:(S→Option R)→S→Option R} (μ:S→Nat) (I:S→Prop) (Q:Option R→Prop)
  (hs:∀ih p,I p→(∀q,I q→μ q<μ p→Q (ih q))→Q (st ih p)):∀(N:Nat) (p:S),I p→μ p<N→Q (qZ N st p)
 |0,p,_,h=>by omega
 |N+1,p,hI,h=>by
  rw [qam]
  exact hs _ p hI fun q hq hm=>qa2 μ I Q hs N q hq (by omega)
structure Cmp {α:Type} (P:α→Prop) (φ:(α×(α×Unit))→Option (Int×Unit)) (le:α→α→Prop):Prop where
 ans:∀a b,P a→P b→∃c,φ (a,(b,()))=some (c,())∧(c<0↔¬le b a)
 tot:∀a b,P a→P b→le a b∨le b a
 trans:∀a b c,P a→P b→P c→le a b→le b c→le a c
section
variable {α:Type} {P:α→Prop} {n:Nat} (d:α) {φ:(α×(α×Unit))→Option (Int×Unit)} {le:α→α→Prop} {N:Nat}
theorem Cmp.refl (h:Cmp P φ le) {a:α} (ha:P a):le a a:=(h.tot a a ha ha).elim id id
structure Seg (d:α) (n:Nat) (a b:Int) (xs ys:List α):Prop where
 perm:ys.Perm xs
 out:∀k:Int,0≤k→k<(n:Int)→(k<a∨b≤k)→qh ys k d=qh xs k d
 inn:∀k:Int,a≤k→k<b→∃m,a≤m∧m<b∧qh ys k d=qh xs m d
theorem Seg.refl (a b:Int) (xs:List α):Seg d n a b xs xs:=⟨.refl _,fun _ _ _ _=>rfl,fun k h1 h2=>⟨k,h1,h2,rfl⟩⟩
theorem Seg.trans {a b:Int} {xs ys zs:List α} (h1:Seg d n a b xs ys) (h2:Seg d n a b ys zs):Seg d n a b xs zs:=
 ⟨h2.perm.trans h1.perm,fun k q1 q2 q3=>(h2.out k q1 q2 q3).trans (h1.out k q1 q2 q3),fun k q1 q2=>by
  obtain ⟨m,m1,m2,m3⟩:=h2.inn k q1 q2
  obtain ⟨l,l1,l2,l3⟩:=h1.inn m m1 m2
  exact ⟨l,l1,l2,m3.trans l3⟩⟩
theorem Seg.mono {a b a' b':Int} {xs ys:List α} (h:Seg d n a b xs ys) (h0:0≤a') (hn:b'≤(n:Int)) (ha:a'≤a) (hb:b≤b'):Seg d n a' b' xs ys:=
 ⟨h.perm,fun k q1 q2 q3=>h.out k q1 q2 (by omega),fun k q1 q2=>by
  by_cases hk:a≤k∧k<b
  ·obtain ⟨m,m1,m2,m3⟩:=h.inn k hk.1 hk.2
   exact ⟨m,by omega,by omega,m3⟩
  ·exact ⟨k,q1,q2,h.out k (by omega) (by omega) (by omega)⟩⟩
theorem Seg.ck {a b:Int} {xs ys:List α} (h:Seg d n a b xs ys) (hx:Ck P n xs):Ck P n ys:=
 ⟨by rw [h.perm.length_eq]; exact hx.len,fun x q=>hx.all x (h.perm.mem_iff.1 q)⟩
theorem qon {xs:List α} (hl:xs.length=n) {i k:Int} (h0:0≤i) (h1:i<(n:Int)) (h2:0≤k) (v:α):qh (qbN xs i v) k d=if k=i then v else qh xs k d:=by
 rw [qb8,qb8,qcd]
 by_cases h:k=i
 ·subst h
  rw [if_pos rfl,List.getD_eq_getElem?_getD,List.getElem?_set_self (by omega)]
  rfl
 ·rw [if_neg h,List.getD_eq_getElem?_getD,List.getD_eq_getElem?_getD,List.getElem?_set_ne (by omega)]
def swp (xs:List α) (i j:Int):List α:=qbN (qbN xs i (qh xs j d)) j (qh xs i d)
theorem qfq {xs:List α} (hl:xs.length=n) {i j:Int} (i0:0≤i) (i1:i<(n:Int)) (j0:0≤j) (j1:j<(n:Int)) (k:Int) (h2:0≤k):qh (swp d xs i j) k d=if k=j then qh xs i d else if k=i then qh xs j d else qh xs k d:=by
 unfold swp
 rw [qon d (n:=n) (by rw [qcd,List.length_set]; exact hl) j0 j1 h2,qon d hl i0 i1 h2]
theorem qd6 {xs:List α} (hl:xs.length=n) {a b i j:Int} (a0:0≤a) (bn:b≤(n:Int)) (i0:a≤i) (i1:i<b) (j0:a≤j) (j1:j<b):Seg d n a b xs (swp d xs i j):=by
 have g:=qfq d hl (i:=i) (j:=j) (by omega) (by omega) (by omega) (by omega)
 refine ⟨?_,fun k q1 q2 q3=> ?_,fun k q1 q2=> ?_⟩
 ·unfold swp
  have hi:i.toNat<xs.length:=by omega
  have hj:j.toNat<xs.length:=by omega
  have e1:qh xs i d=xs[i.toNat]:=by rw [qb8,List.getD_eq_getElem?_getD,List.getElem?_eq_getElem hi]; rfl
  have e2:qh xs j d=xs[j.toNat]:=by rw [qb8,List.getD_eq_getElem?_getD,List.getElem?_eq_getElem hj]; rfl
  rw [e1,e2,qcd,qcd]
  exact List.set_set_perm hi hj
 ·rw [g k q1,if_neg (by omega),if_neg (by omega)]
 ·rw [g k (by omega)]
  by_cases h1:k=j
  ·exact ⟨i,i0,i1,by rw [if_pos h1]⟩
  ·by_cases h2:k=i
   ·exact ⟨j,j0,j1,by rw [if_neg h1,if_pos h2]⟩
   ·exact ⟨k,q1,q2,by rw [if_neg h1,if_neg h2]⟩
theorem swp_inB (xs:List α) (i j k:Int) (v w:α):inB k (qn (qbN (qbN xs i v) j w))=inB k (qn xs):=by
 rw [qca,qca,qi,qi,qcd,qcd,List.length_set,List.length_set]
theorem qec (xs:List α) (i k:Int) (v:α):inB k (qn (qbN xs i v))=inB k (qn xs):=by
 rw [qca,qca,qi,qi,qcd,List.length_set]
def Srt (d:α) (le:α→α→Prop) (a b:Int) (xs:List α):Prop:=∀i j,a≤i→i≤j→j<b→le (qh xs i d) (qh xs j d)
def qpj (P:α→Prop) (d:α) (n:Nat) (le:α→α→Prop) (a b:Int) (xs:List α) (r:Option (Unit×(List α×Unit))):Prop:=∃out,r=some ((),(out,()))∧Seg d n a b xs out∧Srt d le a b out
theorem qqS (hφ:Cmp P φ le) (hn:n≤1099511627776) (hN:n+1<N) {xs:List α} (h:Ck P n xs) {a b:Int} (ha:0≤a) (ha2:a≤(n:Int)) (hb:b≤(n:Int)):qpj P d n le a b xs (qfA d N (xs,(a,(b,(φ,()))))):=by
 simp only [qfA]
 have ea:qQ .i64 a 1=a+1:=qaz (by omega) (by omega)
 rw [ea]
 by_cases hab:¬a<b
 ·obtain ⟨M,rfl⟩:∃M,N=M+1:=⟨N - 1,by omega⟩
  rw [qam]
  simp only [ltF (show ¬a+1<b by omega),cond_false]
  exact ⟨xs,rfl,.refl d a b xs,fun i j h1 h2 h3=>by omega⟩
 refine qa2 (S:=List α×(Int×Unit)) (fun p=>(b - p.2.1).toNat) (fun p=>Seg d n a b xs p.1∧a+1≤p.2.1∧p.2.1≤(n:Int)+1∧Srt d le a p.2.1 p.1) (qpj P d n le a b xs) ?_ N _ ⟨.refl d a b xs,by simp only; omega,by simp only; omega,fun i j h1 h2 h3=>by
  simp only at h3
  have:i=j:=by omega
  subst this
  exact hφ.refl (h.get d (by omega) (by omega))⟩ (by simp only; omega)
 rintro ih ⟨ys,i,⟨⟩⟩ ⟨hs,hi,hi2,hsrt⟩ hih
 simp only at hs hi hi2 hsrt hih⊢
 by_cases hc:i<b
 ·simp only [ltT hc,cond_true]
  refine qa2 (S:=List α×(Int×Unit)) (fun p=>(p.2.1 - a).toNat) (fun p=>Seg d n a b xs p.1∧a≤p.2.1∧p.2.1≤i∧∀x y,a≤x→x<y→y≤i→y≠p.2.1→le (qh p.1 x d) (qh p.1 y d)) (qpj P d n le a b xs) ?_ N _ ⟨hs,by simp only; omega,by simp only; omega,fun x y h1 h2 h3 h4=>hsrt x y h1 (by omega) (by simp only at h4⊢; omega)⟩ (by simp only; omega)
  rintro jh ⟨zs,j,⟨⟩⟩ ⟨hz,hj1,hj2,hord⟩ hjh
  simp only at hz hj1 hj2 hord hjh⊢
  have hzc:=hz.ck d h
  have ei:qQ .i64 i 1=i+1:=qaz (by omega) (by omega)
  have fin:(a<j→le (qh zs (j - 1) d) (qh zs j d))→Srt d le a (i+1) zs:=fun hle x y h1 h2 h3=>by
   by_cases hxy:x=y
   ·subst hxy; exact hφ.refl (hzc.get d (by omega) (by omega))
   by_cases hyj:y=j
   ·subst hyj
    by_cases hx:x=y - 1
    ·rw [hx]; exact hle (by omega)
    ·exact hφ.trans _ _ _ (hzc.get d (by omega) (by omega)) (hzc.get d (i:=y - 1) (by omega) (by omega)) (hzc.get d (by omega) (by omega)) (hord x (y - 1) h1 (by omega) (by omega) (by omega)) (hle (by omega))
   ·exact hord x y h1 (by omega) (by omega) hyj
  by_cases hja:a<j
  ·have s1:qO .i64 j 1=j - 1:=qax (by omega) (by omega)
   have pj:=hzc.get d (i:=j) (by omega) (by omega)
   have pk:=hzc.get d (i:=j - 1) (by omega) (by omega)
   obtain ⟨c,e1,e3⟩:=hφ.ans _ _ pj pk
   have b1:=hzc.inB (i:=j) (by omega) (by omega)
   have b2:=hzc.inB (i:=j - 1) (by omega) (by omega)
   simp only [ltT hja,s1,b1,b2,e1,qg,qj,Bool.not_true,Bool.false_or,Bool.and_self,cond_true,Bool.true_and,qec]
   by_cases hc0:c<0
   ·simp only [ltT hc0,cond_true]
    have hnle:=e3.1 hc0
    have hle:le (qh zs j d) (qh zs (j - 1) d):=(hφ.tot _ _ pj pk).elim id (fun q=>absurd q hnle)
    have hsg:=qd6 d hzc.len (a:=a) (b:=b) (i:=j) (j:=j - 1) ha hb (by omega) (by omega) (by omega) (by omega)
    have g:=qfq d hzc.len (i:=j) (j:=j - 1) (by omega) (by omega) (by omega) (by omega)
    refine hjh (swp d zs j (j - 1),(j - 1,())) ⟨hz.trans d hsg,by simp only; omega,by simp only; omega,fun x y h1 h2 h3 h4=> ?_⟩ (by simp only; omega)
    simp only at h4⊢
    rw [g x (by omega),g y (by omega)]
    rw [if_neg h4]
    by_cases hy:y=j
    ·rw [if_pos hy]
     by_cases hx:x=j - 1
     ·rw [if_pos hx]; exact hle
     ·rw [if_neg hx,if_neg (by omega)]; exact hord x (j - 1) h1 (by omega) (by omega) (by omega)
    ·rw [if_neg hy]
     by_cases hx:x=j - 1
     ·rw [if_pos hx]; exact hord j y (by omega) (by omega) h3 hy
     ·rw [if_neg hx]
      by_cases hx2:x=j
      ·rw [if_pos hx2]; exact hord (j - 1) y (by omega) (by omega) h3 hy
      ·rw [if_neg hx2]; exact hord x y h1 h2 h3 hy
   ·simp only [ltF hc0,cond_false,ei]
    have hle:le (qh zs (j - 1) d) (qh zs j d):=Classical.byContradiction fun q=>hc0 (e3.2 q)
    exact hih _ ⟨hz,by simp only; omega,by simp only; omega,fin fun _=>hle⟩ (by simp only; omega)
  ·simp only [ltF hja,Bool.not_false,Bool.true_or,Bool.and_self,cond_true,Bool.false_and,cond_false,ei]
   exact hih _ ⟨hz,by simp only; omega,by simp only; omega,fin fun q=>absurd q hja⟩ (by simp only; omega)
 ·simp only [ltF hc,cond_false]
  exact ⟨ys,rfl,hs,fun x y h1 h2 h3=>hsrt x y h1 h2 (by omega)⟩
def quc (d:α) (le:α→α→Prop) (f hi:Int) (ys:List α) (k:Int):Prop:=(2 * k+1<hi→le (qh ys (f+(2 * k+1)) d) (qh ys (f+k) d))∧(2 * k+2<hi→le (qh ys (f+(2 * k+2)) d) (qh ys (f+k) d))
theorem quC (hφ:Cmp P φ le) {ys:List α} (h:Ck P n ys) {f hi:Int} (f0:0≤f) (fn:f+hi≤(n:Int)) (hp:∀k,0≤k→k<hi→quc d le f hi ys k):∀(m:Nat),(m:Int)<hi→le (qh ys (f+m) d) (qh ys (f+0) d):=by
 intro m
 induction m using Nat.strongRecOn with
 |ind m ih=>
  intro hm
  by_cases h0:m=0
  ·subst h0; exact hφ.refl (h.get d (by omega) (by omega))
  ·have hpp:=hp (((m - 1) / 2:Nat):Int) (by omega) (by omega)
   have ihp:=ih ((m - 1) / 2) (by omega) (by omega)
   refine hφ.trans _ _ _ (h.get d (by omega) (by omega)) (h.get d (i:=f+(((m - 1) / 2:Nat):Int)) (by omega) (by omega)) (h.get d (by omega) (by omega)) ?_ ihp
   rcases Nat.mod_two_eq_zero_or_one (m - 1) with hq|hq
   ·have:=hpp.1 (by omega)
    rwa [show f+(2 * (((m - 1) / 2:Nat):Int)+1)=f+(m:Int) by omega] at this
   ·have:=hpp.2 (by omega)
    rwa [show f+(2 * (((m - 1) / 2:Nat):Int)+2)=f+(m:Int) by omega] at this
structure Sft (d:α) (le:α→α→Prop) (f lo hi:Int) (ys:List α) (r:Int):Prop where
 rest:∀k,lo≤k→k<hi→k≠r→quc d le f hi ys k
 up:∀p,lo≤p→(2 * p+1=r∨2 * p+2=r)→(2 * r+1<hi→le (qh ys (f+(2 * r+1)) d) (qh ys (f+p) d))∧(2 * r+2<hi→le (qh ys (f+(2 * r+2)) d) (qh ys (f+p) d))
theorem Sft.done {f lo hi:Int} {ys:List α} {r:Int} (h:Sft d le f lo hi ys r) (hr:quc d le f hi ys r):∀k,lo≤k→k<hi→quc d le f hi ys k:=fun k h1 h2=>by
 by_cases hk:k=r
 ·rw [hk]; exact hr
 ·exact h.rest k h1 h2 hk
theorem Sft.step (hφ:Cmp P φ le) {ys:List α} (hc:Ck P n ys) {f lo hi:Int} (f0:0≤f) (fn:f+hi≤(n:Int)) (l0:0≤lo) {r c:Int} (h:Sft d le f lo hi ys r) (hr:lo≤r) (hcr:c=2 * r+1∨c=2 * r+2) (hch:c<hi)
  (hle:le (qh ys (f+r) d) (qh ys (f+c) d)) (hmax:∀o,(o=2 * r+1∨o=2 * r+2)→o<hi→le (qh ys (f+o) d) (qh ys (f+c) d)):Sft d le f lo hi (swp d ys (f+r) (f+c)) c:=by
 have g:=qfq d hc.len (i:=f+r) (j:=f+c) (by omega) (by omega) (by omega) (by omega)
 have gc:qh (swp d ys (f+r) (f+c)) (f+c) d=qh ys (f+r) d:=by rw [g _ (by omega),if_pos rfl]
 have gr:qh (swp d ys (f+r) (f+c)) (f+r) d=qh ys (f+c) d:=by rw [g _ (by omega),if_neg (by omega),if_pos rfl]
 have go:∀k,0≤k→k≠r→k≠c→qh (swp d ys (f+r) (f+c)) (f+k) d=qh ys (f+k) d:=fun k h0 h1 h2=>by rw [g _ (by omega),if_neg (by omega),if_neg (by omega)]
 have key:∀k,lo≤k→k<hi→k≠c→∀o,(o=2 * k+1∨o=2 * k+2)→o<hi→le (qh (swp d ys (f+r) (f+c)) (f+o) d) (qh (swp d ys (f+r) (f+c)) (f+k) d):=fun k k1 k2 k3 o ho oh=>by
  by_cases hk:k=r
  ·subst hk
   rw [gr]
   by_cases hoc:o=c
   ·rw [hoc,gc]; exact hle
   ·rw [go o (by omega) (by omega) hoc]; exact hmax o ho oh
  ·have hold:=h.rest k k1 k2 hk
   by_cases hor:o=r
   ·rw [hor,gr,go k (by omega) hk k3]
    have hu:=h.up k k1 (by omega)
    rcases hcr with q|q
    ·rw [q]; exact hu.1 (by omega)
    ·rw [q]; exact hu.2 (by omega)
   ·rw [go o (by omega) hor (by omega),go k (by omega) hk k3]
    rcases ho with q|q
    ·rw [q]; exact hold.1 (by omega)
    ·rw [q]; exact hold.2 (by omega)
 refine ⟨fun k k1 k2 k3=>⟨fun q=>key k k1 k2 k3 _ (.inl rfl) q,fun q=>key k k1 k2 k3 _ (.inr rfl) q⟩,fun p p1 p2=> ?_⟩
 have hp:p=r:=by omega
 subst hp
 have hold:=h.rest c (by omega) hch (by omega)
 rw [gr]
 exact ⟨fun q=>by rw [go _ (by omega) (by omega) (by omega)]; exact hold.1 q,fun q=>by rw [go _ (by omega) (by omega) (by omega)]; exact hold.2 q⟩
theorem qoR (hφ:Cmp P φ le) (hn:n≤1099511627776) (hN:n+1<N) {xs:List α} (h:Ck P n xs) {f lo hi:Int} (f0:0≤f) (l0:0≤lo) (lh:lo≤hi) (fn:f+hi≤(n:Int)) (hp:∀k,lo<k→k<hi→quc d le f hi xs k):
  ∃out,qkv d N (xs,(lo,(hi,(f,(φ,())))))=some ((),(out,()))∧Seg d n (f+lo) (f+hi) xs out∧∀k,lo≤k→k<hi→quc d le f hi out k:=by
 simp only [qkv,qI]
 refine qa2 (S:=List α×(Int×Unit)) (fun p=>(hi - p.2.1).toNat) (fun p=>Seg d n (f+lo) (f+hi) xs p.1∧lo≤p.2.1∧p.2.1≤hi∧Sft d le f lo hi p.1 p.2.1) (fun r=>∃out,r=some ((),(out,()))∧Seg d n (f+lo) (f+hi) xs out∧∀k,lo≤k→k<hi→quc d le f hi out k) ?_ N _ ⟨.refl d _ _ xs,by simp only; omega,by simp only; omega,fun k k1 k2 k3=>hp k (by simp only at k3; omega) k2,fun p p1 p2=>by simp only at p2; omega⟩ (by simp only; omega)
 rintro ih ⟨ys,r,⟨⟩⟩ ⟨hs,hr,hrh,hsf⟩ hih
 simp only at hs hr hrh hsf hih⊢
 have hc:=hs.ck d h
 have e1:qmn .i64 2 r=2 * r:=by rw [qed,qdk (by omega) (by omega)]
 have e2:qQ .i64 (2 * r) 1=2 * r+1:=qaz (by omega) (by omega)
 simp only [e1,e2]
 by_cases q:hi≤2 * r+1
 ·simp only [leT q,cond_true]
  exact ⟨ys,rfl,hs,hsf.done d ⟨fun w=>by omega,fun w=>by omega⟩⟩
 have e3:qQ .i64 (2 * r+1) 1=2 * r+2:=by rw [qaz (by omega) (by omega)]; omega
 have e4:qQ .i64 f (2 * r+1)=f+(2 * r+1):=qaz (by omega) (by omega)
 have e5:qQ .i64 (f+(2 * r+1)) 1=f+(2 * r+2):=by rw [qaz (by omega) (by omega)]; omega
 have e6:qQ .i64 f r=f+r:=qaz (by omega) (by omega)
 have b1:=hc.inB (i:=f+(2 * r+1)) (by omega) (by omega)
 have b0:=hc.inB (i:=f+r) (by omega) (by omega)
 have p1:=hc.get d (i:=f+(2 * r+1)) (by omega) (by omega)
 have p0:=hc.get d (i:=f+r) (by omega) (by omega)
 simp only [leF q,cond_false,e3,e4,e5,e6]
 obtain ⟨c,hc1,hc2,hcx,w1,w2⟩:∃c,(c=2 * r+1∨c=2 * r+2)∧c<hi∧(∀o,(o=2 * r+1∨o=2 * r+2)→o<hi→le (qh ys (f+o) d) (qh ys (f+c) d))∧
   ((!ltI (2 * r+2) hi||inB (f+(2 * r+1)) (qn ys))&&((!ltI (2 * r+2) hi||inB (f+(2 * r+2)) (qn ys))&&(!ltI (2 * r+2) hi||qw (φ (qh ys (f+(2 * r+1)) d,(qh ys (f+(2 * r+2)) d,()))))))=true∧
   (bif (ltI (2 * r+2) hi&&ltI (qp (φ (qh ys (f+(2 * r+1)) d,(qh ys (f+(2 * r+2)) d,()))) (0,())).1 0) then 2 * r+2 else 2 * r+1)=c:=by
  by_cases q2:2 * r+2<hi
  ·have b2:=hc.inB (i:=f+(2 * r+2)) (by omega) (by omega)
   have p2:=hc.get d (i:=f+(2 * r+2)) (by omega) (by omega)
   obtain ⟨c,a1,a2⟩:=hφ.ans _ _ p1 p2
   by_cases q3:c<0
   ·have hle:=(hφ.tot _ _ p1 p2).elim id (fun w=>absurd w (a2.1 q3))
    exact ⟨2 * r+2,.inr rfl,q2,fun o ho _=>by
     rcases ho with w|w
     ·rw [w]; exact hle
     ·rw [w]; exact hφ.refl p2,by simp only [ltT q2,b1,b2,a1,qg,Bool.not_true,Bool.false_or,Bool.and_self,qj,ltT q3,cond_true,and_self]⟩
   ·have hle:le (qh ys (f+(2 * r+2)) d) (qh ys (f+(2 * r+1)) d):=Classical.byContradiction fun w=>q3 (a2.2 w)
    exact ⟨2 * r+1,.inl rfl,by omega,fun o ho _=>by
     rcases ho with w|w
     ·rw [w]; exact hφ.refl p1
     ·rw [w]; exact hle,by simp only [ltT q2,b1,b2,a1,qg,Bool.not_true,Bool.false_or,Bool.and_self,qj,ltF q3,Bool.and_false,cond_false,and_self]⟩
  ·exact ⟨2 * r+1,.inl rfl,by omega,fun o ho w=>by
    rcases ho with w2|w2
    ·rw [w2]; exact hφ.refl p1
    ·omega,by simp only [ltF q2,Bool.not_false,Bool.true_or,Bool.and_self,Bool.false_and,cond_false,and_self]⟩
 have e7:qQ .i64 f c=f+c:=qaz (by omega) (by omega)
 have bc:=hc.inB (i:=f+c) (by omega) (by omega)
 have pc:=hc.get d (i:=f+c) (by omega) (by omega)
 obtain ⟨v,a1,a2⟩:=hφ.ans _ _ p0 pc
 simp only [w1,w2,cond_true,e7,b0,bc,a1,qg,qj,Bool.and_self,qec]
 by_cases q3:v<0
 ·have hle:=(hφ.tot _ _ p0 pc).elim id (fun w=>absurd w (a2.1 q3))
  simp only [ltT q3,Bool.not_true,cond_false]
  exact hih (swp d ys (f+r) (f+c),(c,())) ⟨hs.trans d (qd6 d hc.len (by omega) fn (by omega) (by omega) (by omega) (by omega)),by simp only; omega,by simp only; omega,hsf.step d hφ hc f0 fn l0 hr hc1 hc2 hle hcx⟩ (by simp only; omega)
 ·have hle:le (qh ys (f+c) d) (qh ys (f+r) d):=Classical.byContradiction fun w=>q3 (a2.2 w)
  simp only [ltF q3,Bool.not_false,cond_true]
  refine ⟨ys,rfl,hs,hsf.done d ⟨fun w=> ?_,fun w=> ?_⟩⟩
  ·exact hφ.trans _ _ _ p1 pc p0 (hcx _ (.inl rfl) w) hle
  ·exact hφ.trans _ _ _ (hc.get d (i:=f+(2 * r+2)) (by omega) (by omega)) pc p0 (hcx _ (.inr rfl) w) hle
theorem qtQ (hφ:Cmp P φ le) (hn:n≤1099511627776) (hN:n+1<N) {xs:List α} (h:Ck P n xs) {a b:Int} (ha:0≤a) (hab:a<b) (hb:b≤(n:Int)):qpj P d n le a b xs (qpk d N (xs,(a,(b,(φ,()))))):=by
 have e1:qO .i64 b a=b - a:=qax (by omega) (by omega)
 have e2:qO .i64 (b - a) 1=b - a - 1:=qax (by omega) (by omega)
 have e3:qom .i64 (b - a - 1) 2=(b - a - 1) / 2:=by
  rw [qia,Int.tdiv_eq_ediv_of_nonneg (by omega),qdk (by omega) (by omega)]
 simp only [qpk,qI,e1,e2,e3,neT (show ¬(2:Int)=0 by omega),cond_true]
 generalize hhi:b - a=hi at *
 refine qa2 (S:=List α×(Int×Unit)) (fun p=>(p.2.1+1).toNat) (fun p=>Seg d n a b xs p.1∧ -1≤p.2.1∧p.2.1<hi∧∀k,p.2.1<k→k<hi→quc d le a hi p.1 k) (qpj P d n le a b xs) ?_ N _ ⟨.refl d _ _ xs,by simp only; omega,by simp only; omega,fun k k1 k2=>⟨fun w=>by simp only at k1; omega,fun w=>by simp only at k1; omega⟩⟩ (by simp only; omega)
 rintro ih ⟨ys,i,⟨⟩⟩ ⟨hs,hi0,hi1,hhp⟩ hih
 simp only at hs hi0 hi1 hhp hih⊢
 have hc:=hs.ck d h
 by_cases q:0≤i
 ·obtain ⟨out,r1,r2,r3⟩:=qoR d hφ hn hN hc ha q (by omega:i≤hi) (by omega) (fun k k1 k2=>hhp k k1 k2)
  have e4:qO .i64 i 1=i - 1:=qax (by omega) (by omega)
  simp only [leT q,cond_true,r1,qg,qj,e4]
  exact hih _ ⟨hs.trans d (r2.mono d ha hb (by omega) (by omega)),by simp only; omega,by simp only; omega,fun k k1 k2=>r3 k (by simp only at k1; omega) k2⟩ (by simp only; omega)
 simp only [leF q,cond_false]
 refine qa2 (S:=List α×(Int×Unit)) (fun p=>(p.2.1+1).toNat) (fun p=>Seg d n a b xs p.1∧ -1≤p.2.1∧p.2.1<hi∧(∀k,0≤k→k<p.2.1+1→quc d le a (p.2.1+1) p.1 k)∧∀x y,0≤x→x<y→y<hi→p.2.1<y→le (qh p.1 (a+x) d) (qh p.1 (a+y) d)) (qpj P d n le a b xs) ?_ N _ ⟨hs,by simp only; omega,by simp only; omega,fun k k1 k2=>by
  have hk:=hhp k (by omega) (by simp only at k2; omega)
  have e:hi - 1+1=hi:=by omega
  simp only [e]
  exact hk,fun x y h1 h2 h3 h4=>by simp only at h4; omega⟩ (by simp only; omega)
 rintro jh ⟨zs,j,⟨⟩⟩ ⟨hz,hj0,hj1,hheap,htail⟩ hjh
 simp only at hz hj0 hj1 hheap htail hjh⊢
 have hzc:=hz.ck d h
 by_cases q2:0≤j
 ·have e4:qO .i64 j 1=j - 1:=qax (by omega) (by omega)
  have e5:qQ .i64 a j=a+j:=qaz (by omega) (by omega)
  have b1:=hzc.inB (i:=a+j) (by omega) (by omega)
  have b0:=hzc.inB (i:=a) (by omega) (by omega)
  have hsw:=qd6 d hzc.len (a:=a) (b:=a+j+1) (i:=a) (j:=a+j) ha (by omega) (by omega) (by omega) (by omega) (by omega)
  have g:=qfq d hzc.len (i:=a) (j:=a+j) (by omega) (by omega) (by omega) (by omega)
  have hwc:=hsw.ck d hzc
  have hmax:=quC d hφ hzc ha (hi:=j+1) (by omega) hheap
  have hmax':∀x,0≤x→x≤j→le (qh zs (a+x) d) (qh zs a d):=fun x x0 x1=>by
   obtain ⟨m,rfl⟩:∃m:Nat,x=(m:Int):=⟨x.toNat,by omega⟩
   have:=hmax m (by omega)
   rwa [show a+0=a by omega] at this
  obtain ⟨out,r1,r2,r3⟩:=qoR d hφ hn hN hwc ha (Int.le_refl 0) (by omega:(0:Int)≤j) (by omega) (fun k k1 k2=>by
   have hk:=hheap k (by omega) (by omega)
   refine ⟨fun w=> ?_,fun w=> ?_⟩
   ·rw [g _ (by omega),g _ (by omega),if_neg (by omega),if_neg (by omega),if_neg (by omega),if_neg (by omega)]; exact hk.1 (by omega)
   ·rw [g _ (by omega),g _ (by omega),if_neg (by omega),if_neg (by omega),if_neg (by omega),if_neg (by omega)]; exact hk.2 (by omega))
  simp only [leT q2,cond_true,e4,e5,b0,b1,qec,Bool.and_self]
  have r1':qkv d N (qbN (qbN zs a (qh zs (a+j) d)) (a+j) (qh zs a d),(0,(j,(a,(φ,())))))=some ((),(out,())):=r1
  simp only [r1',qg,qj,cond_true]
  refine hjh _ ⟨hz.trans d ((hsw.mono d ha hb (by omega) (by omega)).trans d (r2.mono d ha hb (by omega) (by omega))),by simp only; omega,by simp only; omega,fun k k1 k2=> ?_,fun x y x0 xy yh yj=> ?_⟩ (by simp only; omega)
  ·have e:j - 1+1=j:=by omega
   simp only [e]
   exact r3 k k1 (by simp only at k2; omega)
  ·simp only at yj⊢
   have gy:qh out (a+y) d=qh (swp d zs a (a+j)) (a+y) d:=r2.out _ (by omega) (by omega) (.inr (by omega))
   obtain ⟨x',x'0,x'y,hx'⟩:∃x',0≤x'∧(x'<j∨(x'=x∧j≤x))∧qh out (a+x) d=qh (swp d zs a (a+j)) (a+x') d:=by
    by_cases hxj:x<j
    ·obtain ⟨m,m1,m2,m3⟩:=r2.inn (a+x) (by omega) (by omega)
     exact ⟨m - a,by omega,.inl (by omega),by rw [m3]; congr 1; omega⟩
    ·exact ⟨x,x0,.inr ⟨rfl,by omega⟩,r2.out _ (by omega) (by omega) (.inr (by omega))⟩
   rw [hx',gy,g _ (by omega),g _ (by omega)]
   by_cases hyj:y=j
   ·rw [if_pos (by omega:a+y=a+j)]
    rw [if_neg (by omega:¬a+x'=a+j)]
    by_cases hx0:x'=0
    ·rw [if_pos (by omega:a+x'=a)]; exact hmax' j q2 (Int.le_refl j)
    ·rw [if_neg (by omega:¬a+x'=a)]; exact hmax' x' x'0 (by omega)
   ·rw [if_neg (by omega:¬a+y=a+j),if_neg (by omega:¬a+y=a)]
    by_cases hxj:x'=j
    ·rw [if_pos (by omega:a+x'=a+j)]
     have:=htail 0 y (by omega) (by omega) yh (by omega)
     rwa [show a+0=a by omega] at this
    ·rw [if_neg (by omega:¬a+x'=a+j)]
     by_cases hx0:x'=0
     ·rw [if_pos (by omega:a+x'=a)]; exact htail j y q2 (by omega) yh (by omega)
     ·rw [if_neg (by omega:¬a+x'=a)]; exact htail x' y x'0 (by omega) yh (by omega)
 ·simp only [leF q2,cond_false]
  refine ⟨zs,rfl,hz,fun x y h1 h2 h3=> ?_⟩
  by_cases hxy:x=y
  ·rw [hxy]; exact hφ.refl (hzc.get d (by omega) (by omega))
  ·have:=htail (x - a) (y - a) (by omega) (by omega) (by omega) (by omega)
   rwa [show a+(x - a)=x by omega,show a+(y - a)=y by omega] at this
theorem qta (hn:n≤1099511627776) (hN:n+1<N) {xs:List α} (h:Ck P n xs) {a b:Int} (ha:0≤a) (hab:a<b) (hb:b≤(n:Int)):∃out,qbn d N (xs,(a,(b,(φ,()))))=some ((),(out,()))∧Seg d n a b xs out:=by
 have e1:qO .i64 b 1=b - 1:=qax (by omega) (by omega)
 simp only [qbn,qI,e1]
 refine qa2 (S:=List α×(Int×(Int×Unit))) (fun p=>(p.2.2.1 - p.2.1).toNat) (fun p=>Seg d n a b xs p.1∧a≤p.2.1∧p.2.2.1<b) (fun r=>∃out,r=some ((),(out,()))∧Seg d n a b xs out) ?_ N _ ⟨.refl d _ _ xs,by simp only; omega,by simp only; omega⟩ (by simp only; omega)
 rintro ih ⟨ys,i,j,⟨⟩⟩ ⟨hs,hi,hj⟩ hih
 simp only at hs hi hj hih⊢
 have hc:=hs.ck d h
 by_cases q:i<j
 ·have e2:qQ .i64 i 1=i+1:=qaz (by omega) (by omega)
  have e3:qO .i64 j 1=j - 1:=qax (by omega) (by omega)
  simp only [ltT q,cond_true,e2,e3,hc.inB (i:=i) (by omega) (by omega),hc.inB (i:=j) (by omega) (by omega),qec,Bool.and_self]
  exact hih (swp d ys i j,(i+1,(j - 1,()))) ⟨hs.trans d (qd6 d hc.len ha hb hi (by omega) (by omega) hj),by simp only; omega,by simp only; omega⟩ (by simp only; omega)
 ·simp only [ltF q,cond_false]
  exact ⟨ys,rfl,hs⟩
theorem qsv (hφ:Cmp P φ le) (hn:n≤1099511627776) (hN:n+1<N) {xs:List α} (h:Ck P n xs) {a b pv:Int} (ha:0≤a) (hpa:a≤pv) (hpb:pv<b) (hb:b≤(n:Int)):
  ∃out mid,qg4 d N (xs,(a,(b,(pv,(φ,())))))=some ((mid,()),(out,()))∧Seg d n a b xs out∧a<mid∧mid≤b∧∀k,a≤k→k<mid→le (qh out k d) (qh xs pv d):=by
 have e1:qO .i64 b 1=b - 1:=qax (by omega) (by omega)
 have e2:qQ .i64 a 1=a+1:=qaz (by omega) (by omega)
 have pp:=h.get d (i:=pv) (by omega) (by omega)
 simp only [qg4,qI,e1,e2,h.inB (i:=a) (by omega) (by omega),h.inB (i:=pv) (by omega) (by omega),qec,Bool.and_self,cond_true]
 have g:=qfq d h.len (i:=a) (j:=pv) (by omega) (by omega) (by omega) (by omega)
 have ini:qbN (qbN xs a (qh xs pv d)) pv (qh xs a d)=swp d xs a pv:=rfl
 have ga:qh (swp d xs a pv) a d=qh xs pv d:=by
  rw [g a ha]
  by_cases q:a=pv
  ·rw [if_pos q,q]
  ·rw [if_neg q,if_pos rfl]
 rw [ini]
 obtain ⟨p,hp⟩:∃p,qh xs pv d=p:=⟨_,rfl⟩
 rw [hp] at pp ga
 rw [hp]
 refine qa2 (S:=List α×(Int×(Int×Unit))) (fun q=>(q.2.2.1+1 - q.2.1).toNat) (fun q=>Seg d n a b xs q.1∧a<q.2.1∧q.2.1≤b∧q.2.2.1<b∧qh q.1 a d=p∧∀k,a≤k→k<q.2.1→le (qh q.1 k d) p) (fun r=>∃out mid,r=some ((mid,()),(out,()))∧Seg d n a b xs out∧a<mid∧mid≤b∧∀k,a≤k→k<mid→le (qh out k d) p) ?_ N _ ⟨qd6 d h.len ha hb (by omega) (by omega) hpa hpb,by simp only; omega,by simp only; omega,by simp only; omega,ga,fun k k1 k2=>by
  have:k=a:=by simp only at k2; omega
  rw [this,ga]; exact hφ.refl pp⟩ (by simp only; omega)
 rintro ih ⟨ys,i,j,⟨⟩⟩ ⟨hs,hi,hib,hj,hya,hlo⟩ hih
 simp only at hs hi hib hj hya hlo hih⊢
 have hc:=hs.ck d h
 have ba:=hc.inB (i:=a) (by omega) (by omega)
 refine qa2 (S:=List α×(Int×(Int×Unit))) (fun q=>(q.2.2.1+1 - q.2.1).toNat) (fun q=>q.1=ys∧i≤q.2.1∧q.2.1≤b∧q.2.2.1=j∧∀k,a≤k→k<q.2.1→le (qh ys k d) p) (fun r=>∃out mid,r=some ((mid,()),(out,()))∧Seg d n a b xs out∧a<mid∧mid≤b∧∀k,a≤k→k<mid→le (qh out k d) p) ?_ N _ ⟨rfl,by simp only; omega,hib,rfl,hlo⟩ (by simp only; omega)
 rintro jh ⟨ys',i2,j',⟨⟩⟩ ⟨hy',hi2,hi2b,hj',hlo2⟩ hjh
 simp only at hy' hi2 hi2b hj' hlo2 hjh⊢
 subst hy'
 subst hj'
 obtain ⟨t1,w1,w2,w3⟩:∃t1:Bool,(((!(leI i2 j'))||(inB a (qn ys')))&&(((!(leI i2 j'))||(inB i2 (qn ys')))&&((!(leI i2 j'))||(qw (φ ((qh ys' a d),((qh ys' i2 d),())))))))=true∧((leI i2 j')&&(!(ltI (qp (φ ((qh ys' a d),((qh ys' i2 d),()))) (0,())).1 0)))=t1∧(t1=true→i2≤j'∧le (qh ys' i2 d) p):=by
  by_cases q:i2≤j'
  ·have pi:=hc.get d (i:=i2) (by omega) (by omega)
   obtain ⟨c,a1,a2⟩:=hφ.ans _ _ (by rw [hya]; exact pp:P (qh ys' a d)) pi
   refine ⟨_,by simp only [leT q,ba,hc.inB (i:=i2) (by omega) (by omega),a1,qg,Bool.not_true,Bool.false_or,Bool.and_self],rfl,fun ht=>⟨q,?_⟩⟩
   rw [leT q,a1,qj,Bool.true_and] at ht
   rw [hya] at a2
   exact Classical.byContradiction fun w=>by
    rw [ltT (a2.2 w)] at ht; cases ht
  ·exact ⟨false,by simp only [leF q,Bool.not_false,Bool.true_or,Bool.and_self],by simp only [leF q,Bool.false_and],fun w=>by cases w⟩
 simp only [w1,w2,cond_true]
 cases t1 with
 |true=>
  obtain ⟨v1,v2⟩:=w3 rfl
  have e3:qQ .i64 i2 1=i2+1:=qaz (by omega) (by omega)
  simp only [cond_true,e3]
  exact hjh _ ⟨rfl,by simp only; omega,by simp only; omega,rfl,fun k k1 k2=>by
   by_cases hk:k=i2
   ·rw [hk]; exact v2
   ·exact hlo2 k k1 (by simp only at k2; omega)⟩ (by simp only; omega)
 |false=>
  simp only [cond_false]
  refine qa2 (S:=List α×(Int×Unit)) (fun q=>(q.2.1+1 - i2).toNat) (fun q=>q.1=ys'∧q.2.1≤j') (fun r=>∃out mid,r=some ((mid,()),(out,()))∧Seg d n a b xs out∧a<mid∧mid≤b∧∀k,a≤k→k<mid→le (qh out k d) p) ?_ N _ ⟨rfl,by simp only; omega⟩ (by simp only; omega)
  rintro kh ⟨ys2,j2,⟨⟩⟩ ⟨hy2,hj2⟩ hkh
  simp only at hy2 hj2 hkh⊢
  subst hy2
  obtain ⟨t2,u1,u2,u3,u4⟩:∃t2:Bool,(((!(leI i2 j2))||(inB a (qn ys2)))&&(((!(leI i2 j2))||(inB j2 (qn ys2)))&&((!(leI i2 j2))||(qw (φ ((qh ys2 a d),((qh ys2 j2 d),())))))))=true∧((leI i2 j2)&&(ltI (qp (φ ((qh ys2 a d),((qh ys2 j2 d),()))) (0,())).1 0))=t2∧(t2=true→i2≤j2)∧(t2=false→i2≤j2→le (qh ys2 j2 d) p):=by
   by_cases q:i2≤j2
   ·have pi:=hc.get d (i:=j2) (by omega) (by omega)
    obtain ⟨c,a1,a2⟩:=hφ.ans _ _ (by rw [hya]; exact pp:P (qh ys2 a d)) pi
    refine ⟨_,by simp only [leT q,ba,hc.inB (i:=j2) (by omega) (by omega),a1,qg,Bool.not_true,Bool.false_or,Bool.and_self],rfl,fun _=>q,fun ht _=> ?_⟩
    rw [leT q,a1,qj,Bool.true_and] at ht
    rw [hya] at a2
    exact Classical.byContradiction fun w=>by
     rw [ltT (a2.2 w)] at ht; cases ht
   ·exact ⟨false,by simp only [leF q,Bool.not_false,Bool.true_or,Bool.and_self],by simp only [leF q,Bool.false_and],(fun w=>by cases w),fun _ w=>absurd w q⟩
  simp only [u1,u2,cond_true]
  have e4:t2=true∨i2≤j2→qO .i64 j2 1=j2 - 1:=fun w=>by
   have:i2≤j2:=w.elim u3 id
   exact qax (by omega) (by omega)
  cases t2 with
  |true=>
   have v1:=u3 rfl
   simp only [cond_true,e4 (.inl rfl)]
   exact hkh _ ⟨rfl,by simp only; omega⟩ (by simp only; omega)
  |false=>
   simp only [cond_false]
   by_cases q:j2<i2
   ·simp only [ltT q,cond_true]
    exact ⟨ys2,i2,rfl,hs,by omega,hi2b,hlo2⟩
   ·have v2:=u4 rfl (by omega)
    have e3:qQ .i64 i2 1=i2+1:=qaz (by omega) (by omega)
    simp only [ltF q,cond_false,hc.inB (i:=i2) (by omega) (by omega),hc.inB (i:=j2) (by omega) (by omega),Bool.and_self,cond_true,e3,e4 (.inr (by omega))]
    have g2:=qfq d hc.len (i:=i2) (j:=j2) (by omega) (by omega) (by omega) (by omega)
    refine hih (swp d ys2 i2 j2,(i2+1,(j2 - 1,()))) ⟨hs.trans d (qd6 d hc.len ha hb (by omega) (by omega) (by omega) (by omega)),by simp only; omega,by simp only; omega,by simp only; omega,?_,fun k k1 k2=> ?_⟩ (by simp only; omega)
    ·simp only
     rw [g2 a ha,if_neg (by omega),if_neg (by omega)]; exact hya
    ·simp only at k2⊢
     rw [g2 k (by omega)]
     by_cases hk:k=j2
     ·rw [if_pos hk]
      by_cases hij:i2=j2
      ·rw [hij]; exact v2
      ·omega
     ·rw [if_neg hk]
      by_cases hk2:k=i2
      ·rw [if_pos hk2]; exact v2
      ·rw [if_neg hk2]; exact hlo2 k k1 (by omega)
theorem qnG (hφ:Cmp P φ le) {G b1 b2:Bool} {u v:α} (h1:G=true→b1=true) (h2:G=true→b2=true) (hP:G=true→P u∧P v):
  (((!G)||b1)&&(((!G)||b2)&&((!G)||qw (φ (u,(v,()))))))=true∧(G=true→(ltI (qp (φ (u,(v,()))) (0,())).1 0=true→¬le v u)∧(ltI (qp (φ (u,(v,()))) (0,())).1 0=false→le v u)):=by
 cases G with
 |false=>exact ⟨rfl,fun q=>by cases q⟩
 |true=>
  obtain ⟨pu,pv⟩:=hP rfl
  obtain ⟨c,a1,a2⟩:=hφ.ans u v pu pv
  rw [h1 rfl,h2 rfl,a1]
  refine ⟨by simp only [qg,Bool.not_true,Bool.false_or,Bool.and_self],fun _=>⟨fun q=> ?_,fun q=> ?_⟩⟩
  ·rw [qj] at q
   by_cases hc:c<0
   ·exact a2.1 hc
   ·rw [ltF hc] at q; cases q
  ·rw [qj] at q
   by_cases hc:c<0
   ·rw [ltT hc] at q; cases q
   ·exact Classical.byContradiction fun w=>hc (a2.2 w)
theorem Cmp.flip (hφ:Cmp P φ le) {u v:α} (pu:P u) (pv:P v) (h:¬le v u):le u v:=(hφ.tot u v pu pv).elim id fun q=>absurd q h
structure qrW (d:α) (n:Nat) (le:α→α→Prop) (a b:Int) (xs:List α) (p:α) (ys:List α) (i j:Int):Prop where
 seg:Seg d n a b xs ys
 ai:a<i
 ij:i≤j+1
 jb:j<b
 at_:qh ys a d=p
 lo:∀k,a<k→k<i→le (qh ys k d) p
 hi:∀k,j<k→k<b→le p (qh ys k d)
def qpF (d:α) (n:Nat) (le:α→α→Prop) (a b:Int) (xs:List α) (r:Option ((Int×(Bool×Unit))×(List α×Unit))):Prop:=∃out mid fl,r=some ((mid,(fl,())),(out,()))∧Seg d n a b xs out∧a≤mid∧mid<b∧(∀k,a≤k→k<mid→le (qh out k d) (qh out mid d))∧∀k,mid<k→k<b→le (qh out mid d) (qh out k d)
theorem qrW.fin {a b:Int} {xs ys:List α} {p:α} {i j:Int} (h:qrW d n le a b xs p ys i j) (hc:Ck P n ys) (ha:0≤a) (hb:b≤(n:Int)) (hij:j<i) (fl:Bool):qpF d n le a b xs (some ((j,(fl,())),(swp d ys j a,()))):=by
 have h1:=h.ai; have h2:=h.ij; have h3:=h.jb
 have g:=qfq d hc.len (i:=j) (j:=a) (by omega) (by omega) (by omega) (by omega)
 have gj:qh (swp d ys j a) j d=p:=by
  rw [g j (by omega)]
  by_cases q:j=a
  ·rw [if_pos q,q]; exact h.at_
  ·rw [if_neg q,if_pos rfl]; exact h.at_
 refine ⟨_,j,fl,rfl,h.seg.trans d (qd6 d hc.len ha hb (by omega) (by omega) (by omega) (by omega)),by omega,by omega,fun k k1 k2=> ?_,fun k k1 k2=> ?_⟩
 ·rw [gj,g k (by omega)]
  by_cases q:k=a
  ·rw [if_pos q]; exact h.lo j (by omega) (by omega)
  ·rw [if_neg q,if_neg (by omega)]; exact h.lo k (by omega) (by omega)
 ·rw [gj,g k (by omega),if_neg (by omega),if_neg (by omega)]; exact h.hi k k1 k2
theorem qrW.swap {a b:Int} {xs ys:List α} {p:α} {i j:Int} (h:qrW d n le a b xs p ys i j) (hc:Ck P n ys) (ha:0≤a) (hb:b≤(n:Int)) (hij:i<j) (hj:le (qh ys j d) p) (hi:le p (qh ys i d)):qrW d n le a b xs p (swp d ys i j) (i+1) (j - 1):=by
 have h1:=h.ai; have h2:=h.ij; have h3:=h.jb
 have g:=qfq d hc.len (i:=i) (j:=j) (by omega) (by omega) (by omega) (by omega)
 refine ⟨h.seg.trans d (qd6 d hc.len ha hb (by omega) (by omega) (by omega) (by omega)),by omega,by omega,by omega,?_,fun k k1 k2=> ?_,fun k k1 k2=> ?_⟩
 ·rw [g a ha,if_neg (by omega),if_neg (by omega)]; exact h.at_
 ·rw [g k (by omega),if_neg (by omega)]
  by_cases q:k=i
  ·rw [if_pos q]; exact hj
  ·rw [if_neg q]; exact h.lo k k1 (by omega)
 ·rw [g k (by omega)]
  by_cases q:k=j
  ·rw [if_pos q]; exact hi
  ·rw [if_neg q,if_neg (by omega)]; exact h.hi k (by omega) k2
theorem qtc (hφ:Cmp P φ le) (hn:n≤1099511627776) (hN:n+1<N) {xs:List α} (h:Ck P n xs) {a b pv:Int} (ha:0≤a) (hpa:a≤pv) (hpb:pv<b) (hb:b≤(n:Int)):qpF d n le a b xs (qe2 d N (xs,(a,(b,(pv,(φ,())))))):=by
 have e1:qO .i64 b 1=b - 1:=qax (by omega) (by omega)
 have e2:qQ .i64 a 1=a+1:=qaz (by omega) (by omega)
 have pp:=h.get d (i:=pv) (by omega) (by omega)
 simp only [qe2,qI,e1,e2,h.inB (i:=a) (by omega) (by omega),h.inB (i:=pv) (by omega) (by omega),qec,Bool.and_self,cond_true]
 have g:=qfq d h.len (i:=a) (j:=pv) (by omega) (by omega) (by omega) (by omega)
 have ini:qbN (qbN xs a (qh xs pv d)) pv (qh xs a d)=swp d xs a pv:=rfl
 have ga:qh (swp d xs a pv) a d=qh xs pv d:=by
  rw [g a ha]
  by_cases q:a=pv
  ·rw [if_pos q,q]
  ·rw [if_neg q,if_pos rfl]
 rw [ini]
 obtain ⟨p,hp⟩:∃p,qh xs pv d=p:=⟨_,rfl⟩
 rw [hp] at pp ga
 have hs0:=qd6 d h.len ha hb (i:=a) (j:=pv) (by omega) (by omega) hpa hpb
 have hc0:=hs0.ck d h
 refine qa2 (S:=List α×(Int×Unit)) (fun q=>(b - q.2.1).toNat) (fun q=>q.1=swp d xs a pv∧a<q.2.1∧q.2.1≤b∧∀k,a<k→k<q.2.1→le (qh (swp d xs a pv) k d) p) (qpF d n le a b xs) ?_ N _ ⟨rfl,by simp only; omega,by simp only; omega,fun k k1 k2=>by simp only at k2; omega⟩ (by simp only; omega)
 rintro ih ⟨ys,i,⟨⟩⟩ ⟨hy,hi,hib,hlo⟩ hih
 simp only at hy hi hib hlo hih⊢
 subst hy
 generalize swp d xs a pv=ys at *
 have ba:=hc0.inB (i:=a) (by omega) (by omega)
 obtain ⟨w1,w2⟩:=qnG hφ (G:=leI i (b - 1)) (b1:=inB i (qn ys)) (b2:=inB a (qn ys)) (u:=qh ys i d) (v:=qh ys a d) (fun q=>by
   have:i≤b - 1:=by rw [qba] at q; exact of_decide_eq_true q
   exact hc0.inB (by omega) (by omega)) (fun _=>ba) (fun q=>by
   have:i≤b - 1:=by rw [qba] at q; exact of_decide_eq_true q
   exact ⟨hc0.get d (by omega) (by omega),by rw [ga]; exact pp⟩)
 simp only [w1,cond_true]
 by_cases q1:(leI i (b - 1)&&ltI (qp (φ (qh ys i d,(qh ys a d,()))) (0,())).1 0)=true
 ·simp only [q1,cond_true]
  simp only [Bool.and_eq_true] at q1
  have:i≤b - 1:=by have:=q1.1; rw [qba] at this; exact of_decide_eq_true this
  have e3:qQ .i64 i 1=i+1:=qaz (by omega) (by omega)
  have hle:=(w2 q1.1).1 q1.2
  rw [ga] at hle
  rw [e3]
  exact hih _ ⟨rfl,by simp only; omega,by simp only; omega,fun k k1 k2=>by
   by_cases hk:k=i
   ·rw [hk]; exact hφ.flip (hc0.get d (by omega) (by omega)) pp hle
   ·exact hlo k k1 (by simp only at k2; omega)⟩ (by simp only; omega)
 have q1f:(leI i (b - 1)&&ltI (qp (φ (qh ys i d,(qh ys a d,()))) (0,())).1 0)=false:=by simpa using q1
 have hi1:i≤b - 1→le p (qh ys i d):=fun w=>by
  rw [leT w,Bool.true_and] at q1f
  have:=(w2 (leT w)).2 q1f
  rwa [ga] at this
 simp only [q1f,cond_false]
 refine qa2 (S:=List α×(Int×Unit)) (fun q=>(q.2.1+1 - i).toNat) (fun q=>q.1=ys∧i≤q.2.1+1∧q.2.1<b∧∀k,q.2.1<k→k<b→le p (qh ys k d)) (qpF d n le a b xs) ?_ N _ ⟨rfl,by simp only; omega,by simp only; omega,fun k k1 k2=>by simp only at k1; omega⟩ (by simp only; omega)
 rintro jh ⟨ys',j,⟨⟩⟩ ⟨hy',hj1,hj2,hhi⟩ hjh
 simp only at hy' hj1 hj2 hhi hjh⊢
 subst hy'
 obtain ⟨u1,u2⟩:=qnG hφ (G:=leI i j) (b1:=inB j (qn ys')) (b2:=inB a (qn ys')) (u:=qh ys' j d) (v:=qh ys' a d) (fun q=>by
   have:i≤j:=by rw [qba] at q; exact of_decide_eq_true q
   exact hc0.inB (by omega) (by omega)) (fun _=>ba) (fun q=>by
   have:i≤j:=by rw [qba] at q; exact of_decide_eq_true q
   exact ⟨hc0.get d (by omega) (by omega),by rw [ga]; exact pp⟩)
 simp only [u1,cond_true]
 by_cases q2:(leI i j&& !ltI (qp (φ (qh ys' j d,(qh ys' a d,()))) (0,())).1 0)=true
 ·simp only [q2,cond_true]
  simp only [Bool.and_eq_true,Bool.not_eq_true'] at q2
  have:i≤j:=by have:=q2.1; rw [qba] at this; exact of_decide_eq_true this
  have e3:qO .i64 j 1=j - 1:=qax (by omega) (by omega)
  have hle:=(u2 q2.1).2 q2.2
  rw [ga] at hle
  rw [e3]
  exact hjh _ ⟨rfl,by simp only; omega,by simp only; omega,fun k k1 k2=>by
   by_cases hk:k=j
   ·rw [hk]; exact hle
   ·exact hhi k (by simp only at k1; omega) k2⟩ (by simp only; omega)
 have q2f:(leI i j&& !ltI (qp (φ (qh ys' j d,(qh ys' a d,()))) (0,())).1 0)=false:=by simpa using q2
 simp only [q2f,cond_false]
 have hinv:qrW d n le a b xs p ys' i j:=⟨hs0,hi,hj1,hj2,ga,hlo,hhi⟩
 by_cases q3:j<i
 ·simp only [ltT q3,cond_true,ba,hc0.inB (i:=j) (by omega) (by omega),Bool.and_self]
  exact hinv.fin d hc0 ha hb q3 true
 simp only [ltF q3,cond_false,hc0.inB (i:=i) (by omega) (by omega),hc0.inB (i:=j) (by omega) (by omega),Bool.and_self,cond_true]
 have hij:i≤j:=by omega
 have ltj:ltI (qp (φ (qh ys' j d,(qh ys' a d,()))) (0,())).1 0=true:=by
  rw [leT hij,Bool.true_and] at q2f
  simpa using q2f
 have nlj:=(u2 (leT hij)).1 ltj
 rw [ga] at nlj
 have hjp:=hφ.flip (hc0.get d (i:=j) (by omega) (by omega)) pp nlj
 have hpi:=hi1 (by omega)
 have hne:i≠j:=fun w=>nlj (by rw [←w]; exact hpi)
 have e3:qQ .i64 i 1=i+1:=qaz (by omega) (by omega)
 have e4:qO .i64 j 1=j - 1:=qax (by omega) (by omega)
 rw [e3,e4]
 have hinv2:=hinv.swap d hc0 ha hb (by omega) hjp hpi
 refine qa2 (S:=List α×(Int×(Int×Unit))) (fun q=>(q.2.2.1+1 - q.2.1).toNat) (fun q=>qrW d n le a b xs p q.1 q.2.1 q.2.2.1) (qpF d n le a b xs) ?_ N (swp d ys' i j,(i+1,(j - 1,()))) hinv2 (by simp only; omega)
 clear hinv2 hinv hne hpi hjp nlj ltj hij q3 q2f q2 u1 u2 hhi hj1 hj2 hjh hi1 q1f q1 w1 w2 hlo hi hib hih e3 e4 jh ih
 rintro ih ⟨zs,i,j,⟨⟩⟩ hz hih
 simp only at hz hih⊢
 have hzc:=hz.seg.ck d h
 have za:=hz.at_
 have z1:=hz.ai; have z2:=hz.ij; have z3:=hz.jb
 have ba:=hzc.inB (i:=a) (by omega) (by omega)
 refine qa2 (S:=List α×(Int×(Int×Unit))) (fun q=>(q.2.2.1+1 - q.2.1).toNat) (fun q=>q.1=zs∧q.2.2.1=j∧i≤q.2.1∧qrW d n le a b xs p zs q.2.1 j) (qpF d n le a b xs) ?_ N _ ⟨rfl,rfl,Int.le_refl _,hz⟩ (by simp only; omega)
 rintro jh ⟨zs',i2,j',⟨⟩⟩ ⟨hy',hj',hi2,hz2⟩ hjh
 simp only at hy' hj' hi2 hz2 hjh⊢
 subst hy'
 subst hj'
 have y1:=hz2.ai; have y2:=hz2.ij
 obtain ⟨w1,w2⟩:=qnG hφ (G:=leI i2 j') (b1:=inB i2 (qn zs')) (b2:=inB a (qn zs')) (u:=qh zs' i2 d) (v:=qh zs' a d) (fun q=>by
   have:i2≤j':=by rw [qba] at q; exact of_decide_eq_true q
   exact hzc.inB (by omega) (by omega)) (fun _=>ba) (fun q=>by
   have:i2≤j':=by rw [qba] at q; exact of_decide_eq_true q
   exact ⟨hzc.get d (by omega) (by omega),by rw [za]; exact pp⟩)
 simp only [w1,cond_true]
 by_cases q1:(leI i2 j'&&ltI (qp (φ (qh zs' i2 d,(qh zs' a d,()))) (0,())).1 0)=true
 ·simp only [q1,cond_true]
  simp only [Bool.and_eq_true] at q1
  have:i2≤j':=by have:=q1.1; rw [qba] at this; exact of_decide_eq_true this
  have e3:qQ .i64 i2 1=i2+1:=qaz (by omega) (by omega)
  have hle:=(w2 q1.1).1 q1.2
  rw [za] at hle
  rw [e3]
  have hnew:qrW d n le a b xs p zs' (i2+1) j':=⟨hz2.seg,by omega,by omega,hz2.jb,za,fun k k1 k2=>by
   by_cases hk:k=i2
   ·rw [hk]; exact hφ.flip (hzc.get d (by omega) (by omega)) pp hle
   ·exact hz2.lo k k1 (by omega),hz2.hi⟩
  exact hjh _ ⟨rfl,rfl,by simp only; omega,hnew⟩ (by simp only; omega)
 have q1f:(leI i2 j'&&ltI (qp (φ (qh zs' i2 d,(qh zs' a d,()))) (0,())).1 0)=false:=by simpa using q1
 have hi1:i2≤j'→le p (qh zs' i2 d):=fun w=>by
  rw [leT w,Bool.true_and] at q1f
  have:=(w2 (leT w)).2 q1f
  rwa [za] at this
 simp only [q1f,cond_false]
 refine qa2 (S:=List α×(Int×Unit)) (fun q=>(q.2.1+1 - i2).toNat) (fun q=>q.1=zs'∧q.2.1≤j'∧qrW d n le a b xs p zs' i2 q.2.1) (qpF d n le a b xs) ?_ N _ ⟨rfl,by simp only; omega,hz2⟩ (by simp only; omega)
 rintro kh ⟨zs2,j2,⟨⟩⟩ ⟨hy2,hj2,hz3⟩ hkh
 simp only at hy2 hj2 hz3 hkh⊢
 subst hy2
 have x2:=hz3.ij; have x3:=hz3.jb
 obtain ⟨u1,u2⟩:=qnG hφ (G:=leI i2 j2) (b1:=inB j2 (qn zs2)) (b2:=inB a (qn zs2)) (u:=qh zs2 j2 d) (v:=qh zs2 a d) (fun q=>by
   have:i2≤j2:=by rw [qba] at q; exact of_decide_eq_true q
   exact hzc.inB (by omega) (by omega)) (fun _=>ba) (fun q=>by
   have:i2≤j2:=by rw [qba] at q; exact of_decide_eq_true q
   exact ⟨hzc.get d (by omega) (by omega),by rw [za]; exact pp⟩)
 simp only [u1,cond_true]
 by_cases q2:(leI i2 j2&& !ltI (qp (φ (qh zs2 j2 d,(qh zs2 a d,()))) (0,())).1 0)=true
 ·simp only [q2,cond_true]
  simp only [Bool.and_eq_true,Bool.not_eq_true'] at q2
  have:i2≤j2:=by have:=q2.1; rw [qba] at this; exact of_decide_eq_true this
  have e3:qO .i64 j2 1=j2 - 1:=qax (by omega) (by omega)
  have hle:=(u2 q2.1).2 q2.2
  rw [za] at hle
  rw [e3]
  have hnew:qrW d n le a b xs p zs2 i2 (j2 - 1):=⟨hz3.seg,hz3.ai,by omega,by omega,za,hz3.lo,fun k k1 k2=>by
   by_cases hk:k=j2
   ·rw [hk]; exact hle
   ·exact hz3.hi k (by omega) k2⟩
  exact hkh _ ⟨rfl,by simp only; omega,hnew⟩ (by simp only; omega)
 have q2f:(leI i2 j2&& !ltI (qp (φ (qh zs2 j2 d,(qh zs2 a d,()))) (0,())).1 0)=false:=by simpa using q2
 simp only [q2f,cond_false]
 by_cases q3:j2<i2
 ·simp only [ltT q3,cond_true,ba,hzc.inB (i:=j2) (by omega) (by omega),Bool.and_self]
  exact hz3.fin d hzc ha hb q3 false
 simp only [ltF q3,cond_false,hzc.inB (i:=i2) (by omega) (by omega),hzc.inB (i:=j2) (by omega) (by omega),Bool.and_self,cond_true]
 have hij:i2≤j2:=by omega
 have ltj:ltI (qp (φ (qh zs2 j2 d,(qh zs2 a d,()))) (0,())).1 0=true:=by
  rw [leT hij,Bool.true_and] at q2f
  simpa using q2f
 have nlj:=(u2 (leT hij)).1 ltj
 rw [za] at nlj
 have hjp:=hφ.flip (hzc.get d (i:=j2) (by omega) (by omega)) pp nlj
 have hpi:=hi1 (by omega)
 have hne:i2≠j2:=fun w=>nlj (by rw [←w]; exact hpi)
 have e3:qQ .i64 i2 1=i2+1:=qaz (by omega) (by omega)
 have e4:qO .i64 j2 1=j2 - 1:=qax (by omega) (by omega)
 rw [e3,e4]
 exact hih (swp d zs2 i2 j2,(i2+1,(j2 - 1,()))) (hz3.swap d hzc ha hb (by omega) hjp hpi) (by simp only; omega)
theorem qny (hφ:Cmp P φ le) {ys:List α} (h:Ck P n ys) {i j s:Int} (i0:0≤i) (i1:i<(n:Int)) (j0:0≤j) (j1:j<(n:Int)):∃p q s',qhd d N (ys,(i,(j,(s,(φ,())))))=some ((p,(q,())),(ys,(s',())))∧((p=i∧q=j)∨(p=j∧q=i)):=by
 obtain ⟨c,a1,a2⟩:=hφ.ans _ _ (h.get d j0 j1) (h.get d i0 i1)
 simp only [qhd,h.inB j0 j1,h.inB i0 i1,a1,qg,qj,Bool.and_self,cond_true]
 cases ltI c 0 with
 |true=>exact ⟨_,_,_,rfl,.inr ⟨rfl,rfl⟩⟩
 |false=>exact ⟨_,_,_,rfl,.inl ⟨rfl,rfl⟩⟩
theorem qlD (hφ:Cmp P φ le) {ys:List α} (h:Ck P n ys) {i j k s:Int} (i0:0≤i) (i1:i<(n:Int)) (j0:0≤j) (j1:j<(n:Int)) (k0:0≤k) (k1:k<(n:Int)):∃m s',qgq d N (ys,(i,(j,(k,(s,(φ,()))))))=some ((m,()),(ys,(s',())))∧(m=i∨m=j∨m=k):=by
 obtain ⟨p1,q1,s1,e1,c1⟩:=qny d (N:=N) hφ h (s:=s) i0 i1 j0 j1
 obtain ⟨p2,q2,s2,e2,c2⟩:=qny d (N:=N) hφ h (i:=q1) (j:=k) (s:=s1) (by omega) (by omega) k0 k1
 obtain ⟨p3,q3,s3,e3,c3⟩:=qny d (N:=N) hφ h (i:=p1) (j:=p2) (s:=s2) (by omega) (by omega) (by omega) (by omega)
 simp only [qgq,qI,e1,e2,e3,qg,qj,cond_true]
 exact ⟨q3,s3,rfl,by omega⟩
theorem qlu (hφ:Cmp P φ le) (hn:n≤1099511627776) {ys:List α} (h:Ck P n ys) {i s:Int} (i0:1≤i) (i1:i+1<(n:Int)):∃m s',qs d N (ys,(i,(s,(φ,()))))=some ((m,()),(ys,(s',())))∧i - 1≤m∧m≤i+1:=by
 have e1:qO .i64 i 1=i - 1:=qax (by omega) (by omega)
 have e2:qQ .i64 i 1=i+1:=qaz (by omega) (by omega)
 obtain ⟨m,s',e3,c⟩:=qlD d (N:=N) hφ h (i:=i - 1) (j:=i) (k:=i+1) (s:=s) (by omega) (by omega) (by omega) (by omega) (by omega) (by omega)
 simp only [qs,e1,e2,e3,qg,qj,cond_true]
 exact ⟨m,s',rfl,by omega,by omega⟩
theorem qsu (hφ:Cmp P φ le) (hn:n≤1099511627776) {ys:List α} (h:Ck P n ys) {a b:Int} (ha:0≤a) (hab:a+8≤b) (hb:b≤(n:Int)):∃m t,qfk d N (ys,(a,(b,(φ,()))))=some ((m,(t,())),(ys,()))∧a≤m∧m<b:=by
 have e1:qO .i64 b a=b - a:=qax (by omega) (by omega)
 have e2:qom .i64 (b - a) 4=(b - a) / 4:=by rw [qia,Int.tdiv_eq_ediv_of_nonneg (by omega),qdk (by omega) (by omega)]
 have e3:qmn .i64 ((b - a) / 4) 1=(b - a) / 4:=by rw [qed,qdk (by omega) (by omega)]; omega
 have e4:qmn .i64 ((b - a) / 4) 2=(b - a) / 4 * 2:=by rw [qed,qdk (by omega) (by omega)]
 have e5:qmn .i64 ((b - a) / 4) 3=(b - a) / 4 * 3:=by rw [qed,qdk (by omega) (by omega)]
 have e6:qQ .i64 a ((b - a) / 4)=a+(b - a) / 4:=qaz (by omega) (by omega)
 have e7:qQ .i64 a ((b - a) / 4 * 2)=a+(b - a) / 4 * 2:=qaz (by omega) (by omega)
 have e8:qQ .i64 a ((b - a) / 4 * 3)=a+(b - a) / 4 * 3:=qaz (by omega) (by omega)
 simp only [qfk,qI,e1,e2,e3,e4,e5,e6,e7,e8,neT (show ¬(4:Int)=0 by omega),leT (show (8:Int)≤b - a by omega),cond_true]
 have fin:∀(m s:Int),a≤m→m<b→∃m' t,(bif eqI s 0 then some ((m,((1:Int),())),(ys,())) else (bif eqI s 12 then some ((m,((2:Int),())),(ys,())) else some ((m,((0:Int),())),(ys,()))))=some ((m',(t,())),(ys,()))∧a≤m'∧m'<b:=fun m s h1 h2=>by
  cases eqI s 0 with
  |true=>exact ⟨_,_,rfl,h1,h2⟩
  |false=>
   cases eqI s 12 with
   |true=>exact ⟨_,_,rfl,h1,h2⟩
   |false=>exact ⟨_,_,rfl,h1,h2⟩
 generalize hq:(b - a) / 4=q at *
 by_cases h50:50≤b - a
 ·obtain ⟨m1,s1,f1,g1,g1'⟩:=qlu d (N:=N) hφ hn h (i:=a+q) (s:=0) (by omega) (by omega)
  obtain ⟨m2,s2,f2,g2,g2'⟩:=qlu d (N:=N) hφ hn h (i:=a+q * 2) (s:=s1) (by omega) (by omega)
  obtain ⟨m3,s3,f3,g3,g3'⟩:=qlu d (N:=N) hφ hn h (i:=a+q * 3) (s:=s2) (by omega) (by omega)
  obtain ⟨m4,s4,f4,g4⟩:=qlD d (N:=N) hφ h (i:=m1) (j:=m2) (k:=m3) (s:=s3) (by omega) (by omega) (by omega) (by omega) (by omega) (by omega)
  simp only [leT h50,cond_true,f1,f2,f3,f4,qg,qj,Bool.and_self]
  exact fin m4 s4 (by omega) (by omega)
 ·obtain ⟨m4,s4,f4,g4⟩:=qlD d (N:=N) hφ h (i:=a+q) (j:=a+q * 2) (k:=a+q * 3) (s:=0) (by omega) (by omega) (by omega) (by omega) (by omega) (by omega)
  simp only [leF h50,cond_true,cond_false,f4,qg,qj,Bool.and_self]
  exact fin m4 s4 (by omega) (by omega)
def qro (L:(Int×Unit)→Option ((Int×Unit)×Unit)):Prop:=∀k:Nat,k≤1099511627776→∃e:Nat,L ((k:Int),())=some (((e:Int),()),())∧e≤41∧(1≤k→2^e≤2 * k)
theorem qva {x m:Int} (h0:0≤m) (h1:m<18446744073709551616):0≤qux .u64 x m∧qux .u64 x m≤m:=by
 have hm:(BitVec.ofInt 64 m).toNat=m.toNat:=by rw [BitVec.toNat_ofInt,show ((2^64:Nat):Int)=18446744073709551616 by decide,Int.emod_eq_of_lt h0 h1]
 have hle:(BitVec.ofInt 64 x&&& BitVec.ofInt 64 m).toNat≤m.toNat:=by rw [BitVec.toNat_and,hm]; exact Nat.and_le_right
 rw [qk2]
 show 0≤IntKind.wrap .u64 (((BitVec.ofInt 64 x&&& BitVec.ofInt 64 m).toNat:Nat):Int)∧IntKind.wrap .u64 (((BitVec.ofInt 64 x&&& BitVec.ofInt 64 m).toNat:Nat):Int)≤m
 rw [qfb (by omega) (by omega)]
 omega
theorem qty {L:(Int×Unit)→Option ((Int×Unit)×Unit)} (hL:qro L) (hn:n≤1099511627776) (hN:n+10<N) {xs:List α} (h:Ck P n xs) {a b:Int} (ha:0≤a) (hab:a+8≤b) (hb:b≤(n:Int)):∃out,qgl d N L (xs,(a,(b,(φ,()))))=some ((),(out,()))∧Seg d n a b xs out:=by
 have e1:qO .i64 b a=b - a:=qax (by omega) (by omega)
 have e2:qom .i64 (b - a) 4=(b - a) / 4:=by rw [qia,Int.tdiv_eq_ediv_of_nonneg (by omega),qdk (by omega) (by omega)]
 have e4:qmn .i64 ((b - a) / 4) 2=(b - a) / 4 * 2:=by rw [qed,qdk (by omega) (by omega)]
 have e7:qQ .i64 a ((b - a) / 4 * 2)=a+(b - a) / 4 * 2:=qaz (by omega) (by omega)
 have e8:qO .i64 (a+(b - a) / 4 * 2) 1=a+(b - a) / 4 * 2 - 1:=qax (by omega) (by omega)
 have e9:qQ .i64 (a+(b - a) / 4 * 2) 1=a+(b - a) / 4 * 2+1:=qaz (by omega) (by omega)
 have eA:qcr .u64 (b - a)=b - a:=by rw [qeu,qfb (by omega) (by omega)]
 obtain ⟨e,l1,l2,l3⟩:=hL (b - a).toNat (by omega)
 have lk:((b - a).toNat:Int)=b - a:=by omega
 rw [lk] at l1
 have l4:=l3 (by omega)
 have hpow:(1:Nat)≤2^e:=Nat.one_le_two_pow
 have eB:qjV .u64 1 (e:Int)=((2^e:Nat):Int):=by
  rw [qk6]
  have hm:min (e:Int).toNat IntKind.u64.bits=e:=by
   show min (e:Int).toNat 64=e
   omega
  rw [hm,Int.one_mul,show ((2:Int)^e)=((2^e:Nat):Int) by rw [Int.natCast_pow]; rfl,qfb (by omega) (by omega)]
 have eC:qO .u64 ((2^e:Nat):Int) 1=((2^e:Nat):Int) - 1:=by rw [qi6,qfb (by omega) (by omega)]
 have hpw:qqm L (b - a,())=some ((((2^e:Nat):Int),()),()):=by
  simp only [qqm,eA,l1,qg,qj,leT (Int.natCast_nonneg e),Bool.and_self,cond_true,eB]
 simp only [qgl,qI,e1,e2,e4,e7,e8,e9,eA,neT (show ¬(4:Int)=0 by omega),leT (show (8:Int)≤b - a by omega),cond_true,hpw,qg,qj,eC]
 generalize hq:(b - a) / 4=q at *
 generalize hpp:(2^e:Nat)=pw at *
 refine qa2 (S:=List α×(Int×(Int×Unit))) (fun p=>(a+q * 2+2 - p.2.2.1).toNat) (fun p=>Seg d n a b xs p.1∧a+q * 2 - 1≤p.2.2.1) (fun r=>∃out,r=some ((),(out,()))∧Seg d n a b xs out) ?_ N _ ⟨.refl d _ _ xs,by simp only; omega⟩ (by simp only; omega)
 rintro ih ⟨ys,r,idx,⟨⟩⟩ ⟨hs,hi⟩ hih
 simp only at hs hi hih⊢
 have hc:=hs.ck d h
 by_cases hx:idx≤a+q * 2+1
 ·have hnx:∃v,qok (r,())=some ((v,()),(v,())):=by
   simp only [qok,leT (show (0:Int)≤13 by omega),leT (show (0:Int)≤7 by omega),leT (show (0:Int)≤17 by omega),cond_true]
   exact ⟨_,rfl⟩
  obtain ⟨v,hv⟩:=hnx
  obtain ⟨b1,b2⟩:=qva (x:=v) (m:=(pw:Int) - 1) (by omega) (by omega)
  simp only [leT hx,cond_true,hv,qg,qj]
  generalize qux .u64 v ((pw:Int) - 1)=w at *
  have ew:qcr .i64 w=w:=qpW (by omega) (by omega)
  have es:qO .i64 w (b - a)=w - (b - a):=qax (by omega) (by omega)
  rw [ew,es]
  obtain ⟨o,ho,o0,o1⟩:∃o,(bif leI (b - a) w then w - (b - a) else w)=o∧0≤o∧o<b - a:=by
   by_cases hw:b - a≤w
   ·exact ⟨_,by rw [leT hw,cond_true],by omega,by omega⟩
   ·exact ⟨_,by rw [leF hw,cond_false],by omega,by omega⟩
  have ea:qQ .i64 a o=a+o:=qaz (by omega) (by omega)
  have ei:qQ .i64 idx 1=idx+1:=qaz (by omega) (by omega)
  simp only [ho,ea,ei,qec,hc.inB (i:=idx) (by omega) (by omega),hc.inB (i:=a+o) (by omega) (by omega),Bool.and_self,cond_true]
  exact hih (swp d ys idx (a+o),(v,(idx+1,()))) ⟨hs.trans d (qd6 d hc.len ha hb (by omega) (by omega) (by omega) (by omega)),by simp only; omega⟩ (by simp only; omega)
 ·simp only [leF hx,cond_false]
  exact ⟨ys,rfl,hs⟩
def Pre (d:α) (le:α→α→Prop) (a b:Int) (xs:List α):Prop:=0<a→∀k,a≤k→k<b→le (qh xs (a - 1) d) (qh xs k d)
theorem Seg.pre {a b:Int} {xs ys:List α} (h:Seg d n a b xs ys) (hb:b≤(n:Int)) (hp:Pre d le a b xs):Pre d le a b ys:=fun a0 k k1 k2=>by
 obtain ⟨m,m1,m2,m3⟩:=h.inn k k1 k2
 rw [h.out (a - 1) (by omega) (by omega) (by omega),m3]
 exact hp a0 m m1 m2
theorem qnI (hφ:Cmp P φ le) {u v:α} (pu:P u) (pv:P v):∃c,φ (u,(v,()))=some (c,())∧((c<0)∧¬le v u∧le u v∨¬(c<0)∧le v u):=by
 obtain ⟨c,a1,a2⟩:=hφ.ans u v pu pv
 by_cases hc:c<0
 ·exact ⟨c,a1,.inl ⟨hc,a2.1 hc,hφ.flip pu pv (a2.1 hc)⟩⟩
 ·exact ⟨c,a1,.inr ⟨hc,Classical.byContradiction fun w=>hc (a2.2 w)⟩⟩
def shR {R:Type} (d:α) (N:Nat) (b:Int) (φ:(α×(α×Unit))→Option (Int×Unit)) (K:List α→Option R) (xs:List α) (j:Int):Option R:=
 qZ (S:=List α×(Int×Unit)) (R:=R) N (fun ih7=>(fun p8=>(bif (ltI p8.2.1 b) then (bif ((inB p8.2.1 (qn p8.1))&&((inB (qO .i64 p8.2.1 1) (qn p8.1))&&(qw (φ ((qh p8.1 p8.2.1 d),((qh p8.1 (qO .i64 p8.2.1 1) d),())))))) then (bif (!(ltI (qp (φ ((qh p8.1 p8.2.1 d),((qh p8.1 (qO .i64 p8.2.1 1) d),()))) (0,())).1 0)) then K p8.1 else (bif ((inB (qO .i64 p8.2.1 1) (qn p8.1))&&((inB p8.2.1 (qn p8.1))&&((inB p8.2.1 (qn p8.1))&&(inB (qO .i64 p8.2.1 1) (qn (qbN p8.1 p8.2.1 (qh p8.1 (qO .i64 p8.2.1 1) d))))))) then (ih7 ((qbN (qbN p8.1 p8.2.1 (qh p8.1 (qO .i64 p8.2.1 1) d)) (qO .i64 p8.2.1 1) (qh p8.1 p8.2.1 d)),((qQ .i64 p8.2.1 1),()))) else none)) else none) else K p8.1))) (xs,(j,()))
def shL {R:Type} (d:α) (N:Nat) (φ:(α×(α×Unit))→Option (Int×Unit)) (K:List α→Option R) (xs:List α) (j:Int):Option R:=
 qZ (S:=List α×(Int×Unit)) (R:=R) N (fun ih5=>(fun p6=>(bif (leI 1 p6.2.1) then (bif ((inB p6.2.1 (qn p6.1))&&((inB (qO .i64 p6.2.1 1) (qn p6.1))&&(qw (φ ((qh p6.1 p6.2.1 d),((qh p6.1 (qO .i64 p6.2.1 1) d),())))))) then (bif (!(ltI (qp (φ ((qh p6.1 p6.2.1 d),((qh p6.1 (qO .i64 p6.2.1 1) d),()))) (0,())).1 0)) then K p6.1 else (bif ((inB (qO .i64 p6.2.1 1) (qn p6.1))&&((inB p6.2.1 (qn p6.1))&&((inB p6.2.1 (qn p6.1))&&(inB (qO .i64 p6.2.1 1) (qn (qbN p6.1 p6.2.1 (qh p6.1 (qO .i64 p6.2.1 1) d))))))) then (ih5 ((qbN (qbN p6.1 p6.2.1 (qh p6.1 (qO .i64 p6.2.1 1) d)) (qO .i64 p6.2.1 1) (qh p6.1 p6.2.1 d)),((qO .i64 p6.2.1 1),()))) else none)) else none) else K p6.1))) (xs,(j,()))
def pinR {R:Type} (d:α) (N:Nat) (b:Int) (φ:(α×(α×Unit))→Option (Int×Unit)) (i:Int) (K:List α→Option R) (ys:List α):Option R:=
 bif leI 2 (qO .i64 b i) then shR d N b φ K ys (qQ .i64 i 1) else K ys
def pinT (d:α) (N:Nat) (a b i:Int) (φ:(α×(α×Unit))→Option (Int×Unit)) (K:List α→Option ((Bool×Unit)×(List α×Unit))) (ys:List α):Option ((Bool×Unit)×(List α×Unit)):=
 bif eqI i b then some ((true,()),(ys,())) else bif ltI (qO .i64 b a) 50 then some ((false,()),(ys,())) else
  bif ((inB (qO .i64 i 1) (qn ys))&&((inB i (qn ys))&&((inB i (qn ys))&&(inB (qO .i64 i 1) (qn (qbN ys i (qh ys (qO .i64 i 1) d))))))) then
   (bif leI 2 (qO .i64 i a) then shL d N φ (pinR d N b φ i K) (qbN (qbN ys i (qh ys (qO .i64 i 1) d)) (qO .i64 i 1) (qh ys i d)) (qO .i64 i 1)
    else pinR d N b φ i K (qbN (qbN ys i (qh ys (qO .i64 i 1) d)) (qO .i64 i 1) (qh ys i d))) else none
theorem qsb (x:List α×(Int×(Int×(((α×(α×Unit))→(Option (Int×Unit)))×Unit)))):qcg d N x=
  qW (qQ .i64 x.2.1 1) (fun y0=>qZ (S:=(List α×(Int×(Int×Unit)))) (R:=((Bool×Unit)×(List α×Unit))) N (fun ih1=>(fun p2=>(bif (ltI p2.2.2.1 5) then
   (qZ (S:=(List α×(Int×Unit))) (R:=((Bool×Unit)×(List α×Unit))) N (fun ih3=>(fun p4=>(bif (((!(ltI p4.2.1 x.2.2.1))||(inB p4.2.1 (qn p4.1)))&&(((!(ltI p4.2.1 x.2.2.1))||(inB (qO .i64 p4.2.1 1) (qn p4.1)))&&((!(ltI p4.2.1 x.2.2.1))||(qw (x.2.2.2.1 ((qh p4.1 p4.2.1 d),((qh p4.1 (qO .i64 p4.2.1 1) d),()))))))) then
    (bif ((ltI p4.2.1 x.2.2.1)&&(!(ltI (qp (x.2.2.2.1 ((qh p4.1 p4.2.1 d),((qh p4.1 (qO .i64 p4.2.1 1) d),()))) (0,())).1 0))) then (ih3 (p4.1,((qQ .i64 p4.2.1 1),())))
     else pinT d N x.2.1 x.2.2.1 p4.2.1 x.2.2.2.1 (fun ys=>ih1 (ys,(p4.2.1,((qQ .i64 p2.2.2.1 1),())))) p4.1) else none))) (p2.1,(p2.2.1,()))) else (some ((false,()),(p2.1,())))))) (x.1,(y0,(0,())))):=rfl
theorem shR_ok {R:Type} (hφ:Cmp P φ le) (hn:n≤1099511627776) (hN:n+1<N) {K:List α→Option R} (Q:Option R→Prop) {xs:List α} (h:Ck P n xs) {i b:Int} (i0:0≤i) (hb:b≤(n:Int)) (hK:∀ys,Seg d n i b xs ys→Q (K ys)):Q (shR d N b φ K xs (i+1)):=by
 refine qa2 (S:=List α×(Int×Unit)) (fun p=>(b - p.2.1).toNat) (fun p=>Seg d n i b xs p.1∧i+1≤p.2.1) Q ?_ N _ ⟨.refl d _ _ xs,by simp only; omega⟩ (by simp only; omega)
 rintro ih ⟨ys,j,⟨⟩⟩ ⟨hs,hj⟩ hih
 simp only at hs hj hih⊢
 have hc:=hs.ck d h
 by_cases q:j<b
 ·have e1:qO .i64 j 1=j - 1:=qax (by omega) (by omega)
  have e2:qQ .i64 j 1=j+1:=qaz (by omega) (by omega)
  obtain ⟨c,a1,a2⟩:=qnI hφ (hc.get d (i:=j) (by omega) (by omega)) (hc.get d (i:=j - 1) (by omega) (by omega))
  simp only [ltT q,cond_true,e1,e2,hc.inB (i:=j) (by omega) (by omega),hc.inB (i:=j - 1) (by omega) (by omega),a1,qg,qj,Bool.and_self,qec]
  rcases a2 with ⟨a3,-,-⟩|⟨a3,-⟩
  ·simp only [ltT a3,Bool.not_true,cond_false]
   exact hih (swp d ys j (j - 1),(j+1,())) ⟨hs.trans d (qd6 d hc.len i0 hb (by omega) (by omega) (by omega) (by omega)),by simp only; omega⟩ (by simp only; omega)
  ·simp only [ltF a3,Bool.not_false,cond_true]
   exact hK ys hs
 ·simp only [ltF q,cond_false]
  exact hK ys hs
theorem qvr {R:Type} (hφ:Cmp P φ le) (hn:n≤1099511627776) (hN:n+1<N) {K:List α→Option R} (Q:Option R→Prop) {xs:List α} (h:Ck P n xs) {i b:Int} (i0:0≤i) (ib:i<b) (hb:b≤(n:Int)) (hK:∀ys,Seg d n i b xs ys→Q (K ys)):Q (pinR d N b φ i K xs):=by
 have e1:qO .i64 b i=b - i:=qax (by omega) (by omega)
 have e2:qQ .i64 i 1=i+1:=qaz (by omega) (by omega)
 simp only [pinR,e1,e2]
 by_cases q:2≤b - i
 ·rw [leT q,cond_true]; exact shR_ok d hφ hn hN Q h i0 hb hK
 ·rw [leF q,cond_false]; exact hK xs (.refl d _ _ xs)
theorem shL_ok {R:Type} (hφ:Cmp P φ le) (hn:n≤1099511627776) (hN:n+1<N) {K:List α→Option R} (Q:Option R→Prop) {xs:List α} (h:Ck P n xs) {a i b:Int} (a0:0≤a) (ia:a+2≤i) (ib:i<b) (hb:b≤(n:Int)) (hp:Pre d le a b xs) (hs0:Srt d le a (i - 1) xs) (hK:∀ys,Seg d n a b xs ys→Srt d le a i ys→Q (K ys)):Q (shL d N φ K xs (i - 1)):=by
 refine qa2 (S:=List α×(Int×Unit)) (fun p=>(p.2.1).toNat) (fun p=>Seg d n a b xs p.1∧a≤p.2.1∧p.2.1≤i - 1∧∀x y,a≤x→x<y→y≤i - 1→y≠p.2.1→le (qh p.1 x d) (qh p.1 y d)) Q ?_ N _ ⟨.refl d _ _ xs,by simp only; omega,by simp only; omega,fun x y h1 h2 h3 h4=>hs0 x y h1 (by omega) (by simp only at h4⊢; omega)⟩ (by simp only; omega)
 rintro ih ⟨zs,j,⟨⟩⟩ ⟨hz,hj1,hj2,hord⟩ hih
 simp only at hz hj1 hj2 hord hih⊢
 have hzc:=hz.ck d h
 have hpz:=hz.pre d hb hp
 have fin:(a<j→le (qh zs (j - 1) d) (qh zs j d))→Srt d le a i zs:=fun hle x y h1 h2 h3=>by
  by_cases hxy:x=y
  ·subst hxy; exact hφ.refl (hzc.get d (by omega) (by omega))
  by_cases hyj:y=j
  ·subst hyj
   by_cases hx:x=y - 1
   ·rw [hx]; exact hle (by omega)
   ·exact hφ.trans _ _ _ (hzc.get d (by omega) (by omega)) (hzc.get d (i:=y - 1) (by omega) (by omega)) (hzc.get d (by omega) (by omega)) (hord x (y - 1) h1 (by omega) (by omega) (by omega)) (hle (by omega))
  ·exact hord x y h1 (by omega) (by omega) hyj
 by_cases hj0:1≤j
 ·have e1:qO .i64 j 1=j - 1:=qax (by omega) (by omega)
  have pj:=hzc.get d (i:=j) (by omega) (by omega)
  have pk:=hzc.get d (i:=j - 1) (by omega) (by omega)
  obtain ⟨c,a1,a2⟩:=qnI hφ pj pk
  simp only [leT hj0,cond_true,e1,hzc.inB (i:=j) (by omega) (by omega),hzc.inB (i:=j - 1) (by omega) (by omega),a1,qg,qj,Bool.and_self,qec]
  rcases a2 with ⟨a3,a4,hle⟩|⟨a3,a4⟩
  ·simp only [ltT a3,Bool.not_true,cond_false]
   have hja:a<j:=by
    by_cases w:a<j
    ·exact w
    ·have:j=a:=by omega
     subst this
     exact absurd (hpz (by omega) j (by omega) (by omega)) a4
   have g:=qfq d hzc.len (i:=j) (j:=j - 1) (by omega) (by omega) (by omega) (by omega)
   refine hih (swp d zs j (j - 1),(j - 1,())) ⟨hz.trans d (qd6 d hzc.len a0 hb (by omega) (by omega) (by omega) (by omega)),by simp only; omega,by simp only; omega,fun x y h1 h2 h3 h4=> ?_⟩ (by simp only; omega)
   simp only at h4⊢
   rw [g x (by omega),g y (by omega)]
   rw [if_neg h4]
   by_cases hy:y=j
   ·rw [if_pos hy]
    by_cases hx:x=j - 1
    ·rw [if_pos hx]; exact hle
    ·rw [if_neg hx,if_neg (by omega)]; exact hord x (j - 1) h1 (by omega) (by omega) (by omega)
   ·rw [if_neg hy]
    by_cases hx:x=j - 1
    ·rw [if_pos hx]; exact hord j y (by omega) (by omega) h3 hy
    ·rw [if_neg hx]
     by_cases hx2:x=j
     ·rw [if_pos hx2]; exact hord (j - 1) y (by omega) (by omega) h3 hy
     ·rw [if_neg hx2]; exact hord x y h1 h2 h3 hy
  ·simp only [ltF a3,Bool.not_false,cond_true]
   exact hK zs hz (fin fun _=>a4)
 ·simp only [leF hj0,cond_false]
  exact hK zs hz (fin fun w=>by omega)
def qkc (d:α) (n:Nat) (le:α→α→Prop) (a b:Int) (xs:List α) (r:Option ((Bool×Unit)×(List α×Unit))):Prop:=∃fl out,r=some ((fl,()),(out,()))∧Seg d n a b xs out∧(fl=true→Srt d le a b out)
theorem qr8 (hφ:Cmp P φ le) (hn:n≤1099511627776) (hN:n+10<N) {xs:List α} (h:Ck P n xs) {a b:Int} (ha:0≤a) (hab:a<b) (hb:b≤(n:Int)) (hp:Pre d le a b xs):qkc d n le a b xs (qcg d N (xs,(a,(b,(φ,()))))):=by
 have e1:qQ .i64 a 1=a+1:=qaz (by omega) (by omega)
 rw [qsb]
 simp only [qI,e1]
 refine qa2 (S:=List α×(Int×(Int×Unit))) (fun p=>(5 - p.2.2.1).toNat) (fun p=>Seg d n a b xs p.1∧a+1≤p.2.1∧p.2.1≤b∧0≤p.2.2.1∧Srt d le a p.2.1 p.1) (qkc d n le a b xs) ?_ N _ ⟨.refl d _ _ xs,by simp only; omega,by simp only; omega,by simp only; omega,fun i j h1 h2 h3=>by
  simp only at h3
  have:i=j:=by omega
  subst this
  exact hφ.refl (h.get d (by omega) (by omega))⟩ (by simp only; omega)
 rintro ih ⟨ys,i,c,⟨⟩⟩ ⟨hs,hi,hib,hc0,hsrt⟩ hih
 simp only at hs hi hib hc0 hsrt hih⊢
 by_cases hc5:c<5
 ·have ec:qQ .i64 c 1=c+1:=qaz (by omega) (by omega)
  simp only [ltT hc5,cond_true,ec]
  have hcy:=hs.ck d h
  refine qa2 (S:=List α×(Int×Unit)) (fun p=>(b - p.2.1).toNat) (fun p=>p.1=ys∧i≤p.2.1∧p.2.1≤b∧Srt d le a p.2.1 ys) (qkc d n le a b xs) ?_ N _ ⟨rfl,by simp only; omega,by simp only; omega,hsrt⟩ (by simp only; omega)
  rintro jh ⟨ys',j,⟨⟩⟩ ⟨hy,hj1,hj2,hso⟩ hjh
  simp only at hy hj1 hj2 hso hjh⊢
  subst hy
  have s1:qO .i64 j 1=j - 1:=qax (by omega) (by omega)
  by_cases hjb:j<b
  ·have pj:=hcy.get d (i:=j) (by omega) (by omega)
   have pk:=hcy.get d (i:=j - 1) (by omega) (by omega)
   obtain ⟨v,a1,a2⟩:=qnI hφ pj pk
   simp only [ltT hjb,s1,hcy.inB (i:=j) (by omega) (by omega),hcy.inB (i:=j - 1) (by omega) (by omega),a1,qg,qj,Bool.not_true,Bool.false_or,Bool.true_and,Bool.and_self,cond_true]
   rcases a2 with ⟨a3,a4,hle⟩|⟨a3,a4⟩
   ·simp only [ltT a3,Bool.not_true,cond_false]
    have e5:qO .i64 b a=b - a:=qax (by omega) (by omega)
    have e6:qO .i64 j a=j - a:=qax (by omega) (by omega)
    simp only [pinT,s1,e5,e6,eqF (show ¬j=b by omega),cond_false,hcy.inB (i:=j) (by omega) (by omega),hcy.inB (i:=j - 1) (by omega) (by omega),qec,Bool.and_self,cond_true]
    by_cases h50:b - a<50
    ·rw [ltT h50,cond_true]
     exact ⟨false,ys',rfl,hs,fun w=>by cases w⟩
    rw [ltF h50,cond_false]
    have hsw:Seg d n a b ys' (swp d ys' j (j - 1)):=qd6 d hcy.len ha hb (by omega) (by omega) (by omega) (by omega)
    have hcs:=hsw.ck d hcy
    have g:=qfq d hcy.len (i:=j) (j:=j - 1) (by omega) (by omega) (by omega) (by omega)
    have post:∀zs,Seg d n a b xs zs→Srt d le a j zs→qkc d n le a b xs (pinR d N b φ j (fun ys=>ih (ys,(j,(c+1,())))) zs):=fun zs z1 z2=>by
     refine qvr d hφ hn (by omega) (qkc d n le a b xs) (z1.ck d h) (by omega) hjb hb fun ws w1=> ?_
     refine hih (ws,(j,(c+1,()))) ⟨z1.trans d (w1.mono d ha hb (by omega) (by omega)),by simp only; omega,by simp only; omega,by simp only; omega,fun x y h1 h2 h3=> ?_⟩ (by simp only; omega)
     simp only at h3⊢
     rw [w1.out x (by omega) (by omega) (by omega),w1.out y (by omega) (by omega) (by omega)]
     exact z2 x y h1 h2 h3
    by_cases hj2a:2≤j - a
    ·rw [leT hj2a,cond_true]
     refine shL_ok d hφ hn (by omega) (qkc d n le a b xs) (a:=a) (i:=j) (b:=b) hcs ha (by omega) hjb hb (hsw.pre d hb (hs.pre d hb hp)) (fun x y h1 h2 h3=> ?_) fun zs z1 z2=>post zs ((hs.trans d hsw).trans d z1) z2
     have e1:qh (swp d ys' j (j - 1)) x d=qh ys' x d:=by rw [g x (by omega),if_neg (by omega),if_neg (by omega)]
     have e2:qh (swp d ys' j (j - 1)) y d=qh ys' y d:=by rw [g y (by omega),if_neg (by omega),if_neg (by omega)]
     show le (qh (swp d ys' j (j - 1)) x d) (qh (swp d ys' j (j - 1)) y d)
     rw [e1,e2]
     exact hso x y h1 h2 (by omega)
    ·rw [leF hj2a,cond_false]
     refine post (swp d ys' j (j - 1)) (hs.trans d hsw) fun x y h1 h2 h3=> ?_
     have:x=y:=by omega
     subst this
     exact hφ.refl (hcs.get d (by omega) (by omega))
   ·have e2:qQ .i64 j 1=j+1:=qaz (by omega) (by omega)
    simp only [ltF a3,Bool.not_false,cond_true,e2]
    refine hjh _ ⟨rfl,by simp only; omega,by simp only; omega,fun x y h1 h2 h3=> ?_⟩ (by simp only; omega)
    simp only at h3
    by_cases hy:y=j
    ·subst hy
     by_cases hx:x=y
     ·subst hx; exact hφ.refl pj
     ·exact hφ.trans _ _ _ (hcy.get d (i:=x) (by omega) (by omega)) pk pj (hso x (y - 1) h1 (by omega) (by omega)) a4
    ·exact hso x y h1 h2 (by omega)
  ·have:j=b:=by omega
   simp only [ltF hjb,Bool.not_false,Bool.true_or,Bool.and_self,cond_true,Bool.false_and,cond_false,pinT,eqT this]
   subst this
   exact ⟨true,ys',rfl,hs,fun _=>hso⟩
 ·simp only [ltF hc5,cond_false]
  exact ⟨false,ys,rfl,hs,fun w=>by cases w⟩
def pdqT (d:α) (N:Nat) (Fs:((List α)×(Int×(Int×(Int×(((α×(α×Unit))→(Option (Int×Unit)))×Unit)))))→(Option (Unit×((List α)×Unit)))) (φ:(α×(α×Unit))→Option (Int×Unit))
  (y2 y3 y5 y6 y9:Int) (bal par:Bool) (ih0:(List α×(Int×(Int×(Int×(Bool×(Bool×Unit))))))→Option (Unit×(List α×Unit))) (zs:List α):Option (Unit×(List α×Unit)):=
 (bif (((!(ltI 0 y5))||(inB (qO .i64 y5 1) (qn zs)))&&(((!(ltI 0 y5))||(inB y9 (qn zs)))&&((!(ltI 0 y5))||(qw (φ ((qh zs (qO .i64 y5 1) d),((qh zs y9 d),()))))))) then (qW ((ltI 0 y5)&&(!(ltI (qp (φ ((qh zs (qO .i64 y5 1) d),((qh zs y9 d),()))) (0,())).1 0))) (fun y12=>(bif y12 then (bif (qw (qg4 d N (zs,(y5,(y6,(y9,(φ,()))))))) then (qW (qp (qg4 d N (zs,(y5,(y6,(y9,(φ,())))))) ((0,()),(([]:List α),()))).2.1 (fun ys13=>(qW y6 (fun y14=>(qW (qp (qg4 d N (zs,(y5,(y6,(y9,(φ,())))))) ((0,()),(([]:List α),()))).1.1 (fun y15=>(ih0 (ys13,(y15,(y14,(y3,(bal,(par,()))))))))))))) else none) else (bif (qw (qe2 d N (zs,(y5,(y6,(y9,(φ,()))))))) then (qW (qp (qe2 d N (zs,(y5,(y6,(y9,(φ,())))))) ((0,(false,())),(([]:List α),()))).2.1 (fun ys13=>(qW y5 (fun y14=>(qW y6 (fun y15=>(qW (qp (qe2 d N (zs,(y5,(y6,(y9,(φ,())))))) ((0,(false,())),(([]:List α),()))).1.1 (fun y16=>(qW (qp (qe2 d N (zs,(y5,(y6,(y9,(φ,())))))) ((0,(false,())),(([]:List α),()))).1.2.1 (fun y17=>(qW (qO .i64 y16 y14) (fun y18=>(qW (qO .i64 y15 y16) (fun y19=>(bif (neI 8 0) then (qW (qom .i64 y2 8) (fun y20=>(bif (bif (ltI y18 y19) then (qw (Fs (ys13,(y14,(y16,(y3,(φ,()))))))) else (qw (Fs (ys13,((qQ .i64 y16 1),(y15,(y3,(φ,())))))))) then (ih0 ((bif (ltI y18 y19) then (qp (Fs (ys13,(y14,(y16,(y3,(φ,())))))) ((),(([]:List α),()))).2.1 else (qp (Fs (ys13,((qQ .i64 y16 1),(y15,(y3,(φ,())))))) ((),(([]:List α),()))).2.1),((bif (ltI y18 y19) then (qQ .i64 y16 1) else y14),((bif (ltI y18 y19) then y15 else y16),(y3,((bif (ltI y18 y19) then (leI y20 y18) else (leI y20 y19)),(y17,()))))))) else none))) else none))))))))))))))) else none)))) else none)
def pdqU (d:α) (N:Nat) (Fs:((List α)×(Int×(Int×(Int×(((α×(α×Unit))→(Option (Int×Unit)))×Unit)))))→(Option (Unit×((List α)×Unit)))) (φ:(α×(α×Unit))→Option (Int×Unit))
  (y2 y3 y5 y6 y7 y8:Int) (bal par:Bool) (ih0:(List α×(Int×(Int×(Int×(Bool×(Bool×Unit))))))→Option (Unit×(List α×Unit))) (ys4:List α):Option (Unit×(List α×Unit)):=
 (bif (bif (eqI y8 2) then (qw (qbn d N (ys4,(y5,(y6,(φ,())))))) else true) then (qW (bif (eqI y8 2) then (qO .i64 (qO .i64 y6 1) (qO .i64 y7 y5)) else y7) (fun y9=>(qW (bif (eqI y8 2) then 1 else y8) (fun y10=>(qW ((bal&&par)&&(eqI y10 1)) (fun y11=>(bif y11 then (bif (qw (qcg d N ((bif (eqI y8 2) then (qp (qbn d N (ys4,(y5,(y6,(φ,()))))) ((),(([]:List α),()))).2.1 else ys4),(y5,(y6,(φ,())))))) then (bif (qp (qcg d N ((bif (eqI y8 2) then (qp (qbn d N (ys4,(y5,(y6,(φ,()))))) ((),(([]:List α),()))).2.1 else ys4),(y5,(y6,(φ,()))))) ((false,()),(([]:List α),()))).1.1 then (some ((),((qp (qcg d N ((bif (eqI y8 2) then (qp (qbn d N (ys4,(y5,(y6,(φ,()))))) ((),(([]:List α),()))).2.1 else ys4),(y5,(y6,(φ,()))))) ((false,()),(([]:List α),()))).2.1,())))
  else pdqT d N Fs φ y2 y3 y5 y6 y9 bal par ih0 (qp (qcg d N ((bif (eqI y8 2) then (qp (qbn d N (ys4,(y5,(y6,(φ,()))))) ((),(([]:List α),()))).2.1 else ys4),(y5,(y6,(φ,()))))) ((false,()),(([]:List α),()))).2.1) else none)
  else pdqT d N Fs φ y2 y3 y5 y6 y9 bal par ih0 (bif (eqI y8 2) then (qp (qbn d N (ys4,(y5,(y6,(φ,()))))) ((),(([]:List α),()))).2.1 else ys4)))))))) else none)
theorem qvD (L:(Int×Unit)→Option ((Int×Unit)×Unit)) (Fs:((List α)×(Int×(Int×(Int×(((α×(α×Unit))→(Option (Int×Unit)))×Unit)))))→(Option (Unit×((List α)×Unit)))) (x:((List α)×(Int×(Int×(Int×(((α×(α×Unit))→(Option (Int×Unit)))×Unit)))))):pdqS d N L Fs x=
 (qZ (S:=((List α)×(Int×(Int×(Int×(Bool×(Bool×Unit))))))) (R:=(Unit×((List α)×Unit))) N (fun ih0=>(fun p1=>(qW (qO .i64 p1.2.2.1 p1.2.1) (fun y2=>(bif (leI y2 12) then (bif (qw (qfA d N (p1.1,(p1.2.1,(p1.2.2.1,(x.2.2.2.2.1,())))))) then (some ((),((qp (qfA d N (p1.1,(p1.2.1,(p1.2.2.1,(x.2.2.2.2.1,()))))) ((),(([]:List α),()))).2.1,()))) else none) else (bif (eqI p1.2.2.2.1 0) then (bif (qw (qpk d N (p1.1,(p1.2.1,(p1.2.2.1,(x.2.2.2.2.1,())))))) then (some ((),((qp (qpk d N (p1.1,(p1.2.1,(p1.2.2.1,(x.2.2.2.2.1,()))))) ((),(([]:List α),()))).2.1,()))) else none) else (bif (bif (!p1.2.2.2.2.1) then (qw (qgl d N L (p1.1,(p1.2.1,(p1.2.2.1,(x.2.2.2.2.1,())))))) else true) then (qW (bif (!p1.2.2.2.2.1) then (qO .i64 p1.2.2.2.1 1) else p1.2.2.2.1) (fun y3=>(bif (qw (qfk d N ((bif (!p1.2.2.2.2.1) then (qp (qgl d N L (p1.1,(p1.2.1,(p1.2.2.1,(x.2.2.2.2.1,()))))) ((),(([]:List α),()))).2.1 else p1.1),(p1.2.1,(p1.2.2.1,(x.2.2.2.2.1,())))))) then (qW (qp (qfk d N ((bif (!p1.2.2.2.2.1) then (qp (qgl d N L (p1.1,(p1.2.1,(p1.2.2.1,(x.2.2.2.2.1,()))))) ((),(([]:List α),()))).2.1 else p1.1),(p1.2.1,(p1.2.2.1,(x.2.2.2.2.1,()))))) ((0,(0,())),(([]:List α),()))).2.1 (fun ys4=>(qW p1.2.1 (fun y5=>(qW p1.2.2.1 (fun y6=>(qW (qp (qfk d N ((bif (!p1.2.2.2.2.1) then (qp (qgl d N L (p1.1,(p1.2.1,(p1.2.2.1,(x.2.2.2.2.1,()))))) ((),(([]:List α),()))).2.1 else p1.1),(p1.2.1,(p1.2.2.1,(x.2.2.2.2.1,()))))) ((0,(0,())),(([]:List α),()))).1.1 (fun y7=>(qW (qp (qfk d N ((bif (!p1.2.2.2.2.1) then (qp (qgl d N L (p1.1,(p1.2.1,(p1.2.2.1,(x.2.2.2.2.1,()))))) ((),(([]:List α),()))).2.1 else p1.1),(p1.2.1,(p1.2.2.1,(x.2.2.2.2.1,()))))) ((0,(0,())),(([]:List α),()))).1.2.1 (fun y8=>pdqU d N Fs x.2.2.2.2.1 y2 y3 y5 y6 y7 y8 p1.2.2.2.2.1 p1.2.2.2.2.2.1 ih0 ys4))))))))))
  else none))) else none))))))) (x.1,(x.2.1,(x.2.2.1,(x.2.2.2.1,(true,(true,()))))))):=rfl
structure qrF (d:α) (n:Nat) (le:α→α→Prop) (a0 b0:Int) (xs ys:List α) (a b:Int):Prop where
 seg:Seg d n a0 b0 xs ys
 la:a0≤a
 ab:a≤b
 rb:b≤b0
 pre:Pre d le a b ys
 lo:∀i j,a0≤i→i<a→i≤j→j<b0→le (qh ys i d) (qh ys j d)
 hi:∀i j,a0≤i→i≤j→b≤j→j<b0→le (qh ys i d) (qh ys j d)
theorem qrF.move {a0 b0 a b:Int} {xs ys zs:List α} (h:qrF d n le a0 b0 xs ys a b) (h0:0≤a0) (hn:b0≤(n:Int)) (hs:Seg d n a b ys zs):qrF d n le a0 b0 xs zs a b:=by
 have h1:=h.la; have h2:=h.rb; have h3:=h.ab
 refine ⟨h.seg.trans d (hs.mono d h0 hn h1 h2),h1,h3,h2,hs.pre d (by omega) h.pre,fun i j q1 q2 q3 q4=> ?_,fun i j q1 q2 q3 q4=> ?_⟩
 ·rw [hs.out i (by omega) (by omega) (by omega)]
  by_cases w:a≤j∧j<b
  ·obtain ⟨m,m1,m2,m3⟩:=hs.inn j w.1 w.2
   rw [m3]; exact h.lo i m q1 q2 (by omega) (by omega)
  ·rw [hs.out j (by omega) (by omega) (by omega)]; exact h.lo i j q1 q2 q3 q4
 ·rw [hs.out j (by omega) (by omega) (by omega)]
  by_cases w:a≤i∧i<b
  ·obtain ⟨m,m1,m2,m3⟩:=hs.inn i w.1 w.2
   rw [m3]; exact h.hi m j (by omega) (by omega) q3 q4
  ·rw [hs.out i (by omega) (by omega) (by omega)]; exact h.hi i j q1 q2 q3 q4
theorem qrF.fin {a0 b0 a b:Int} {xs ys:List α} (h:qrF d n le a0 b0 xs ys a b) (hs:Srt d le a b ys):Srt d le a0 b0 ys:=fun i j q1 q2 q3=>by
 by_cases w1:i<a
 ·exact h.lo i j q1 w1 q2 q3
 ·by_cases w2:b≤j
  ·exact h.hi i j q1 q2 w2 q3
  ·exact hs i j (by omega) q2 (by omega)
theorem qrF.ends {a0 b0 a b:Int} {xs ys zs:List α} (h:qrF d n le a0 b0 xs ys a b) (h0:0≤a0) (hn:b0≤(n:Int)) (hs:Seg d n a b ys zs) (hz:Srt d le a b zs):qpj P d n le a0 b0 xs (some ((),(zs,()))):=
 ⟨zs,rfl,(h.move d h0 hn hs).seg,(h.move d h0 hn hs).fin d hz⟩
def FsOk (P:α→Prop) (d:α) (n:Nat) (le:α→α→Prop) (φ:(α×(α×Unit))→Option (Int×Unit)) (M:Int) (Fs:((List α)×(Int×(Int×(Int×(((α×(α×Unit))→(Option (Int×Unit)))×Unit)))))→(Option (Unit×((List α)×Unit)))):Prop:=
 ∀(xs:List α) (a b l:Int),Ck P n xs→0≤a→a≤b→b≤(n:Int)→b - a<M→Pre d le a b xs→qpj P d n le a b xs (Fs (xs,(a,(b,(l,(φ,()))))))
theorem qsV (hφ:Cmp P φ le) (hn:n≤1099511627776) (hN:n+10<N) {M:Int} {Fs} (hF:FsOk P d n le φ M Fs) {xs:List α} (h:Ck P n xs) {a0 b0:Int} (h0:0≤a0) (hb0:b0≤(n:Int)) {a b l l2 pv:Int} {bal par:Bool} {ih0:(List α×(Int×(Int×(Int×(Bool×(Bool×Unit))))))→Option (Unit×(List α×Unit))} {zs:List α}
  (hz:qrF d n le a0 b0 xs zs a b) (hM:b - a≤M) (hpa:a≤pv) (hpb:pv<b)
  (hih:∀ys a' b' l' bal' par',qrF d n le a0 b0 xs ys a' b'→b' - a'<b - a→qpj P d n le a0 b0 xs (ih0 (ys,(a',(b',(l',(bal',(par',()))))))) ):
  qpj P d n le a0 b0 xs (pdqT d N Fs φ l2 l a b pv bal par ih0 zs):=by
 have h1:=hz.la; have h2:=hz.rb; have h3:=hz.ab
 have hzc:=hz.seg.ck d h
 have pp:=hzc.get d (i:=pv) (by omega) (by omega)
 obtain ⟨t,w1,w2,w3⟩:∃t,((!ltI 0 a||inB (qO .i64 a 1) (qn zs))&&((!ltI 0 a||inB pv (qn zs))&&(!ltI 0 a||qw (φ (qh zs (qO .i64 a 1) d,(qh zs pv d,()))))))=true∧(ltI 0 a&& !ltI (qp (φ (qh zs (qO .i64 a 1) d,(qh zs pv d,()))) (0,())).1 0)=t∧(t=true→0<a∧le (qh zs pv d) (qh zs (a - 1) d)):=by
  by_cases q:0<a
  ·have e1:qO .i64 a 1=a - 1:=qax (by omega) (by omega)
   obtain ⟨c,a1,a2⟩:=qnI hφ (hzc.get d (i:=a - 1) (by omega) (by omega)) pp
   rw [e1,a1,hzc.inB (i:=a - 1) (by omega) (by omega),hzc.inB (i:=pv) (by omega) (by omega),ltT q,qg,qj]
   rcases a2 with ⟨a3,a4,-⟩|⟨a3,a4⟩
   ·rw [ltT a3]; exact ⟨false,rfl,rfl,fun w=>by cases w⟩
   ·rw [ltF a3]; exact ⟨true,rfl,rfl,fun _=>⟨q,a4⟩⟩
  ·rw [ltF q]; exact ⟨false,by simp only [Bool.not_false,Bool.true_or,Bool.and_self],by simp only [Bool.false_and],fun w=>by cases w⟩
 simp only [pdqT,qI,w1,w2,cond_true]
 cases t with
 |true=>
  obtain ⟨q,hle⟩:=w3 rfl
  obtain ⟨out,mid,o1,o2,o3,o4,o5⟩:=qsv d (N:=N) hφ hn (by omega) hzc (a:=a) (b:=b) (pv:=pv) (by omega) hpa hpb (by omega)
  simp only [cond_true,o1,qg,qj]
  have hm:=hz.move d h0 hb0 o2
  have hoc:=hm.seg.ck d h
  have eo:qh out (a - 1) d=qh zs (a - 1) d:=o2.out (a - 1) (by omega) (by omega) (by omega)
  have pa:=hzc.get d (i:=a - 1) (by omega) (by omega)
  have low:∀i j,a≤i→i<mid→i≤j→j<b0→le (qh out i d) (qh out j d):=fun i j q1 q2 q3 q4=>by
   by_cases w:b≤j
   ·exact hm.hi i j (by omega) q3 w q4
   ·have pi:=hoc.get d (i:=i) (by omega) (by omega)
    have pj:=hoc.get d (i:=j) (by omega) (by omega)
    refine hφ.trans _ _ _ pi pp pj (o5 i q1 q2) (hφ.trans _ _ _ pp pa pj hle ?_)
    rw [←eo]
    exact hm.pre q j (by omega) (by omega)
  refine hih out mid b l bal par ⟨hm.seg,by omega,o4,h2,fun _ k k1 k2=>low (mid - 1) k (by omega) (by omega) (by omega) (by omega),fun i j q1 q2 q3 q4=> ?_,hm.hi⟩ (by omega)
  by_cases w:i<a
  ·exact hm.lo i j q1 w q3 q4
  ·exact low i j (by omega) q2 q3 q4
 |false=>
  have e8:neI 8 0=true:=neT (by omega)
  obtain ⟨out,mid,fl,o1,o2,o3,o4,o5,o6⟩:=qtc d (N:=N) hφ hn (by omega) hzc (a:=a) (b:=b) (pv:=pv) (by omega) hpa hpb (by omega)
  have s1:qO .i64 mid a=mid - a:=qax (by omega) (by omega)
  have s2:qO .i64 b mid=b - mid:=qax (by omega) (by omega)
  have s3:qQ .i64 mid 1=mid+1:=qaz (by omega) (by omega)
  simp only [cond_false,cond_true,o1,qg,qj,s1,s2,s3,e8]
  have hm:=hz.move d h0 hb0 o2
  have hoc:=hm.seg.ck d h
  have pm:=hoc.get d (i:=mid) (by omega) (by omega)
  by_cases q:mid - a<b - mid
  ·obtain ⟨r,r1,r2,r3⟩:=hF out a mid l hoc (by omega) o3 (by omega) (by omega) (fun w k k1 k2=>hm.pre w k k1 (by omega))
   simp only [ltT q,cond_true,r1,qg,qj]
   have hm2:=hm.move d h0 hb0 (r2.mono d (by omega) (by omega) (Int.le_refl a) (show mid≤b by omega))
   have hrc:=hm2.seg.ck d h
   have rm:∀k,mid≤k→k<(n:Int)→qh r k d=qh out k d:=fun k k1 k2=>r2.out k (by omega) k2 (by omega)
   have gm:∀k,mid≤k→k<b→le (qh out mid d) (qh r k d):=fun k k1 k2=>by
    rw [rm k k1 (by omega)]
    by_cases w:k=mid
    ·rw [w]; exact hφ.refl pm
    ·exact o6 k (by omega) k2
   have low:∀i j,a≤i→i≤mid→i≤j→j<b0→le (qh r i d) (qh r j d):=fun i j q1 q2 q3 q4=>by
    have pi:=hrc.get d (i:=i) (by omega) (by omega)
    have pj:=hrc.get d (i:=j) (by omega) (by omega)
    by_cases w:b≤j
    ·exact hm2.hi i j (by omega) q3 w q4
    ·by_cases wi:i=mid
     ·have:=gm j (by omega) (by omega)
      rw [wi,rm mid (by omega) (by omega)]; exact this
     ·by_cases wj:j<mid
      ·exact r3 i j q1 q3 wj
      ·obtain ⟨m,m1,m2,m3⟩:=r2.inn i q1 (by omega)
       rw [m3] at pi⊢
       exact hφ.trans _ _ _ pi pm pj (o5 m m1 m2) (gm j (by omega) (by omega))
   refine hih r (mid+1) b l _ _ ⟨hm2.seg,by omega,by omega,h2,fun _ k k1 k2=>by rw [show mid+1 - 1=mid by omega]; exact low mid k (by omega) (by omega) (by omega) (by omega),fun i j q1 q2 q3 q4=> ?_,hm2.hi⟩ (by omega)
   by_cases w:i<a
   ·exact hm2.lo i j q1 w q3 q4
   ·exact low i j (by omega) (by omega) q3 q4
  ·obtain ⟨r,r1,r2,r3⟩:=hF out (mid+1) b l hoc (by omega) (by omega) (by omega) (by omega) (fun w k k1 k2=>by rw [show mid+1 - 1=mid by omega]; exact o6 k (by omega) k2)
   simp only [ltF q,cond_false,r1,qg,qj,cond_true]
   have hm2:=hm.move d h0 hb0 (r2.mono d (by omega) (by omega) (show a≤mid+1 by omega) (Int.le_refl b))
   have hrc:=hm2.seg.ck d h
   have rm:∀k,0≤k→k≤mid→qh r k d=qh out k d:=fun k k1 k2=>r2.out k (by omega) (by omega) (by omega)
   have gm:∀k,a≤k→k≤mid→le (qh r k d) (qh out mid d):=fun k k1 k2=>by
    rw [rm k (by omega) (by omega)]
    by_cases w:k=mid
    ·rw [w]; exact hφ.refl pm
    ·exact o5 k (by omega) (by omega)
   have high:∀i j,a≤i→i≤j→mid≤j→j<b→le (qh r i d) (qh r j d):=fun i j q1 q2 q3 q4=>by
    have pi:=hrc.get d (i:=i) (by omega) (by omega)
    have pj:=hrc.get d (i:=j) (by omega) (by omega)
    by_cases wj:j=mid
    ·have:=gm i q1 (by omega)
     rw [wj,rm mid (by omega) (by omega)]; exact this
    ·by_cases wi:mid<i
     ·exact r3 i j (by omega) q2 q4
     ·obtain ⟨m,m1,m2,m3⟩:=r2.inn j (by omega) q4
      rw [m3] at pj⊢
      exact hφ.trans _ _ _ pi pm pj (gm i q1 (by omega)) (o6 m (by omega) m2)
   refine hih r a mid l _ _ ⟨hm2.seg,h1,o3,by omega,fun w k k1 k2=>hm2.pre w k k1 (by omega),hm2.lo,fun i j q1 q2 q3 q4=> ?_⟩ (by omega)
   by_cases w:b≤j
   ·exact hm2.hi i j q1 q2 w q4
   ·by_cases wi:i<a
    ·exact hm2.lo i j q1 wi q2 q4
    ·exact high i j (by omega) q2 q3 (by omega)
theorem qvE (hφ:Cmp P φ le) (hn:n≤1099511627776) (hN:n+10<N) {M:Int} {Fs} (hF:FsOk P d n le φ M Fs) {xs:List α} (h:Ck P n xs) {a0 b0:Int} (h0:0≤a0) (hb0:b0≤(n:Int)) {a b l l2 pv ht:Int} {bal par:Bool} {ih0:(List α×(Int×(Int×(Int×(Bool×(Bool×Unit))))))→Option (Unit×(List α×Unit))} {zs:List α}
  (hz:qrF d n le a0 b0 xs zs a b) (hM:b - a≤M) (hpa:a≤pv) (hpb:pv<b)
  (hih:∀ys a' b' l' bal' par',qrF d n le a0 b0 xs ys a' b'→b' - a'<b - a→qpj P d n le a0 b0 xs (ih0 (ys,(a',(b',(l',(bal',(par',()))))))) ):
  qpj P d n le a0 b0 xs (pdqU d N Fs φ l2 l a b pv ht bal par ih0 zs):=by
 have h1:=hz.la; have h2:=hz.rb; have h3:=hz.ab
 have hzc:=hz.seg.ck d h
 have e1:qO .i64 b 1=b - 1:=qax (by omega) (by omega)
 have e2:qO .i64 pv a=pv - a:=qax (by omega) (by omega)
 have e3:qO .i64 (b - 1) (pv - a)=b - 1 - (pv - a):=qax (by omega) (by omega)
 have key:∀(ws:List α) (p:Int) (t:Bool),Seg d n a b zs ws→a≤p→p<b→qpj P d n le a0 b0 xs
   (bif t then (bif (qw (qcg d N (ws,(a,(b,(φ,())))))) then (bif (qp (qcg d N (ws,(a,(b,(φ,()))))) ((false,()),(([]:List α),()))).1.1 then (some ((),((qp (qcg d N (ws,(a,(b,(φ,()))))) ((false,()),(([]:List α),()))).2.1,())))
    else pdqT d N Fs φ l2 l a b p bal par ih0 (qp (qcg d N (ws,(a,(b,(φ,()))))) ((false,()),(([]:List α),()))).2.1) else none)
   else pdqT d N Fs φ l2 l a b p bal par ih0 ws):=fun ws p t hs p1 p2=>by
  have hm:=hz.move d h0 hb0 hs
  have hwc:=hm.seg.ck d h
  cases t with
  |false=>exact qsV d hφ hn hN hF h h0 hb0 hm hM p1 p2 hih
  |true=>
   obtain ⟨fl,out,o1,o2,o3⟩:=qr8 d (N:=N) hφ hn hN hwc (a:=a) (b:=b) (by omega) (by omega) (by omega) hm.pre
   simp only [cond_true,o1,qg,qj]
   cases fl with
   |true=>exact hm.ends d h0 hb0 o2 (o3 rfl)
   |false=>exact qsV d hφ hn hN hF h h0 hb0 (hm.move d h0 hb0 o2) hM p1 p2 hih
 simp only [pdqU,qI,e1,e2,e3]
 by_cases q:ht=2
 ·obtain ⟨out,o1,o2⟩:=qta d (N:=N) (φ:=φ) hn (by omega) hzc (a:=a) (b:=b) (by omega) (by omega) (by omega)
  simp only [eqT q,cond_true,o1,qg,qj]
  exact key out (b - 1 - (pv - a)) _ o2 (by omega) (by omega)
 ·simp only [eqF q,cond_true,cond_false]
  exact key zs pv _ (.refl d _ _ zs) hpa hpb
theorem qvA (hφ:Cmp P φ le) {L:(Int×Unit)→Option ((Int×Unit)×Unit)} (hL:qro L) (hn:n≤1099511627776) (hN:n+10<N) {M:Int} {Fs} (hF:FsOk P d n le φ M Fs):FsOk P d n le φ (M+1) (pdqS d N L Fs):=by
 intro xs a0 b0 l0 h h0 hab hb0 hM hp
 rw [qvD]
 refine qa2 (S:=List α×(Int×(Int×(Int×(Bool×(Bool×Unit)))))) (fun p=>(p.2.2.1 - p.2.1).toNat) (fun p=>qrF d n le a0 b0 xs p.1 p.2.1 p.2.2.1) (qpj P d n le a0 b0 xs) ?_ N _ ⟨.refl d _ _ xs,Int.le_refl _,hab,Int.le_refl _,hp,fun i j q1 q2 q3 q4=>by simp only at q2; omega,fun i j q1 q2 q3 q4=>by simp only at q3; omega⟩ (by simp only; omega)
 rintro ih ⟨ys,a,b,l,bal,par,⟨⟩⟩ hz hih
 simp only at hz hih⊢
 have h1:=hz.la; have h2:=hz.rb; have h3:=hz.ab
 have hc:=hz.seg.ck d h
 have e1:qO .i64 b a=b - a:=qax (by omega) (by omega)
 simp only [qI,e1]
 by_cases q12:b - a≤12
 ·obtain ⟨out,o1,o2,o3⟩:=qqS d (N:=N) hφ hn (by omega) hc (a:=a) (b:=b) (by omega) (by omega) (by omega)
  simp only [leT q12,cond_true,o1,qg,qj]
  exact hz.ends d h0 hb0 o2 o3
 simp only [leF q12,cond_false]
 by_cases ql:l=0
 ·obtain ⟨out,o1,o2,o3⟩:=qtQ d (N:=N) hφ hn (by omega) hc (a:=a) (b:=b) (by omega) (by omega) (by omega)
  simp only [eqT ql,cond_true,o1,qg,qj]
  exact hz.ends d h0 hb0 o2 o3
 simp only [eqF ql,cond_false]
 have key:∀(ws:List α) (l1:Int),Seg d n a b ys ws→qpj P d n le a0 b0 xs (bif (qw (qfk d N (ws,(a,(b,(φ,())))))) then pdqU d N Fs φ (b - a) l1 a b (qp (qfk d N (ws,(a,(b,(φ,()))))) ((0,(0,())),(([]:List α),()))).1.1 (qp (qfk d N (ws,(a,(b,(φ,()))))) ((0,(0,())),(([]:List α),()))).1.2.1 bal par ih (qp (qfk d N (ws,(a,(b,(φ,()))))) ((0,(0,())),(([]:List α),()))).2.1 else none):=fun ws l1 hs=>by
  have hm:=hz.move d h0 hb0 hs
  obtain ⟨m,t,o1,o2,o3⟩:=qsu d (N:=N) hφ hn (hm.seg.ck d h) (a:=a) (b:=b) (by omega) (by omega) (by omega)
  simp only [o1,qg,qj,cond_true]
  exact qvE d hφ hn hN hF h h0 hb0 hm (by omega) o2 o3 fun zs a' b' l' bal' par' k1 k2=>hih (zs,(a',(b',(l',(bal',(par',())))))) k1 (by have:=k1.ab; simp only; omega)
 cases bal with
 |true=>
  simp only [Bool.not_true,cond_false,cond_true]
  exact key ys l (.refl d _ _ ys)
 |false=>
  obtain ⟨out,o1,o2⟩:=qty d (N:=N) (φ:=φ) hL hn hN hc (a:=a) (b:=b) (by omega) (by omega) (by omega)
  simp only [Bool.not_false,cond_true,o1,qg,qj]
  exact key out _ o2
theorem qsJ (hφ:Cmp P φ le) {L:(Int×Unit)→Option ((Int×Unit)×Unit)} (hL:qro L) (hn:n≤1099511627776) (hN:n+10<N):∀M:Nat,FsOk P d n le φ (M:Int) (pdqG d N L M)
 |0=>fun xs a b l h h0 hab hb hM hp=>by omega
 |M+1=>by
  have:=qvA d hφ hL hn hN (qsJ hφ hL hn hN M)
  exact this
theorem qss (hφ:Cmp P φ le) {L:(Int×Unit)→Option ((Int×Unit)×Unit)} (hL:qro L) (hn:n≤1099511627776) (hN:n+10<N) {xs:List α} (h:Ck P n xs):qpj P d n le 0 (n:Int) xs (qsf d N L (xs,(φ,()))):=by
 have el:qn xs=(n:Int):=by rw [qi,h.len]
 have eA:qcr .u64 (n:Int)=(n:Int):=by rw [qeu,qfb (by omega) (by omega)]
 obtain ⟨e,l1,-,-⟩:=hL n hn
 obtain ⟨out,o1,o2,o3⟩:=qsJ d hφ hL hn hN N xs 0 (n:Int) (e:Int) h (Int.le_refl 0) (by omega) (Int.le_refl _) (by omega) (fun w=>by omega)
 simp only [qsf,qI,el,eA,l1,o1,qg,qj,Bool.and_self,cond_true]
 exact ⟨out,rfl,o2,o3⟩
end
end
end Go.Vi
