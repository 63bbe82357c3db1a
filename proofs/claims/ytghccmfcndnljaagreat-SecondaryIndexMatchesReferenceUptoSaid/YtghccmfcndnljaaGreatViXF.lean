import Derived.Test.YtghccmfcndnljaaGreatViXE
set_option linter.unusedVariables false
set_option linter.unusedSimpArgs false
set_option linter.unnecessarySimpa false
set_option linter.unusedSectionVars false
set_option linter.unusedSimpArgs false
set_option linter.unusedVariables false
set_option maxRecDepth 100000
open Bool renaming and_eq_true → zad, and_self → zak, false_and → za7, not_eq_true' → za8, not_false → zaY, not_true → zaT, true_and → zbd
open Int renaming le_refl → za9, toNat_natCast → zaJ
open List renaming drop_eq_getElem_cons → zaO, drop_of_length_le → za1, getD_eq_getElem?_getD → zaz, getElem?_eq_getElem → zaa, getElem?_eq_some_iff → zao, length_cons → zba, length_drop → zap, mem_cons_of_mem → zae, mem_cons_self → zai, pairwise_iff_getElem → zaQ, take_length → za5
open Nat renaming le_refl → zay, mul_le_mul_right → zaq, zero_le → za6
open Prod renaming mk → zbh
namespace Go.Vi
noncomputable section
def qkZ {α:Type}(d:α) (N:Nat) (x:((List α)×(Int×(Int×(Int×(((α×(α×Unit))→(Option (Int×Unit)))×Unit)))))):(Option (Unit×((List α)×Unit))):=
 (qaf (S:=((List α)×(Int×Unit))) (R:=(Unit×((List α)×Unit))) N (fun ih0=>(fun p1=>(qW (qQ .i64 (qj4 .i64 2 p1.2.1) 1) (fun y2=>(bif (leI x.2.2.1 y2)then(some ((),(p1.1,())))else(bif (((!(ltI (qQ .i64 y2 1) x.2.2.1))||(inB (qQ .i64 x.2.2.2.1 y2) (qs p1.1)))&&(((!(ltI (qQ .i64 y2 1) x.2.2.1))||(inB (qQ .i64 (qQ .i64 x.2.2.2.1 y2) 1) (qs p1.1)))&&((!(ltI (qQ .i64 y2 1) x.2.2.1))||(qx (x.2.2.2.2.1 ((qh p1.1 (qQ .i64 x.2.2.2.1 y2) d),((qh p1.1 (qQ .i64 (qQ .i64 x.2.2.2.1 y2) 1) d),())))))))then(qW ((ltI (qQ .i64 y2 1) x.2.2.1)&&(ltI (qi (x.2.2.2.2.1 ((qh p1.1 (qQ .i64 x.2.2.2.1 y2) d),((qh p1.1 (qQ .i64 (qQ .i64 x.2.2.2.1 y2) 1) d),()))) (0,())).1 0)) (fun y3=>(qW (bif y3 then(qQ .i64 y2 1)else y2) (fun y4=>(bif ((inB (qQ .i64 x.2.2.2.1 p1.2.1) (qs p1.1))&&((inB (qQ .i64 x.2.2.2.1 y4) (qs p1.1))&&(qx (x.2.2.2.2.1 ((qh p1.1 (qQ .i64 x.2.2.2.1 p1.2.1) d),((qh p1.1 (qQ .i64 x.2.2.2.1 y4) d),()))))))then(bif (!(ltI (qi (x.2.2.2.2.1 ((qh p1.1 (qQ .i64 x.2.2.2.1 p1.2.1) d),((qh p1.1 (qQ .i64 x.2.2.2.1 y4) d),()))) (0,())).1 0))then(some ((),(p1.1,())))else(bif ((inB (qQ .i64 x.2.2.2.1 y4) (qs p1.1))&&((inB (qQ .i64 x.2.2.2.1 p1.2.1) (qs p1.1))&&((inB (qQ .i64 x.2.2.2.1 p1.2.1) (qs p1.1))&&(inB (qQ .i64 x.2.2.2.1 y4) (qs (qbh p1.1 (qQ .i64 x.2.2.2.1 p1.2.1) (qh p1.1 (qQ .i64 x.2.2.2.1 y4) d)))))))then(ih0 ((qbh (qbh p1.1 (qQ .i64 x.2.2.2.1 p1.2.1) (qh p1.1 (qQ .i64 x.2.2.2.1 y4) d)) (qQ .i64 x.2.2.2.1 y4) (qh p1.1 (qQ .i64 x.2.2.2.1 p1.2.1) d)),(y4,())))else none))else none)))))else none)))))) (x.1,(x.2.1,())))
def qp6 {α:Type}(d:α) (N:Nat) (x:((List α)×(Int×(Int×(((α×(α×Unit))→(Option (Int×Unit)))×Unit))))):(Option (Unit×((List α)×Unit))):=
 (qW (qR .i64 x.2.2.1 x.2.1) (fun y0=>(bif (neI 2 0)then(qaf (S:=((List α)×(Int×Unit))) (R:=(Unit×((List α)×Unit))) N (fun ih1=>(fun p2=>(bif (leI 0 p2.2.1)then(bif (qx (qkZ d N (p2.1,(p2.2.1,(y0,(x.2.1,(x.2.2.2.1,())))))))then(ih1 ((qi (qkZ d N (p2.1,(p2.2.1,(y0,(x.2.1,(x.2.2.2.1,())))))) ((),(([]:List α),()))).2.1,((qR .i64 p2.2.1 1),())))else none)else(qaf (S:=((List α)×(Int×Unit))) (R:=(Unit×((List α)×Unit))) N (fun ih3=>(fun p4=>(bif (leI 0 p4.2.1)then(bif ((inB (qQ .i64 x.2.1 p4.2.1) (qs p4.1))&&((inB x.2.1 (qs p4.1))&&((inB x.2.1 (qs p4.1))&&(inB (qQ .i64 x.2.1 p4.2.1) (qs (qbh p4.1 x.2.1 (qh p4.1 (qQ .i64 x.2.1 p4.2.1) d)))))))then(bif (qx (qkZ d N ((qbh (qbh p4.1 x.2.1 (qh p4.1 (qQ .i64 x.2.1 p4.2.1) d)) (qQ .i64 x.2.1 p4.2.1) (qh p4.1 x.2.1 d)),(0,(p4.2.1,(x.2.1,(x.2.2.2.1,())))))))then(ih3 ((qi (qkZ d N ((qbh (qbh p4.1 x.2.1 (qh p4.1 (qQ .i64 x.2.1 p4.2.1) d)) (qQ .i64 x.2.1 p4.2.1) (qh p4.1 x.2.1 d)),(0,(p4.2.1,(x.2.1,(x.2.2.2.1,())))))) ((),(([]:List α),()))).2.1,((qR .i64 p4.2.1 1),())))else none)else none)else(some ((),(p4.1,())))))) (p2.1,((qR .i64 y0 1),())))))) (x.1,((qpI .i64 (qR .i64 y0 1) 2),())))else none)))
def qbJ {α:Type}(d:α) (N:Nat) (x:((List α)×(Int×(Int×(((α×(α×Unit))→(Option (Int×Unit)))×Unit))))):(Option (Unit×((List α)×Unit))):=
 (qaf (S:=((List α)×(Int×(Int×Unit)))) (R:=(Unit×((List α)×Unit))) N (fun ih0=>(fun p1=>(bif (ltI p1.2.1 p1.2.2.1)then(bif ((inB p1.2.2.1 (qs p1.1))&&((inB p1.2.1 (qs p1.1))&&((inB p1.2.1 (qs p1.1))&&(inB p1.2.2.1 (qs (qbh p1.1 p1.2.1 (qh p1.1 p1.2.2.1 d)))))))then(qW (qQ .i64 p1.2.1 1) (fun y2=>(ih0 ((qbh (qbh p1.1 p1.2.1 (qh p1.1 p1.2.2.1 d)) p1.2.2.1 (qh p1.1 p1.2.1 d)),(y2,((qR .i64 p1.2.2.1 1),()))))))else none)else(some ((),(p1.1,())))))) (x.1,(x.2.1,((qR .i64 x.2.2.1 1),()))))
def qhG {α:Type}(d:α) (N:Nat) (x:((List α)×(Int×(Int×(Int×(((α×(α×Unit))→(Option (Int×Unit)))×Unit)))))):(Option ((Int×(Int×Unit))×((List α)×(Int×Unit)))):=
 (bif ((inB x.2.2.1 (qs x.1))&&((inB x.2.1 (qs x.1))&&(qx (x.2.2.2.2.1 ((qh x.1 x.2.2.1 d),((qh x.1 x.2.1 d),()))))))then(bif (ltI (qi (x.2.2.2.2.1 ((qh x.1 x.2.2.1 d),((qh x.1 x.2.1 d),()))) (0,())).1 0)then(some ((x.2.2.1,(x.2.1,())),(x.1,((qQ .i64 x.2.2.2.1 1),()))))else(some ((x.2.1,(x.2.2.1,())),(x.1,(x.2.2.2.1,())))))else none)
def qgV {α:Type}(d:α) (N:Nat) (x:((List α)×(Int×(Int×(Int×(Int×(((α×(α×Unit))→(Option (Int×Unit)))×Unit))))))):(Option ((Int×Unit)×((List α)×(Int×Unit)))):=
 (bif (qx (qhG d N (x.1,(x.2.1,(x.2.2.1,(x.2.2.2.2.1,(x.2.2.2.2.2.1,())))))))then(qW (qi (qhG d N (x.1,(x.2.1,(x.2.2.1,(x.2.2.2.2.1,(x.2.2.2.2.2.1,())))))) ((0,(0,())),(([]:List α),(0,())))).2.1 (fun ys0=>(qW (qi (qhG d N (x.1,(x.2.1,(x.2.2.1,(x.2.2.2.2.1,(x.2.2.2.2.2.1,())))))) ((0,(0,())),(([]:List α),(0,())))).1.1 (fun y1=>(qW (qi (qhG d N (x.1,(x.2.1,(x.2.2.1,(x.2.2.2.2.1,(x.2.2.2.2.2.1,())))))) ((0,(0,())),(([]:List α),(0,())))).1.2.1 (fun y2=>(qW (qi (qhG d N (x.1,(x.2.1,(x.2.2.1,(x.2.2.2.2.1,(x.2.2.2.2.2.1,())))))) ((0,(0,())),(([]:List α),(0,())))).2.2.1 (fun y3=>(bif (qx (qhG d N (ys0,(y2,(x.2.2.2.1,(y3,(x.2.2.2.2.2.1,())))))))then(qW (qi (qhG d N (ys0,(y2,(x.2.2.2.1,(y3,(x.2.2.2.2.2.1,())))))) ((0,(0,())),(([]:List α),(0,())))).2.1 (fun ys4=>(qW (qi (qhG d N (ys0,(y2,(x.2.2.2.1,(y3,(x.2.2.2.2.2.1,())))))) ((0,(0,())),(([]:List α),(0,())))).1.1 (fun y5=>(qW (qi (qhG d N (ys0,(y2,(x.2.2.2.1,(y3,(x.2.2.2.2.2.1,())))))) ((0,(0,())),(([]:List α),(0,())))).1.2.1 (fun y6=>(qW (qi (qhG d N (ys0,(y2,(x.2.2.2.1,(y3,(x.2.2.2.2.2.1,())))))) ((0,(0,())),(([]:List α),(0,())))).2.2.1 (fun y7=>(bif (qx (qhG d N (ys4,(y1,(y5,(y7,(x.2.2.2.2.2.1,())))))))then(qW (qi (qhG d N (ys4,(y1,(y5,(y7,(x.2.2.2.2.2.1,())))))) ((0,(0,())),(([]:List α),(0,())))).2.1 (fun ys8=>(qW (qi (qhG d N (ys4,(y1,(y5,(y7,(x.2.2.2.2.2.1,())))))) ((0,(0,())),(([]:List α),(0,())))).1.1 (fun y9=>(qW (qi (qhG d N (ys4,(y1,(y5,(y7,(x.2.2.2.2.2.1,())))))) ((0,(0,())),(([]:List α),(0,())))).1.2.1 (fun y10=>(qW (qi (qhG d N (ys4,(y1,(y5,(y7,(x.2.2.2.2.2.1,())))))) ((0,(0,())),(([]:List α),(0,())))).2.2.1 (fun y11=>(some ((y10,()),(ys8,(y11,()))))))))))))else none)))))))))else none)))))))))else none)
def qy {α:Type}(d:α) (N:Nat) (x:((List α)×(Int×(Int×(((α×(α×Unit))→(Option (Int×Unit)))×Unit))))):(Option ((Int×Unit)×((List α)×(Int×Unit)))):=
 (bif (qx (qgV d N (x.1,((qR .i64 x.2.1 1),(x.2.1,((qQ .i64 x.2.1 1),(x.2.2.1,(x.2.2.2.1,()))))))))then(some (((qi (qgV d N (x.1,((qR .i64 x.2.1 1),(x.2.1,((qQ .i64 x.2.1 1),(x.2.2.1,(x.2.2.2.1,()))))))) ((0,()),(([]:List α),(0,())))).1.1,()),((qi (qgV d N (x.1,((qR .i64 x.2.1 1),(x.2.1,((qQ .i64 x.2.1 1),(x.2.2.1,(x.2.2.2.1,()))))))) ((0,()),(([]:List α),(0,())))).2.1,((qi (qgV d N (x.1,((qR .i64 x.2.1 1),(x.2.1,((qQ .i64 x.2.1 1),(x.2.2.1,(x.2.2.2.1,()))))))) ((0,()),(([]:List α),(0,())))).2.2.1,()))))else none)
def qfI {α:Type}(d:α) (N:Nat) (x:((List α)×(Int×(Int×(((α×(α×Unit))→(Option (Int×Unit)))×Unit))))):(Option ((Int×(Int×Unit))×((List α)×Unit))):=
 (qW (qR .i64 x.2.2.1 x.2.1) (fun y0=>(bif (neI 4 0)then(qW (qQ .i64 x.2.1 (qj4 .i64 (qpI .i64 y0 4) 1)) (fun y1=>(bif (neI 4 0)then(qW (qQ .i64 x.2.1 (qj4 .i64 (qpI .i64 y0 4) 2)) (fun y2=>(bif (neI 4 0)then(qW (qQ .i64 x.2.1 (qj4 .i64 (qpI .i64 y0 4) 3)) (fun y3=>(bif (bif (leI 8 y0)then((bif (leI 50 y0)then((qx (qy d N (x.1,(y1,(0,(x.2.2.2.1,()))))))&&((qx (qy d N ((qi (qy d N (x.1,(y1,(0,(x.2.2.2.1,()))))) ((0,()),(([]:List α),(0,())))).2.1,(y2,((qi (qy d N (x.1,(y1,(0,(x.2.2.2.1,()))))) ((0,()),(([]:List α),(0,())))).2.2.1,(x.2.2.2.1,()))))))&&(qx (qy d N ((qi (qy d N ((qi (qy d N (x.1,(y1,(0,(x.2.2.2.1,()))))) ((0,()),(([]:List α),(0,())))).2.1,(y2,((qi (qy d N (x.1,(y1,(0,(x.2.2.2.1,()))))) ((0,()),(([]:List α),(0,())))).2.2.1,(x.2.2.2.1,()))))) ((0,()),(([]:List α),(0,())))).2.1,(y3,((qi (qy d N ((qi (qy d N (x.1,(y1,(0,(x.2.2.2.1,()))))) ((0,()),(([]:List α),(0,())))).2.1,(y2,((qi (qy d N (x.1,(y1,(0,(x.2.2.2.1,()))))) ((0,()),(([]:List α),(0,())))).2.2.1,(x.2.2.2.1,()))))) ((0,()),(([]:List α),(0,())))).2.2.1,(x.2.2.2.1,()))))))))else true)&&(qx (qgV d N ((bif (leI 50 y0)then(qi (qy d N ((qi (qy d N ((qi (qy d N (x.1,(y1,(0,(x.2.2.2.1,()))))) ((0,()),(([]:List α),(0,())))).2.1,(y2,((qi (qy d N (x.1,(y1,(0,(x.2.2.2.1,()))))) ((0,()),(([]:List α),(0,())))).2.2.1,(x.2.2.2.1,()))))) ((0,()),(([]:List α),(0,())))).2.1,(y3,((qi (qy d N ((qi (qy d N (x.1,(y1,(0,(x.2.2.2.1,()))))) ((0,()),(([]:List α),(0,())))).2.1,(y2,((qi (qy d N (x.1,(y1,(0,(x.2.2.2.1,()))))) ((0,()),(([]:List α),(0,())))).2.2.1,(x.2.2.2.1,()))))) ((0,()),(([]:List α),(0,())))).2.2.1,(x.2.2.2.1,()))))) ((0,()),(([]:List α),(0,())))).2.1 else x.1),((bif (leI 50 y0)then(qi (qy d N (x.1,(y1,(0,(x.2.2.2.1,()))))) ((0,()),(([]:List α),(0,())))).1.1 else y1),((bif (leI 50 y0)then(qi (qy d N ((qi (qy d N (x.1,(y1,(0,(x.2.2.2.1,()))))) ((0,()),(([]:List α),(0,())))).2.1,(y2,((qi (qy d N (x.1,(y1,(0,(x.2.2.2.1,()))))) ((0,()),(([]:List α),(0,())))).2.2.1,(x.2.2.2.1,()))))) ((0,()),(([]:List α),(0,())))).1.1 else y2),((bif (leI 50 y0)then(qi (qy d N ((qi (qy d N ((qi (qy d N (x.1,(y1,(0,(x.2.2.2.1,()))))) ((0,()),(([]:List α),(0,())))).2.1,(y2,((qi (qy d N (x.1,(y1,(0,(x.2.2.2.1,()))))) ((0,()),(([]:List α),(0,())))).2.2.1,(x.2.2.2.1,()))))) ((0,()),(([]:List α),(0,())))).2.1,(y3,((qi (qy d N ((qi (qy d N (x.1,(y1,(0,(x.2.2.2.1,()))))) ((0,()),(([]:List α),(0,())))).2.1,(y2,((qi (qy d N (x.1,(y1,(0,(x.2.2.2.1,()))))) ((0,()),(([]:List α),(0,())))).2.2.1,(x.2.2.2.1,()))))) ((0,()),(([]:List α),(0,())))).2.2.1,(x.2.2.2.1,()))))) ((0,()),(([]:List α),(0,())))).1.1 else y3),((bif (leI 50 y0)then(qi (qy d N ((qi (qy d N ((qi (qy d N (x.1,(y1,(0,(x.2.2.2.1,()))))) ((0,()),(([]:List α),(0,())))).2.1,(y2,((qi (qy d N (x.1,(y1,(0,(x.2.2.2.1,()))))) ((0,()),(([]:List α),(0,())))).2.2.1,(x.2.2.2.1,()))))) ((0,()),(([]:List α),(0,())))).2.1,(y3,((qi (qy d N ((qi (qy d N (x.1,(y1,(0,(x.2.2.2.1,()))))) ((0,()),(([]:List α),(0,())))).2.1,(y2,((qi (qy d N (x.1,(y1,(0,(x.2.2.2.1,()))))) ((0,()),(([]:List α),(0,())))).2.2.1,(x.2.2.2.1,()))))) ((0,()),(([]:List α),(0,())))).2.2.1,(x.2.2.2.1,()))))) ((0,()),(([]:List α),(0,())))).2.2.1 else 0),(x.2.2.2.1,())))))))))else true)then(qW (bif (leI 8 y0)then(qi (qgV d N ((bif (leI 50 y0)then(qi (qy d N ((qi (qy d N ((qi (qy d N (x.1,(y1,(0,(x.2.2.2.1,()))))) ((0,()),(([]:List α),(0,())))).2.1,(y2,((qi (qy d N (x.1,(y1,(0,(x.2.2.2.1,()))))) ((0,()),(([]:List α),(0,())))).2.2.1,(x.2.2.2.1,()))))) ((0,()),(([]:List α),(0,())))).2.1,(y3,((qi (qy d N ((qi (qy d N (x.1,(y1,(0,(x.2.2.2.1,()))))) ((0,()),(([]:List α),(0,())))).2.1,(y2,((qi (qy d N (x.1,(y1,(0,(x.2.2.2.1,()))))) ((0,()),(([]:List α),(0,())))).2.2.1,(x.2.2.2.1,()))))) ((0,()),(([]:List α),(0,())))).2.2.1,(x.2.2.2.1,()))))) ((0,()),(([]:List α),(0,())))).2.1 else x.1),((bif (leI 50 y0)then(qi (qy d N (x.1,(y1,(0,(x.2.2.2.1,()))))) ((0,()),(([]:List α),(0,())))).1.1 else y1),((bif (leI 50 y0)then(qi (qy d N ((qi (qy d N (x.1,(y1,(0,(x.2.2.2.1,()))))) ((0,()),(([]:List α),(0,())))).2.1,(y2,((qi (qy d N (x.1,(y1,(0,(x.2.2.2.1,()))))) ((0,()),(([]:List α),(0,())))).2.2.1,(x.2.2.2.1,()))))) ((0,()),(([]:List α),(0,())))).1.1 else y2),((bif (leI 50 y0)then(qi (qy d N ((qi (qy d N ((qi (qy d N (x.1,(y1,(0,(x.2.2.2.1,()))))) ((0,()),(([]:List α),(0,())))).2.1,(y2,((qi (qy d N (x.1,(y1,(0,(x.2.2.2.1,()))))) ((0,()),(([]:List α),(0,())))).2.2.1,(x.2.2.2.1,()))))) ((0,()),(([]:List α),(0,())))).2.1,(y3,((qi (qy d N ((qi (qy d N (x.1,(y1,(0,(x.2.2.2.1,()))))) ((0,()),(([]:List α),(0,())))).2.1,(y2,((qi (qy d N (x.1,(y1,(0,(x.2.2.2.1,()))))) ((0,()),(([]:List α),(0,())))).2.2.1,(x.2.2.2.1,()))))) ((0,()),(([]:List α),(0,())))).2.2.1,(x.2.2.2.1,()))))) ((0,()),(([]:List α),(0,())))).1.1 else y3),((bif (leI 50 y0)then(qi (qy d N ((qi (qy d N ((qi (qy d N (x.1,(y1,(0,(x.2.2.2.1,()))))) ((0,()),(([]:List α),(0,())))).2.1,(y2,((qi (qy d N (x.1,(y1,(0,(x.2.2.2.1,()))))) ((0,()),(([]:List α),(0,())))).2.2.1,(x.2.2.2.1,()))))) ((0,()),(([]:List α),(0,())))).2.1,(y3,((qi (qy d N ((qi (qy d N (x.1,(y1,(0,(x.2.2.2.1,()))))) ((0,()),(([]:List α),(0,())))).2.1,(y2,((qi (qy d N (x.1,(y1,(0,(x.2.2.2.1,()))))) ((0,()),(([]:List α),(0,())))).2.2.1,(x.2.2.2.1,()))))) ((0,()),(([]:List α),(0,())))).2.2.1,(x.2.2.2.1,()))))) ((0,()),(([]:List α),(0,())))).2.2.1 else 0),(x.2.2.2.1,()))))))) ((0,()),(([]:List α),(0,())))).2.2.1 else 0) (fun y4=>(qW (bif (leI 8 y0)then(qi (qgV d N ((bif (leI 50 y0)then(qi (qy d N ((qi (qy d N ((qi (qy d N (x.1,(y1,(0,(x.2.2.2.1,()))))) ((0,()),(([]:List α),(0,())))).2.1,(y2,((qi (qy d N (x.1,(y1,(0,(x.2.2.2.1,()))))) ((0,()),(([]:List α),(0,())))).2.2.1,(x.2.2.2.1,()))))) ((0,()),(([]:List α),(0,())))).2.1,(y3,((qi (qy d N ((qi (qy d N (x.1,(y1,(0,(x.2.2.2.1,()))))) ((0,()),(([]:List α),(0,())))).2.1,(y2,((qi (qy d N (x.1,(y1,(0,(x.2.2.2.1,()))))) ((0,()),(([]:List α),(0,())))).2.2.1,(x.2.2.2.1,()))))) ((0,()),(([]:List α),(0,())))).2.2.1,(x.2.2.2.1,()))))) ((0,()),(([]:List α),(0,())))).2.1 else x.1),((bif (leI 50 y0)then(qi (qy d N (x.1,(y1,(0,(x.2.2.2.1,()))))) ((0,()),(([]:List α),(0,())))).1.1 else y1),((bif (leI 50 y0)then(qi (qy d N ((qi (qy d N (x.1,(y1,(0,(x.2.2.2.1,()))))) ((0,()),(([]:List α),(0,())))).2.1,(y2,((qi (qy d N (x.1,(y1,(0,(x.2.2.2.1,()))))) ((0,()),(([]:List α),(0,())))).2.2.1,(x.2.2.2.1,()))))) ((0,()),(([]:List α),(0,())))).1.1 else y2),((bif (leI 50 y0)then(qi (qy d N ((qi (qy d N ((qi (qy d N (x.1,(y1,(0,(x.2.2.2.1,()))))) ((0,()),(([]:List α),(0,())))).2.1,(y2,((qi (qy d N (x.1,(y1,(0,(x.2.2.2.1,()))))) ((0,()),(([]:List α),(0,())))).2.2.1,(x.2.2.2.1,()))))) ((0,()),(([]:List α),(0,())))).2.1,(y3,((qi (qy d N ((qi (qy d N (x.1,(y1,(0,(x.2.2.2.1,()))))) ((0,()),(([]:List α),(0,())))).2.1,(y2,((qi (qy d N (x.1,(y1,(0,(x.2.2.2.1,()))))) ((0,()),(([]:List α),(0,())))).2.2.1,(x.2.2.2.1,()))))) ((0,()),(([]:List α),(0,())))).2.2.1,(x.2.2.2.1,()))))) ((0,()),(([]:List α),(0,())))).1.1 else y3),((bif (leI 50 y0)then(qi (qy d N ((qi (qy d N ((qi (qy d N (x.1,(y1,(0,(x.2.2.2.1,()))))) ((0,()),(([]:List α),(0,())))).2.1,(y2,((qi (qy d N (x.1,(y1,(0,(x.2.2.2.1,()))))) ((0,()),(([]:List α),(0,())))).2.2.1,(x.2.2.2.1,()))))) ((0,()),(([]:List α),(0,())))).2.1,(y3,((qi (qy d N ((qi (qy d N (x.1,(y1,(0,(x.2.2.2.1,()))))) ((0,()),(([]:List α),(0,())))).2.1,(y2,((qi (qy d N (x.1,(y1,(0,(x.2.2.2.1,()))))) ((0,()),(([]:List α),(0,())))).2.2.1,(x.2.2.2.1,()))))) ((0,()),(([]:List α),(0,())))).2.2.1,(x.2.2.2.1,()))))) ((0,()),(([]:List α),(0,())))).2.2.1 else 0),(x.2.2.2.1,()))))))) ((0,()),(([]:List α),(0,())))).1.1 else y2) (fun y5=>(bif (eqI y4 0)then(some ((y5,(1,())),((bif (leI 8 y0)then(qi (qgV d N ((bif (leI 50 y0)then(qi (qy d N ((qi (qy d N ((qi (qy d N (x.1,(y1,(0,(x.2.2.2.1,()))))) ((0,()),(([]:List α),(0,())))).2.1,(y2,((qi (qy d N (x.1,(y1,(0,(x.2.2.2.1,()))))) ((0,()),(([]:List α),(0,())))).2.2.1,(x.2.2.2.1,()))))) ((0,()),(([]:List α),(0,())))).2.1,(y3,((qi (qy d N ((qi (qy d N (x.1,(y1,(0,(x.2.2.2.1,()))))) ((0,()),(([]:List α),(0,())))).2.1,(y2,((qi (qy d N (x.1,(y1,(0,(x.2.2.2.1,()))))) ((0,()),(([]:List α),(0,())))).2.2.1,(x.2.2.2.1,()))))) ((0,()),(([]:List α),(0,())))).2.2.1,(x.2.2.2.1,()))))) ((0,()),(([]:List α),(0,())))).2.1 else x.1),((bif (leI 50 y0)then(qi (qy d N (x.1,(y1,(0,(x.2.2.2.1,()))))) ((0,()),(([]:List α),(0,())))).1.1 else y1),((bif (leI 50 y0)then(qi (qy d N ((qi (qy d N (x.1,(y1,(0,(x.2.2.2.1,()))))) ((0,()),(([]:List α),(0,())))).2.1,(y2,((qi (qy d N (x.1,(y1,(0,(x.2.2.2.1,()))))) ((0,()),(([]:List α),(0,())))).2.2.1,(x.2.2.2.1,()))))) ((0,()),(([]:List α),(0,())))).1.1 else y2),((bif (leI 50 y0)then(qi (qy d N ((qi (qy d N ((qi (qy d N (x.1,(y1,(0,(x.2.2.2.1,()))))) ((0,()),(([]:List α),(0,())))).2.1,(y2,((qi (qy d N (x.1,(y1,(0,(x.2.2.2.1,()))))) ((0,()),(([]:List α),(0,())))).2.2.1,(x.2.2.2.1,()))))) ((0,()),(([]:List α),(0,())))).2.1,(y3,((qi (qy d N ((qi (qy d N (x.1,(y1,(0,(x.2.2.2.1,()))))) ((0,()),(([]:List α),(0,())))).2.1,(y2,((qi (qy d N (x.1,(y1,(0,(x.2.2.2.1,()))))) ((0,()),(([]:List α),(0,())))).2.2.1,(x.2.2.2.1,()))))) ((0,()),(([]:List α),(0,())))).2.2.1,(x.2.2.2.1,()))))) ((0,()),(([]:List α),(0,())))).1.1 else y3),((bif (leI 50 y0)then(qi (qy d N ((qi (qy d N ((qi (qy d N (x.1,(y1,(0,(x.2.2.2.1,()))))) ((0,()),(([]:List α),(0,())))).2.1,(y2,((qi (qy d N (x.1,(y1,(0,(x.2.2.2.1,()))))) ((0,()),(([]:List α),(0,())))).2.2.1,(x.2.2.2.1,()))))) ((0,()),(([]:List α),(0,())))).2.1,(y3,((qi (qy d N ((qi (qy d N (x.1,(y1,(0,(x.2.2.2.1,()))))) ((0,()),(([]:List α),(0,())))).2.1,(y2,((qi (qy d N (x.1,(y1,(0,(x.2.2.2.1,()))))) ((0,()),(([]:List α),(0,())))).2.2.1,(x.2.2.2.1,()))))) ((0,()),(([]:List α),(0,())))).2.2.1,(x.2.2.2.1,()))))) ((0,()),(([]:List α),(0,())))).2.2.1 else 0),(x.2.2.2.1,()))))))) ((0,()),(([]:List α),(0,())))).2.1 else x.1),())))else(bif (eqI y4 12)then(some ((y5,(2,())),((bif (leI 8 y0)then(qi (qgV d N ((bif (leI 50 y0)then(qi (qy d N ((qi (qy d N ((qi (qy d N (x.1,(y1,(0,(x.2.2.2.1,()))))) ((0,()),(([]:List α),(0,())))).2.1,(y2,((qi (qy d N (x.1,(y1,(0,(x.2.2.2.1,()))))) ((0,()),(([]:List α),(0,())))).2.2.1,(x.2.2.2.1,()))))) ((0,()),(([]:List α),(0,())))).2.1,(y3,((qi (qy d N ((qi (qy d N (x.1,(y1,(0,(x.2.2.2.1,()))))) ((0,()),(([]:List α),(0,())))).2.1,(y2,((qi (qy d N (x.1,(y1,(0,(x.2.2.2.1,()))))) ((0,()),(([]:List α),(0,())))).2.2.1,(x.2.2.2.1,()))))) ((0,()),(([]:List α),(0,())))).2.2.1,(x.2.2.2.1,()))))) ((0,()),(([]:List α),(0,())))).2.1 else x.1),((bif (leI 50 y0)then(qi (qy d N (x.1,(y1,(0,(x.2.2.2.1,()))))) ((0,()),(([]:List α),(0,())))).1.1 else y1),((bif (leI 50 y0)then(qi (qy d N ((qi (qy d N (x.1,(y1,(0,(x.2.2.2.1,()))))) ((0,()),(([]:List α),(0,())))).2.1,(y2,((qi (qy d N (x.1,(y1,(0,(x.2.2.2.1,()))))) ((0,()),(([]:List α),(0,())))).2.2.1,(x.2.2.2.1,()))))) ((0,()),(([]:List α),(0,())))).1.1 else y2),((bif (leI 50 y0)then(qi (qy d N ((qi (qy d N ((qi (qy d N (x.1,(y1,(0,(x.2.2.2.1,()))))) ((0,()),(([]:List α),(0,())))).2.1,(y2,((qi (qy d N (x.1,(y1,(0,(x.2.2.2.1,()))))) ((0,()),(([]:List α),(0,())))).2.2.1,(x.2.2.2.1,()))))) ((0,()),(([]:List α),(0,())))).2.1,(y3,((qi (qy d N ((qi (qy d N (x.1,(y1,(0,(x.2.2.2.1,()))))) ((0,()),(([]:List α),(0,())))).2.1,(y2,((qi (qy d N (x.1,(y1,(0,(x.2.2.2.1,()))))) ((0,()),(([]:List α),(0,())))).2.2.1,(x.2.2.2.1,()))))) ((0,()),(([]:List α),(0,())))).2.2.1,(x.2.2.2.1,()))))) ((0,()),(([]:List α),(0,())))).1.1 else y3),((bif (leI 50 y0)then(qi (qy d N ((qi (qy d N ((qi (qy d N (x.1,(y1,(0,(x.2.2.2.1,()))))) ((0,()),(([]:List α),(0,())))).2.1,(y2,((qi (qy d N (x.1,(y1,(0,(x.2.2.2.1,()))))) ((0,()),(([]:List α),(0,())))).2.2.1,(x.2.2.2.1,()))))) ((0,()),(([]:List α),(0,())))).2.1,(y3,((qi (qy d N ((qi (qy d N (x.1,(y1,(0,(x.2.2.2.1,()))))) ((0,()),(([]:List α),(0,())))).2.1,(y2,((qi (qy d N (x.1,(y1,(0,(x.2.2.2.1,()))))) ((0,()),(([]:List α),(0,())))).2.2.1,(x.2.2.2.1,()))))) ((0,()),(([]:List α),(0,())))).2.2.1,(x.2.2.2.1,()))))) ((0,()),(([]:List α),(0,())))).2.2.1 else 0),(x.2.2.2.1,()))))))) ((0,()),(([]:List α),(0,())))).2.1 else x.1),())))else(some ((y5,(0,())),((bif (leI 8 y0)then(qi (qgV d N ((bif (leI 50 y0)then(qi (qy d N ((qi (qy d N ((qi (qy d N (x.1,(y1,(0,(x.2.2.2.1,()))))) ((0,()),(([]:List α),(0,())))).2.1,(y2,((qi (qy d N (x.1,(y1,(0,(x.2.2.2.1,()))))) ((0,()),(([]:List α),(0,())))).2.2.1,(x.2.2.2.1,()))))) ((0,()),(([]:List α),(0,())))).2.1,(y3,((qi (qy d N ((qi (qy d N (x.1,(y1,(0,(x.2.2.2.1,()))))) ((0,()),(([]:List α),(0,())))).2.1,(y2,((qi (qy d N (x.1,(y1,(0,(x.2.2.2.1,()))))) ((0,()),(([]:List α),(0,())))).2.2.1,(x.2.2.2.1,()))))) ((0,()),(([]:List α),(0,())))).2.2.1,(x.2.2.2.1,()))))) ((0,()),(([]:List α),(0,())))).2.1 else x.1),((bif (leI 50 y0)then(qi (qy d N (x.1,(y1,(0,(x.2.2.2.1,()))))) ((0,()),(([]:List α),(0,())))).1.1 else y1),((bif (leI 50 y0)then(qi (qy d N ((qi (qy d N (x.1,(y1,(0,(x.2.2.2.1,()))))) ((0,()),(([]:List α),(0,())))).2.1,(y2,((qi (qy d N (x.1,(y1,(0,(x.2.2.2.1,()))))) ((0,()),(([]:List α),(0,())))).2.2.1,(x.2.2.2.1,()))))) ((0,()),(([]:List α),(0,())))).1.1 else y2),((bif (leI 50 y0)then(qi (qy d N ((qi (qy d N ((qi (qy d N (x.1,(y1,(0,(x.2.2.2.1,()))))) ((0,()),(([]:List α),(0,())))).2.1,(y2,((qi (qy d N (x.1,(y1,(0,(x.2.2.2.1,()))))) ((0,()),(([]:List α),(0,())))).2.2.1,(x.2.2.2.1,()))))) ((0,()),(([]:List α),(0,())))).2.1,(y3,((qi (qy d N ((qi (qy d N (x.1,(y1,(0,(x.2.2.2.1,()))))) ((0,()),(([]:List α),(0,())))).2.1,(y2,((qi (qy d N (x.1,(y1,(0,(x.2.2.2.1,()))))) ((0,()),(([]:List α),(0,())))).2.2.1,(x.2.2.2.1,()))))) ((0,()),(([]:List α),(0,())))).2.2.1,(x.2.2.2.1,()))))) ((0,()),(([]:List α),(0,())))).1.1 else y3),((bif (leI 50 y0)then(qi (qy d N ((qi (qy d N ((qi (qy d N (x.1,(y1,(0,(x.2.2.2.1,()))))) ((0,()),(([]:List α),(0,())))).2.1,(y2,((qi (qy d N (x.1,(y1,(0,(x.2.2.2.1,()))))) ((0,()),(([]:List α),(0,())))).2.2.1,(x.2.2.2.1,()))))) ((0,()),(([]:List α),(0,())))).2.1,(y3,((qi (qy d N ((qi (qy d N (x.1,(y1,(0,(x.2.2.2.1,()))))) ((0,()),(([]:List α),(0,())))).2.1,(y2,((qi (qy d N (x.1,(y1,(0,(x.2.2.2.1,()))))) ((0,()),(([]:List α),(0,())))).2.2.1,(x.2.2.2.1,()))))) ((0,()),(([]:List α),(0,())))).2.2.1,(x.2.2.2.1,()))))) ((0,()),(([]:List α),(0,())))).2.2.1 else 0),(x.2.2.2.1,()))))))) ((0,()),(([]:List α),(0,())))).2.1 else x.1),())))))))))else none)))else none)))else none)))else none)))
def qcJ {α:Type}(d:α) (N:Nat) (x:((List α)×(Int×(Int×(((α×(α×Unit))→(Option (Int×Unit)))×Unit))))):(Option ((Bool×Unit)×((List α)×Unit))):=
 (qW (qQ .i64 x.2.1 1) (fun y0=>(qaf (S:=((List α)×(Int×(Int×Unit)))) (R:=((Bool×Unit)×((List α)×Unit))) N (fun ih1=>(fun p2=>(bif (ltI p2.2.2.1 5)then(qaf (S:=((List α)×(Int×Unit))) (R:=((Bool×Unit)×((List α)×Unit))) N (fun ih3=>(fun p4=>(bif (((!(ltI p4.2.1 x.2.2.1))||(inB p4.2.1 (qs p4.1)))&&(((!(ltI p4.2.1 x.2.2.1))||(inB (qR .i64 p4.2.1 1) (qs p4.1)))&&((!(ltI p4.2.1 x.2.2.1))||(qx (x.2.2.2.1 ((qh p4.1 p4.2.1 d),((qh p4.1 (qR .i64 p4.2.1 1) d),())))))))then(bif ((ltI p4.2.1 x.2.2.1)&&(!(ltI (qi (x.2.2.2.1 ((qh p4.1 p4.2.1 d),((qh p4.1 (qR .i64 p4.2.1 1) d),()))) (0,())).1 0)))then(ih3 (p4.1,((qQ .i64 p4.2.1 1),())))else(bif (eqI p4.2.1 x.2.2.1)then(some ((true,()),(p4.1,())))else(bif (ltI (qR .i64 x.2.2.1 x.2.1) 50)then(some ((false,()),(p4.1,())))else(bif ((inB (qR .i64 p4.2.1 1) (qs p4.1))&&((inB p4.2.1 (qs p4.1))&&((inB p4.2.1 (qs p4.1))&&(inB (qR .i64 p4.2.1 1) (qs (qbh p4.1 p4.2.1 (qh p4.1 (qR .i64 p4.2.1 1) d)))))))then(bif (leI 2 (qR .i64 p4.2.1 x.2.1))then(qaf (S:=((List α)×(Int×Unit))) (R:=((Bool×Unit)×((List α)×Unit))) N (fun ih5=>(fun p6=>(bif (leI 1 p6.2.1)then(bif ((inB p6.2.1 (qs p6.1))&&((inB (qR .i64 p6.2.1 1) (qs p6.1))&&(qx (x.2.2.2.1 ((qh p6.1 p6.2.1 d),((qh p6.1 (qR .i64 p6.2.1 1) d),()))))))then(bif (!(ltI (qi (x.2.2.2.1 ((qh p6.1 p6.2.1 d),((qh p6.1 (qR .i64 p6.2.1 1) d),()))) (0,())).1 0))then(bif (leI 2 (qR .i64 x.2.2.1 p4.2.1))then(qaf (S:=((List α)×(Int×Unit))) (R:=((Bool×Unit)×((List α)×Unit))) N (fun ih7=>(fun p8=>(bif (ltI p8.2.1 x.2.2.1)then(bif ((inB p8.2.1 (qs p8.1))&&((inB (qR .i64 p8.2.1 1) (qs p8.1))&&(qx (x.2.2.2.1 ((qh p8.1 p8.2.1 d),((qh p8.1 (qR .i64 p8.2.1 1) d),()))))))then(bif (!(ltI (qi (x.2.2.2.1 ((qh p8.1 p8.2.1 d),((qh p8.1 (qR .i64 p8.2.1 1) d),()))) (0,())).1 0))then(ih1 (p8.1,(p4.2.1,((qQ .i64 p2.2.2.1 1),()))))else(bif ((inB (qR .i64 p8.2.1 1) (qs p8.1))&&((inB p8.2.1 (qs p8.1))&&((inB p8.2.1 (qs p8.1))&&(inB (qR .i64 p8.2.1 1) (qs (qbh p8.1 p8.2.1 (qh p8.1 (qR .i64 p8.2.1 1) d)))))))then(ih7 ((qbh (qbh p8.1 p8.2.1 (qh p8.1 (qR .i64 p8.2.1 1) d)) (qR .i64 p8.2.1 1) (qh p8.1 p8.2.1 d)),((qQ .i64 p8.2.1 1),())))else none))else none)else(ih1 (p8.1,(p4.2.1,((qQ .i64 p2.2.2.1 1),()))))))) (p6.1,((qQ .i64 p4.2.1 1),())))else(ih1 (p6.1,(p4.2.1,((qQ .i64 p2.2.2.1 1),())))))else(bif ((inB (qR .i64 p6.2.1 1) (qs p6.1))&&((inB p6.2.1 (qs p6.1))&&((inB p6.2.1 (qs p6.1))&&(inB (qR .i64 p6.2.1 1) (qs (qbh p6.1 p6.2.1 (qh p6.1 (qR .i64 p6.2.1 1) d)))))))then(ih5 ((qbh (qbh p6.1 p6.2.1 (qh p6.1 (qR .i64 p6.2.1 1) d)) (qR .i64 p6.2.1 1) (qh p6.1 p6.2.1 d)),((qR .i64 p6.2.1 1),())))else none))else none)else(bif (leI 2 (qR .i64 x.2.2.1 p4.2.1))then(qaf (S:=((List α)×(Int×Unit))) (R:=((Bool×Unit)×((List α)×Unit))) N (fun ih7=>(fun p8=>(bif (ltI p8.2.1 x.2.2.1)then(bif ((inB p8.2.1 (qs p8.1))&&((inB (qR .i64 p8.2.1 1) (qs p8.1))&&(qx (x.2.2.2.1 ((qh p8.1 p8.2.1 d),((qh p8.1 (qR .i64 p8.2.1 1) d),()))))))then(bif (!(ltI (qi (x.2.2.2.1 ((qh p8.1 p8.2.1 d),((qh p8.1 (qR .i64 p8.2.1 1) d),()))) (0,())).1 0))then(ih1 (p8.1,(p4.2.1,((qQ .i64 p2.2.2.1 1),()))))else(bif ((inB (qR .i64 p8.2.1 1) (qs p8.1))&&((inB p8.2.1 (qs p8.1))&&((inB p8.2.1 (qs p8.1))&&(inB (qR .i64 p8.2.1 1) (qs (qbh p8.1 p8.2.1 (qh p8.1 (qR .i64 p8.2.1 1) d)))))))then(ih7 ((qbh (qbh p8.1 p8.2.1 (qh p8.1 (qR .i64 p8.2.1 1) d)) (qR .i64 p8.2.1 1) (qh p8.1 p8.2.1 d)),((qQ .i64 p8.2.1 1),())))else none))else none)else(ih1 (p8.1,(p4.2.1,((qQ .i64 p2.2.2.1 1),()))))))) (p6.1,((qQ .i64 p4.2.1 1),())))else(ih1 (p6.1,(p4.2.1,((qQ .i64 p2.2.2.1 1),())))))))) ((qbh (qbh p4.1 p4.2.1 (qh p4.1 (qR .i64 p4.2.1 1) d)) (qR .i64 p4.2.1 1) (qh p4.1 p4.2.1 d)),((qR .i64 p4.2.1 1),())))else(bif (leI 2 (qR .i64 x.2.2.1 p4.2.1))then(qaf (S:=((List α)×(Int×Unit))) (R:=((Bool×Unit)×((List α)×Unit))) N (fun ih5=>(fun p6=>(bif (ltI p6.2.1 x.2.2.1)then(bif ((inB p6.2.1 (qs p6.1))&&((inB (qR .i64 p6.2.1 1) (qs p6.1))&&(qx (x.2.2.2.1 ((qh p6.1 p6.2.1 d),((qh p6.1 (qR .i64 p6.2.1 1) d),()))))))then(bif (!(ltI (qi (x.2.2.2.1 ((qh p6.1 p6.2.1 d),((qh p6.1 (qR .i64 p6.2.1 1) d),()))) (0,())).1 0))then(ih1 (p6.1,(p4.2.1,((qQ .i64 p2.2.2.1 1),()))))else(bif ((inB (qR .i64 p6.2.1 1) (qs p6.1))&&((inB p6.2.1 (qs p6.1))&&((inB p6.2.1 (qs p6.1))&&(inB (qR .i64 p6.2.1 1) (qs (qbh p6.1 p6.2.1 (qh p6.1 (qR .i64 p6.2.1 1) d)))))))then(ih5 ((qbh (qbh p6.1 p6.2.1 (qh p6.1 (qR .i64 p6.2.1 1) d)) (qR .i64 p6.2.1 1) (qh p6.1 p6.2.1 d)),((qQ .i64 p6.2.1 1),())))else none))else none)else(ih1 (p6.1,(p4.2.1,((qQ .i64 p2.2.2.1 1),()))))))) ((qbh (qbh p4.1 p4.2.1 (qh p4.1 (qR .i64 p4.2.1 1) d)) (qR .i64 p4.2.1 1) (qh p4.1 p4.2.1 d)),((qQ .i64 p4.2.1 1),())))else(ih1 ((qbh (qbh p4.1 p4.2.1 (qh p4.1 (qR .i64 p4.2.1 1) d)) (qR .i64 p4.2.1 1) (qh p4.1 p4.2.1 d)),(p4.2.1,((qQ .i64 p2.2.2.1 1),()))))))else none))))else none))) (p2.1,(p2.2.1,())))else(some ((false,()),(p2.1,())))))) (x.1,(y0,(0,()))))))
def qhr {α:Type}(d:α) (N:Nat) (x:((List α)×(Int×(Int×(Int×(((α×(α×Unit))→(Option (Int×Unit)))×Unit)))))):(Option ((Int×Unit)×((List α)×Unit))):=
 (bif ((inB x.2.2.2.1 (qs x.1))&&((inB x.2.1 (qs x.1))&&((inB x.2.1 (qs x.1))&&(inB x.2.2.2.1 (qs (qbh x.1 x.2.1 (qh x.1 x.2.2.2.1 d)))))))then(qaf (S:=((List α)×(Int×(Int×Unit)))) (R:=((Int×Unit)×((List α)×Unit))) N (fun ih0=>(fun p1=>(qaf (S:=((List α)×(Int×(Int×Unit)))) (R:=((Int×Unit)×((List α)×Unit))) N (fun ih2=>(fun p3=>(bif (((!(leI p3.2.1 p3.2.2.1))||(inB x.2.1 (qs p3.1)))&&(((!(leI p3.2.1 p3.2.2.1))||(inB p3.2.1 (qs p3.1)))&&((!(leI p3.2.1 p3.2.2.1))||(qx (x.2.2.2.2.1 ((qh p3.1 x.2.1 d),((qh p3.1 p3.2.1 d),())))))))then(bif ((leI p3.2.1 p3.2.2.1)&&(!(ltI (qi (x.2.2.2.2.1 ((qh p3.1 x.2.1 d),((qh p3.1 p3.2.1 d),()))) (0,())).1 0)))then(ih2 (p3.1,((qQ .i64 p3.2.1 1),(p3.2.2.1,()))))else(qaf (S:=((List α)×(Int×Unit))) (R:=((Int×Unit)×((List α)×Unit))) N (fun ih4=>(fun p5=>(bif (((!(leI p3.2.1 p5.2.1))||(inB x.2.1 (qs p5.1)))&&(((!(leI p3.2.1 p5.2.1))||(inB p5.2.1 (qs p5.1)))&&((!(leI p3.2.1 p5.2.1))||(qx (x.2.2.2.2.1 ((qh p5.1 x.2.1 d),((qh p5.1 p5.2.1 d),())))))))then(bif ((leI p3.2.1 p5.2.1)&&(ltI (qi (x.2.2.2.2.1 ((qh p5.1 x.2.1 d),((qh p5.1 p5.2.1 d),()))) (0,())).1 0))then(ih4 (p5.1,((qR .i64 p5.2.1 1),())))else(bif (ltI p5.2.1 p3.2.1)then(some ((p3.2.1,()),(p5.1,())))else(bif ((inB p5.2.1 (qs p5.1))&&((inB p3.2.1 (qs p5.1))&&((inB p3.2.1 (qs p5.1))&&(inB p5.2.1 (qs (qbh p5.1 p3.2.1 (qh p5.1 p5.2.1 d)))))))then(qW (qQ .i64 p3.2.1 1) (fun y6=>(ih0 ((qbh (qbh p5.1 p3.2.1 (qh p5.1 p5.2.1 d)) p5.2.1 (qh p5.1 p3.2.1 d)),(y6,((qR .i64 p5.2.1 1),()))))))else none)))else none))) (p3.1,(p3.2.2.1,()))))else none))) (p1.1,(p1.2.1,(p1.2.2.1,())))))) ((qbh (qbh x.1 x.2.1 (qh x.1 x.2.2.2.1 d)) x.2.2.2.1 (qh x.1 x.2.1 d)),((qQ .i64 x.2.1 1),((qR .i64 x.2.2.1 1),()))))else none)
def qfx {α:Type}(d:α) (N:Nat) (x:((List α)×(Int×(Int×(Int×(((α×(α×Unit))→(Option (Int×Unit)))×Unit)))))):(Option ((Int×(Bool×Unit))×((List α)×Unit))):=
 (bif ((inB x.2.2.2.1 (qs x.1))&&((inB x.2.1 (qs x.1))&&((inB x.2.1 (qs x.1))&&(inB x.2.2.2.1 (qs (qbh x.1 x.2.1 (qh x.1 x.2.2.2.1 d)))))))then(qaf (S:=((List α)×(Int×Unit))) (R:=((Int×(Bool×Unit))×((List α)×Unit))) N (fun ih0=>(fun p1=>(bif (((!(leI p1.2.1 (qR .i64 x.2.2.1 1)))||(inB p1.2.1 (qs p1.1)))&&(((!(leI p1.2.1 (qR .i64 x.2.2.1 1)))||(inB x.2.1 (qs p1.1)))&&((!(leI p1.2.1 (qR .i64 x.2.2.1 1)))||(qx (x.2.2.2.2.1 ((qh p1.1 p1.2.1 d),((qh p1.1 x.2.1 d),())))))))then(bif ((leI p1.2.1 (qR .i64 x.2.2.1 1))&&(ltI (qi (x.2.2.2.2.1 ((qh p1.1 p1.2.1 d),((qh p1.1 x.2.1 d),()))) (0,())).1 0))then(ih0 (p1.1,((qQ .i64 p1.2.1 1),())))else(qaf (S:=((List α)×(Int×Unit))) (R:=((Int×(Bool×Unit))×((List α)×Unit))) N (fun ih2=>(fun p3=>(bif (((!(leI p1.2.1 p3.2.1))||(inB p3.2.1 (qs p3.1)))&&(((!(leI p1.2.1 p3.2.1))||(inB x.2.1 (qs p3.1)))&&((!(leI p1.2.1 p3.2.1))||(qx (x.2.2.2.2.1 ((qh p3.1 p3.2.1 d),((qh p3.1 x.2.1 d),())))))))then(bif ((leI p1.2.1 p3.2.1)&&(!(ltI (qi (x.2.2.2.2.1 ((qh p3.1 p3.2.1 d),((qh p3.1 x.2.1 d),()))) (0,())).1 0)))then(ih2 (p3.1,((qR .i64 p3.2.1 1),())))else(bif (ltI p3.2.1 p1.2.1)then(bif ((inB x.2.1 (qs p3.1))&&((inB p3.2.1 (qs p3.1))&&((inB p3.2.1 (qs p3.1))&&(inB x.2.1 (qs (qbh p3.1 p3.2.1 (qh p3.1 x.2.1 d)))))))then(some ((p3.2.1,(true,())),((qbh (qbh p3.1 p3.2.1 (qh p3.1 x.2.1 d)) x.2.1 (qh p3.1 p3.2.1 d)),())))else none)else(bif ((inB p3.2.1 (qs p3.1))&&((inB p1.2.1 (qs p3.1))&&((inB p1.2.1 (qs p3.1))&&(inB p3.2.1 (qs (qbh p3.1 p1.2.1 (qh p3.1 p3.2.1 d)))))))then(qW (qQ .i64 p1.2.1 1) (fun y4=>(qaf (S:=((List α)×(Int×(Int×Unit)))) (R:=((Int×(Bool×Unit))×((List α)×Unit))) N (fun ih5=>(fun p6=>(qaf (S:=((List α)×(Int×(Int×Unit)))) (R:=((Int×(Bool×Unit))×((List α)×Unit))) N (fun ih7=>(fun p8=>(bif (((!(leI p8.2.1 p8.2.2.1))||(inB p8.2.1 (qs p8.1)))&&(((!(leI p8.2.1 p8.2.2.1))||(inB x.2.1 (qs p8.1)))&&((!(leI p8.2.1 p8.2.2.1))||(qx (x.2.2.2.2.1 ((qh p8.1 p8.2.1 d),((qh p8.1 x.2.1 d),())))))))then(bif ((leI p8.2.1 p8.2.2.1)&&(ltI (qi (x.2.2.2.2.1 ((qh p8.1 p8.2.1 d),((qh p8.1 x.2.1 d),()))) (0,())).1 0))then(ih7 (p8.1,((qQ .i64 p8.2.1 1),(p8.2.2.1,()))))else(qaf (S:=((List α)×(Int×Unit))) (R:=((Int×(Bool×Unit))×((List α)×Unit))) N (fun ih9=>(fun p10=>(bif (((!(leI p8.2.1 p10.2.1))||(inB p10.2.1 (qs p10.1)))&&(((!(leI p8.2.1 p10.2.1))||(inB x.2.1 (qs p10.1)))&&((!(leI p8.2.1 p10.2.1))||(qx (x.2.2.2.2.1 ((qh p10.1 p10.2.1 d),((qh p10.1 x.2.1 d),())))))))then(bif ((leI p8.2.1 p10.2.1)&&(!(ltI (qi (x.2.2.2.2.1 ((qh p10.1 p10.2.1 d),((qh p10.1 x.2.1 d),()))) (0,())).1 0)))then(ih9 (p10.1,((qR .i64 p10.2.1 1),())))else(bif (ltI p10.2.1 p8.2.1)then(bif ((inB x.2.1 (qs p10.1))&&((inB p10.2.1 (qs p10.1))&&((inB p10.2.1 (qs p10.1))&&(inB x.2.1 (qs (qbh p10.1 p10.2.1 (qh p10.1 x.2.1 d)))))))then(some ((p10.2.1,(false,())),((qbh (qbh p10.1 p10.2.1 (qh p10.1 x.2.1 d)) x.2.1 (qh p10.1 p10.2.1 d)),())))else none)else(bif ((inB p10.2.1 (qs p10.1))&&((inB p8.2.1 (qs p10.1))&&((inB p8.2.1 (qs p10.1))&&(inB p10.2.1 (qs (qbh p10.1 p8.2.1 (qh p10.1 p10.2.1 d)))))))then(qW (qQ .i64 p8.2.1 1) (fun y11=>(ih5 ((qbh (qbh p10.1 p8.2.1 (qh p10.1 p10.2.1 d)) p10.2.1 (qh p10.1 p8.2.1 d)),(y11,((qR .i64 p10.2.1 1),()))))))else none)))else none))) (p8.1,(p8.2.2.1,()))))else none))) (p6.1,(p6.2.1,(p6.2.2.1,())))))) ((qbh (qbh p3.1 p1.2.1 (qh p3.1 p3.2.1 d)) p3.2.1 (qh p3.1 p1.2.1 d)),(y4,((qR .i64 p3.2.1 1),()))))))else none)))else none))) (p1.1,((qR .i64 x.2.2.1 1),()))))else none))) ((qbh (qbh x.1 x.2.1 (qh x.1 x.2.2.2.1 d)) x.2.2.2.1 (qh x.1 x.2.1 d)),((qQ .i64 x.2.1 1),())))else none)
def qoN (x:(Int×Unit)):(Option ((Int×Unit)×(Int×Unit))):=
 (bif (leI 0 13)then(bif (leI 0 7)then(bif (leI 0 17)then(some (((qiw .u64 (qiw .u64 (qiw .u64 x.1 (qkK .u64 x.1 13)) (qgY .u64 (qiw .u64 x.1 (qkK .u64 x.1 13)) 7)) (qkK .u64 (qiw .u64 (qiw .u64 x.1 (qkK .u64 x.1 13)) (qgY .u64 (qiw .u64 x.1 (qkK .u64 x.1 13)) 7)) 17)),()),((qiw .u64 (qiw .u64 (qiw .u64 x.1 (qkK .u64 x.1 13)) (qgY .u64 (qiw .u64 x.1 (qkK .u64 x.1 13)) 7)) (qkK .u64 (qiw .u64 (qiw .u64 x.1 (qkK .u64 x.1 13)) (qgY .u64 (qiw .u64 x.1 (qkK .u64 x.1 13)) 7)) 17)),())))else none)else none)else none)
def qqF (L:(Int×Unit)→Option ((Int×Unit)×Unit)) (x:(Int×Unit)):(Option ((Int×Unit)×Unit)):=
 (bif ((qx (L ((qbI .u64 x.1),())))&&(leI 0 (qi (L ((qbI .u64 x.1),())) ((0,()),())).1.1))then(some (((qkK .u64 1 (qi (L ((qbI .u64 x.1),())) ((0,()),())).1.1),()),()))else none)
def qgw {α:Type}(d:α) (N:Nat) (L:(Int×Unit)→Option ((Int×Unit)×Unit)) (x:((List α)×(Int×(Int×(((α×(α×Unit))→(Option (Int×Unit)))×Unit))))):(Option (Unit×((List α)×Unit))):=
 (qW (qR .i64 x.2.2.1 x.2.1) (fun y0=>(bif (leI 8 y0)then(bif (qx ((qqF L) (y0,())))then(qW y0 (fun y1=>(qW (qi ((qqF L) (y0,())) ((0,()),())).1.1 (fun y2=>(bif (neI 4 0)then(qaf (S:=((List α)×(Int×(Int×Unit)))) (R:=(Unit×((List α)×Unit))) N (fun ih3=>(fun p4=>(bif (neI 4 0)then(bif (leI p4.2.2.1 (qQ .i64 (qQ .i64 x.2.1 (qj4 .i64 (qpI .i64 y1 4) 2)) 1))then(bif (qx (qoN (p4.2.1,())))then(qW (qi (qoN (p4.2.1,())) ((0,()),(0,()))).2.1 (fun y5=>(qW (qbI .i64 (qvo .u64 (qi (qoN (p4.2.1,())) ((0,()),(0,()))).1.1 (qR .u64 y2 1))) (fun y6=>(qW y5 (fun y7=>(qW (bif (leI y1 y6)then(qR .i64 y6 y1)else y6) (fun y8=>(bif ((inB (qQ .i64 x.2.1 y8) (qs p4.1))&&((inB p4.2.2.1 (qs p4.1))&&((inB p4.2.2.1 (qs p4.1))&&(inB (qQ .i64 x.2.1 y8) (qs (qbh p4.1 p4.2.2.1 (qh p4.1 (qQ .i64 x.2.1 y8) d)))))))then(ih3 ((qbh (qbh p4.1 p4.2.2.1 (qh p4.1 (qQ .i64 x.2.1 y8) d)) (qQ .i64 x.2.1 y8) (qh p4.1 p4.2.2.1 d)),(y7,((qQ .i64 p4.2.2.1 1),()))))else none)))))))))else none)else(some ((),(p4.1,()))))else none))) (x.1,((qbI .u64 y0),((qR .i64 (qQ .i64 x.2.1 (qj4 .i64 (qpI .i64 y1 4) 2)) 1),()))))else none)))))else none)else(some ((),(x.1,()))))))
def pdqS {α:Type}(d:α) (N:Nat) (L:(Int×Unit)→Option ((Int×Unit)×Unit)) (Fs:((List α)×(Int×(Int×(Int×(((α×(α×Unit))→(Option (Int×Unit)))×Unit)))))→(Option (Unit×((List α)×Unit)))) (x:((List α)×(Int×(Int×(Int×(((α×(α×Unit))→(Option (Int×Unit)))×Unit)))))):(Option (Unit×((List α)×Unit))):=
 (qaf (S:=((List α)×(Int×(Int×(Int×(Bool×(Bool×Unit))))))) (R:=(Unit×((List α)×Unit))) N (fun ih0=>(fun p1=>(qW (qR .i64 p1.2.2.1 p1.2.1) (fun y2=>(bif (leI y2 12)then(bif (qx (qgx d N (p1.1,(p1.2.1,(p1.2.2.1,(x.2.2.2.2.1,()))))))then(some ((),((qi (qgx d N (p1.1,(p1.2.1,(p1.2.2.1,(x.2.2.2.2.1,()))))) ((),(([]:List α),()))).2.1,())))else none)else(bif (eqI p1.2.2.2.1 0)then(bif (qx (qp6 d N (p1.1,(p1.2.1,(p1.2.2.1,(x.2.2.2.2.1,()))))))then(some ((),((qi (qp6 d N (p1.1,(p1.2.1,(p1.2.2.1,(x.2.2.2.2.1,()))))) ((),(([]:List α),()))).2.1,())))else none)else(bif (bif (!p1.2.2.2.2.1)then(qx (qgw d N L (p1.1,(p1.2.1,(p1.2.2.1,(x.2.2.2.2.1,()))))))else true)then(qW (bif (!p1.2.2.2.2.1)then(qR .i64 p1.2.2.2.1 1)else p1.2.2.2.1) (fun y3=>(bif (qx (qfI d N ((bif (!p1.2.2.2.2.1)then(qi (qgw d N L (p1.1,(p1.2.1,(p1.2.2.1,(x.2.2.2.2.1,()))))) ((),(([]:List α),()))).2.1 else p1.1),(p1.2.1,(p1.2.2.1,(x.2.2.2.2.1,()))))))then(qW (qi (qfI d N ((bif (!p1.2.2.2.2.1)then(qi (qgw d N L (p1.1,(p1.2.1,(p1.2.2.1,(x.2.2.2.2.1,()))))) ((),(([]:List α),()))).2.1 else p1.1),(p1.2.1,(p1.2.2.1,(x.2.2.2.2.1,()))))) ((0,(0,())),(([]:List α),()))).2.1 (fun ys4=>(qW p1.2.1 (fun y5=>(qW p1.2.2.1 (fun y6=>(qW (qi (qfI d N ((bif (!p1.2.2.2.2.1)then(qi (qgw d N L (p1.1,(p1.2.1,(p1.2.2.1,(x.2.2.2.2.1,()))))) ((),(([]:List α),()))).2.1 else p1.1),(p1.2.1,(p1.2.2.1,(x.2.2.2.2.1,()))))) ((0,(0,())),(([]:List α),()))).1.1 (fun y7=>(qW (qi (qfI d N ((bif (!p1.2.2.2.2.1)then(qi (qgw d N L (p1.1,(p1.2.1,(p1.2.2.1,(x.2.2.2.2.1,()))))) ((),(([]:List α),()))).2.1 else p1.1),(p1.2.1,(p1.2.2.1,(x.2.2.2.2.1,()))))) ((0,(0,())),(([]:List α),()))).1.2.1 (fun y8=>(bif (bif (eqI y8 2)then(qx (qbJ d N (ys4,(y5,(y6,(x.2.2.2.2.1,()))))))else true)then(qW (bif (eqI y8 2)then(qR .i64 (qR .i64 y6 1) (qR .i64 y7 y5))else y7) (fun y9=>(qW (bif (eqI y8 2)then 1 else y8) (fun y10=>(qW ((p1.2.2.2.2.1&&p1.2.2.2.2.2.1)&&(eqI y10 1)) (fun y11=>(bif y11 then(bif (qx (qcJ d N ((bif (eqI y8 2)then(qi (qbJ d N (ys4,(y5,(y6,(x.2.2.2.2.1,()))))) ((),(([]:List α),()))).2.1 else ys4),(y5,(y6,(x.2.2.2.2.1,()))))))then(bif (qi (qcJ d N ((bif (eqI y8 2)then(qi (qbJ d N (ys4,(y5,(y6,(x.2.2.2.2.1,()))))) ((),(([]:List α),()))).2.1 else ys4),(y5,(y6,(x.2.2.2.2.1,()))))) ((false,()),(([]:List α),()))).1.1 then(some ((),((qi (qcJ d N ((bif (eqI y8 2)then(qi (qbJ d N (ys4,(y5,(y6,(x.2.2.2.2.1,()))))) ((),(([]:List α),()))).2.1 else ys4),(y5,(y6,(x.2.2.2.2.1,()))))) ((false,()),(([]:List α),()))).2.1,())))else(bif (((!(ltI 0 y5))||(inB (qR .i64 y5 1) (qs (qi (qcJ d N ((bif (eqI y8 2)then(qi (qbJ d N (ys4,(y5,(y6,(x.2.2.2.2.1,()))))) ((),(([]:List α),()))).2.1 else ys4),(y5,(y6,(x.2.2.2.2.1,()))))) ((false,()),(([]:List α),()))).2.1)))&&(((!(ltI 0 y5))||(inB y9 (qs (qi (qcJ d N ((bif (eqI y8 2)then(qi (qbJ d N (ys4,(y5,(y6,(x.2.2.2.2.1,()))))) ((),(([]:List α),()))).2.1 else ys4),(y5,(y6,(x.2.2.2.2.1,()))))) ((false,()),(([]:List α),()))).2.1)))&&((!(ltI 0 y5))||(qx (x.2.2.2.2.1 ((qh (qi (qcJ d N ((bif (eqI y8 2)then(qi (qbJ d N (ys4,(y5,(y6,(x.2.2.2.2.1,()))))) ((),(([]:List α),()))).2.1 else ys4),(y5,(y6,(x.2.2.2.2.1,()))))) ((false,()),(([]:List α),()))).2.1 (qR .i64 y5 1) d),((qh (qi (qcJ d N ((bif (eqI y8 2)then(qi (qbJ d N (ys4,(y5,(y6,(x.2.2.2.2.1,()))))) ((),(([]:List α),()))).2.1 else ys4),(y5,(y6,(x.2.2.2.2.1,()))))) ((false,()),(([]:List α),()))).2.1 y9 d),())))))))then(qW ((ltI 0 y5)&&(!(ltI (qi (x.2.2.2.2.1 ((qh (qi (qcJ d N ((bif (eqI y8 2)then(qi (qbJ d N (ys4,(y5,(y6,(x.2.2.2.2.1,()))))) ((),(([]:List α),()))).2.1 else ys4),(y5,(y6,(x.2.2.2.2.1,()))))) ((false,()),(([]:List α),()))).2.1 (qR .i64 y5 1) d),((qh (qi (qcJ d N ((bif (eqI y8 2)then(qi (qbJ d N (ys4,(y5,(y6,(x.2.2.2.2.1,()))))) ((),(([]:List α),()))).2.1 else ys4),(y5,(y6,(x.2.2.2.2.1,()))))) ((false,()),(([]:List α),()))).2.1 y9 d),()))) (0,())).1 0))) (fun y12=>(bif y12 then(bif (qx (qhr d N ((qi (qcJ d N ((bif (eqI y8 2)then(qi (qbJ d N (ys4,(y5,(y6,(x.2.2.2.2.1,()))))) ((),(([]:List α),()))).2.1 else ys4),(y5,(y6,(x.2.2.2.2.1,()))))) ((false,()),(([]:List α),()))).2.1,(y5,(y6,(y9,(x.2.2.2.2.1,())))))))then(qW (qi (qhr d N ((qi (qcJ d N ((bif (eqI y8 2)then(qi (qbJ d N (ys4,(y5,(y6,(x.2.2.2.2.1,()))))) ((),(([]:List α),()))).2.1 else ys4),(y5,(y6,(x.2.2.2.2.1,()))))) ((false,()),(([]:List α),()))).2.1,(y5,(y6,(y9,(x.2.2.2.2.1,())))))) ((0,()),(([]:List α),()))).2.1 (fun ys13=>(qW y6 (fun y14=>(qW (qi (qhr d N ((qi (qcJ d N ((bif (eqI y8 2)then(qi (qbJ d N (ys4,(y5,(y6,(x.2.2.2.2.1,()))))) ((),(([]:List α),()))).2.1 else ys4),(y5,(y6,(x.2.2.2.2.1,()))))) ((false,()),(([]:List α),()))).2.1,(y5,(y6,(y9,(x.2.2.2.2.1,())))))) ((0,()),(([]:List α),()))).1.1 (fun y15=>(ih0 (ys13,(y15,(y14,(y3,(p1.2.2.2.2.1,(p1.2.2.2.2.2.1,())))))))))))))else none)else(bif (qx (qfx d N ((qi (qcJ d N ((bif (eqI y8 2)then(qi (qbJ d N (ys4,(y5,(y6,(x.2.2.2.2.1,()))))) ((),(([]:List α),()))).2.1 else ys4),(y5,(y6,(x.2.2.2.2.1,()))))) ((false,()),(([]:List α),()))).2.1,(y5,(y6,(y9,(x.2.2.2.2.1,())))))))then(qW (qi (qfx d N ((qi (qcJ d N ((bif (eqI y8 2)then(qi (qbJ d N (ys4,(y5,(y6,(x.2.2.2.2.1,()))))) ((),(([]:List α),()))).2.1 else ys4),(y5,(y6,(x.2.2.2.2.1,()))))) ((false,()),(([]:List α),()))).2.1,(y5,(y6,(y9,(x.2.2.2.2.1,())))))) ((0,(false,())),(([]:List α),()))).2.1 (fun ys13=>(qW y5 (fun y14=>(qW y6 (fun y15=>(qW (qi (qfx d N ((qi (qcJ d N ((bif (eqI y8 2)then(qi (qbJ d N (ys4,(y5,(y6,(x.2.2.2.2.1,()))))) ((),(([]:List α),()))).2.1 else ys4),(y5,(y6,(x.2.2.2.2.1,()))))) ((false,()),(([]:List α),()))).2.1,(y5,(y6,(y9,(x.2.2.2.2.1,())))))) ((0,(false,())),(([]:List α),()))).1.1 (fun y16=>(qW (qi (qfx d N ((qi (qcJ d N ((bif (eqI y8 2)then(qi (qbJ d N (ys4,(y5,(y6,(x.2.2.2.2.1,()))))) ((),(([]:List α),()))).2.1 else ys4),(y5,(y6,(x.2.2.2.2.1,()))))) ((false,()),(([]:List α),()))).2.1,(y5,(y6,(y9,(x.2.2.2.2.1,())))))) ((0,(false,())),(([]:List α),()))).1.2.1 (fun y17=>(qW (qR .i64 y16 y14) (fun y18=>(qW (qR .i64 y15 y16) (fun y19=>(bif (neI 8 0)then(qW (qpI .i64 y2 8) (fun y20=>(bif (bif (ltI y18 y19)then(qx (Fs (ys13,(y14,(y16,(y3,(x.2.2.2.2.1,())))))))else(qx (Fs (ys13,((qQ .i64 y16 1),(y15,(y3,(x.2.2.2.2.1,()))))))))then(ih0 ((bif (ltI y18 y19)then(qi (Fs (ys13,(y14,(y16,(y3,(x.2.2.2.2.1,())))))) ((),(([]:List α),()))).2.1 else(qi (Fs (ys13,((qQ .i64 y16 1),(y15,(y3,(x.2.2.2.2.1,())))))) ((),(([]:List α),()))).2.1),((bif (ltI y18 y19)then(qQ .i64 y16 1)else y14),((bif (ltI y18 y19)then y15 else y16),(y3,((bif (ltI y18 y19)then(leI y20 y18)else(leI y20 y19)),(y17,())))))))else none)))else none)))))))))))))))else none))))else none))else none)else(bif (((!(ltI 0 y5))||(inB (qR .i64 y5 1) (qs (bif (eqI y8 2)then(qi (qbJ d N (ys4,(y5,(y6,(x.2.2.2.2.1,()))))) ((),(([]:List α),()))).2.1 else ys4))))&&(((!(ltI 0 y5))||(inB y9 (qs (bif (eqI y8 2)then(qi (qbJ d N (ys4,(y5,(y6,(x.2.2.2.2.1,()))))) ((),(([]:List α),()))).2.1 else ys4))))&&((!(ltI 0 y5))||(qx (x.2.2.2.2.1 ((qh (bif (eqI y8 2)then(qi (qbJ d N (ys4,(y5,(y6,(x.2.2.2.2.1,()))))) ((),(([]:List α),()))).2.1 else ys4) (qR .i64 y5 1) d),((qh (bif (eqI y8 2)then(qi (qbJ d N (ys4,(y5,(y6,(x.2.2.2.2.1,()))))) ((),(([]:List α),()))).2.1 else ys4) y9 d),())))))))then(qW ((ltI 0 y5)&&(!(ltI (qi (x.2.2.2.2.1 ((qh (bif (eqI y8 2)then(qi (qbJ d N (ys4,(y5,(y6,(x.2.2.2.2.1,()))))) ((),(([]:List α),()))).2.1 else ys4) (qR .i64 y5 1) d),((qh (bif (eqI y8 2)then(qi (qbJ d N (ys4,(y5,(y6,(x.2.2.2.2.1,()))))) ((),(([]:List α),()))).2.1 else ys4) y9 d),()))) (0,())).1 0))) (fun y12=>(bif y12 then(bif (qx (qhr d N ((bif (eqI y8 2)then(qi (qbJ d N (ys4,(y5,(y6,(x.2.2.2.2.1,()))))) ((),(([]:List α),()))).2.1 else ys4),(y5,(y6,(y9,(x.2.2.2.2.1,())))))))then(qW (qi (qhr d N ((bif (eqI y8 2)then(qi (qbJ d N (ys4,(y5,(y6,(x.2.2.2.2.1,()))))) ((),(([]:List α),()))).2.1 else ys4),(y5,(y6,(y9,(x.2.2.2.2.1,())))))) ((0,()),(([]:List α),()))).2.1 (fun ys13=>(qW y6 (fun y14=>(qW (qi (qhr d N ((bif (eqI y8 2)then(qi (qbJ d N (ys4,(y5,(y6,(x.2.2.2.2.1,()))))) ((),(([]:List α),()))).2.1 else ys4),(y5,(y6,(y9,(x.2.2.2.2.1,())))))) ((0,()),(([]:List α),()))).1.1 (fun y15=>(ih0 (ys13,(y15,(y14,(y3,(p1.2.2.2.2.1,(p1.2.2.2.2.2.1,())))))))))))))else none)else(bif (qx (qfx d N ((bif (eqI y8 2)then(qi (qbJ d N (ys4,(y5,(y6,(x.2.2.2.2.1,()))))) ((),(([]:List α),()))).2.1 else ys4),(y5,(y6,(y9,(x.2.2.2.2.1,())))))))then(qW (qi (qfx d N ((bif (eqI y8 2)then(qi (qbJ d N (ys4,(y5,(y6,(x.2.2.2.2.1,()))))) ((),(([]:List α),()))).2.1 else ys4),(y5,(y6,(y9,(x.2.2.2.2.1,())))))) ((0,(false,())),(([]:List α),()))).2.1 (fun ys13=>(qW y5 (fun y14=>(qW y6 (fun y15=>(qW (qi (qfx d N ((bif (eqI y8 2)then(qi (qbJ d N (ys4,(y5,(y6,(x.2.2.2.2.1,()))))) ((),(([]:List α),()))).2.1 else ys4),(y5,(y6,(y9,(x.2.2.2.2.1,())))))) ((0,(false,())),(([]:List α),()))).1.1 (fun y16=>(qW (qi (qfx d N ((bif (eqI y8 2)then(qi (qbJ d N (ys4,(y5,(y6,(x.2.2.2.2.1,()))))) ((),(([]:List α),()))).2.1 else ys4),(y5,(y6,(y9,(x.2.2.2.2.1,())))))) ((0,(false,())),(([]:List α),()))).1.2.1 (fun y17=>(qW (qR .i64 y16 y14) (fun y18=>(qW (qR .i64 y15 y16) (fun y19=>(bif (neI 8 0)then(qW (qpI .i64 y2 8) (fun y20=>(bif (bif (ltI y18 y19)then(qx (Fs (ys13,(y14,(y16,(y3,(x.2.2.2.2.1,())))))))else(qx (Fs (ys13,((qQ .i64 y16 1),(y15,(y3,(x.2.2.2.2.1,()))))))))then(ih0 ((bif (ltI y18 y19)then(qi (Fs (ys13,(y14,(y16,(y3,(x.2.2.2.2.1,())))))) ((),(([]:List α),()))).2.1 else(qi (Fs (ys13,((qQ .i64 y16 1),(y15,(y3,(x.2.2.2.2.1,())))))) ((),(([]:List α),()))).2.1),((bif (ltI y18 y19)then(qQ .i64 y16 1)else y14),((bif (ltI y18 y19)then y15 else y16),(y3,((bif (ltI y18 y19)then(leI y20 y18)else(leI y20 y19)),(y17,())))))))else none)))else none)))))))))))))))else none))))else none))))))))else none)))))))))))else none)))else none))))))) (x.1,(x.2.1,(x.2.2.1,(x.2.2.2.1,(true,(true,())))))))
def pdqG {α:Type}(d:α) (N:Nat) (L:(Int×Unit)→Option ((Int×Unit)×Unit)) (M:Nat):((List α)×(Int×(Int×(Int×(((α×(α×Unit))→(Option (Int×Unit)))×Unit)))))→(Option (Unit×((List α)×Unit))):=
 Nat.rec (motive:=fun _=>((List α)×(Int×(Int×(Int×(((α×(α×Unit))→(Option (Int×Unit)))×Unit)))))→(Option (Unit×((List α)×Unit)))) (fun _=>none) (fun _ Fs=>pdqS d N L Fs) M
def qtp {α:Type}(d:α) (N:Nat) (L:(Int×Unit)→Option ((Int×Unit)×Unit)) (x:((List α)×(((α×(α×Unit))→(Option (Int×Unit)))×Unit))):(Option (Unit×((List α)×Unit))):=
 (qW (qs x.1) (fun y0=>(bif ((qx (L ((qbI .u64 y0),())))&&(qx (pdqG d N L N (x.1,(0,(y0,((qi (L ((qbI .u64 y0),())) ((0,()),())).1.1,(x.2.1,()))))))))then(some ((),((qi (pdqG d N L N (x.1,(0,(y0,((qi (L ((qbI .u64 y0),())) ((0,()),())).1.1,(x.2.1,())))))) ((),(([]:List α),()))).2.1,())))else none)))
theorem qat {S R:Type}{st:(S→Option R)→S→Option R}(μ:S→Nat) (I:S→Prop) (Q:Option R→Prop)
  (hs:∀ih p,I p→(∀q,I q→μ q<μ p→Q (ih q))→Q (st ih p)):∀(N:Nat) (p:S),I p→μ p<N→Q (qaf N st p)
 |0,p,_,h=>by omega
 |N+1,p,hI,h=>by
  rw[qca];exact hs _ p hI fun q hq hm=>qat μ I Q hs N q hq (by omega)
structure Cmp {α:Type}(P:α→Prop) (φ:(α×(α×Unit))→Option (Int×Unit)) (le:α→α→Prop):Prop where
 ans:∀a b,P a→P b→∃c,φ (a,(b,()))=some (c,())∧(c<0↔¬le b a)
 tot:∀a b,P a→P b→le a b∨le b a
 trans:∀a b c,P a→P b→P c→le a b→le b c→le a c
section
variable {α:Type}{P:α→Prop}{n:Nat}(d:α) {φ:(α×(α×Unit))→Option (Int×Unit)}{le:α→α→Prop}{N:Nat}
theorem Cmp.refl (h:Cmp P φ le) {a:α}(ha:P a):le a a:=(h.tot a a ha ha).elim id id
structure Seg (d:α) (n:Nat) (a b:Int) (xs ys:List α):Prop where
 perm:ys.Perm xs
 out:∀k:Int,0≤k→k<(n:Int)→(k<a∨b≤k)→qh ys k d=qh xs k d
 inn:∀k:Int,a≤k→k<b→∃m,a≤m∧m<b∧qh ys k d=qh xs m d
theorem Seg.refl (a b:Int) (xs:List α):Seg d n a b xs xs:=⟨.refl _,fun _ _ _ _=>rfl,fun k h1 h2=>⟨k,h1,h2,rfl⟩⟩
theorem Seg.trans {a b:Int}{xs ys zs:List α}(h1:Seg d n a b xs ys) (h2:Seg d n a b ys zs):Seg d n a b xs zs:=
 ⟨h2.perm.trans h1.perm,fun k q1 q2 q3=>(h2.out k q1 q2 q3).trans (h1.out k q1 q2 q3),fun k q1 q2=>by
  obtain⟨m,m1,m2,m3⟩:=h2.inn k q1 q2;obtain⟨l,l1,l2,l3⟩:=h1.inn m m1 m2;exact⟨l,l1,l2,m3.trans l3⟩⟩
theorem Seg.mono {a b a' b':Int}{xs ys:List α}(h:Seg d n a b xs ys) (h0:0≤a') (hn:b'≤(n:Int)) (ha:a'≤a) (hb:b≤b'):Seg d n a' b' xs ys:=
 ⟨h.perm,fun k q1 q2 q3=>h.out k q1 q2 (by omega),fun k q1 q2=>by
  by_cases hk:a≤k∧k<b
  ·obtain⟨m,m1,m2,m3⟩:=h.inn k hk.1 hk.2;exact⟨m,by omega,by omega,m3⟩
  ·exact⟨k,q1,q2,h.out k (by omega) (by omega) (by omega)⟩⟩
theorem Seg.ck {a b:Int}{xs ys:List α}(h:Seg d n a b xs ys) (hx:Ck P n xs):Ck P n ys:=
 ⟨by rw[h.perm.length_eq];exact hx.len,fun x q=>hx.all x (h.perm.mem_iff.1 q)⟩
theorem qpr {xs:List α}(hl:xs.length=n) {i k:Int}(h0:0≤i) (h1:i<(n:Int)) (h2:0≤k) (v:α):qh (qbh xs i v) k d=if k=i then v else qh xs k d:=by
 rw[qil,qil,qbL];by_cases h:k=i
 ·subst h;rw[if_pos rfl,zaz,List.getElem?_set_self (by omega)];rfl
 ·rw[if_neg h,zaz,zaz,List.getElem?_set_ne (by omega)]
def swp (xs:List α) (i j:Int):List α:=qbh (qbh xs i (qh xs j d)) j (qh xs i d)
theorem qex {xs:List α}(hl:xs.length=n) {i j:Int}(i0:0≤i) (i1:i<(n:Int)) (j0:0≤j) (j1:j<(n:Int)) (k:Int) (h2:0≤k):qh (swp d xs i j) k d=if k=j then qh xs i d else if k=i then qh xs j d else qh xs k d:=by
 unfold swp;rw[qpr d (n:=n) (by rw[qbL,List.length_set];exact hl) j0 j1 h2,qpr d hl i0 i1 h2]
theorem qdF {xs:List α}(hl:xs.length=n) {a b i j:Int}(a0:0≤a) (bn:b≤(n:Int)) (i0:a≤i) (i1:i<b) (j0:a≤j) (j1:j<b):Seg d n a b xs (swp d xs i j):=by
 have g:=qex d hl (i:=i) (j:=j) (by omega) (by omega) (by omega) (by omega);refine⟨?_,fun k q1 q2 q3=>?_,fun k q1 q2=>?_⟩
 ·unfold swp;have hi:i.toNat<xs.length:=by omega
  have hj:j.toNat<xs.length:=by omega
  have e1:qh xs i d=xs[i.toNat]:=by rw[qil,zaz,zaa hi];rfl
  have e2:qh xs j d=xs[j.toNat]:=by rw[qil,zaz,zaa hj];rfl
  rw[e1,e2,qbL,qbL];exact List.set_set_perm hi hj
 ·rw[g k q1,if_neg (by omega),if_neg (by omega)]
 ·rw[g k (by omega)];by_cases h1:k=j
  ·exact⟨i,i0,i1,by rw[if_pos h1]⟩
  ·by_cases h2:k=i
   ·exact⟨j,j0,j1,by rw[if_neg h1,if_pos h2]⟩
   ·exact⟨k,q1,q2,by rw[if_neg h1,if_neg h2]⟩
theorem qdo (xs:List α) (i k:Int) (v:α):inB k (qs (qbh xs i v))=inB k (qs xs):=by
 rw[qfH,qfH,qp,qp,qbL,List.length_set]
def Srt (d:α) (le:α→α→Prop) (a b:Int) (xs:List α):Prop:=∀i j,a≤i→i≤j→j<b→le (qh xs i d) (qh xs j d)
def qjq (P:α→Prop) (d:α) (n:Nat) (le:α→α→Prop) (a b:Int) (xs:List α) (r:Option (Unit×(List α×Unit))):Prop:=∃out,r=some ((),(out,()))∧Seg d n a b xs out∧Srt d le a b out
theorem qkc (hφ:Cmp P φ le) (hn:n≤1099511627776) (hN:n+1<N) {xs:List α}(h:Ck P n xs) {a b:Int}(ha:0≤a) (ha2:a≤(n:Int)) (hb:b≤(n:Int)):qjq P d n le a b xs (qgx d N (xs,(a,(b,(φ,()))))):=by
 simp only[qgx];have ea:qQ .i64 a 1=a+1:=qay (by omega) (by omega);rw[ea];by_cases hab:¬a<b
 ·obtain⟨M,rfl⟩:∃M,N=M+1:=⟨N-1,by omega⟩;rw[qca];simp only[ltF (show ¬a+1<b by omega),cond_false];exact⟨xs,rfl,.refl d a b xs,fun i j h1 h2 h3=>by omega⟩
 refine qat (S:=List α×(Int×Unit)) (fun p=>(b-p.2.1).toNat) (fun p=>Seg d n a b xs p.1∧a+1≤p.2.1∧p.2.1≤(n:Int)+1∧Srt d le a p.2.1 p.1) (qjq P d n le a b xs) ?_ N _ ⟨.refl d a b xs,by simp only;omega,by simp only;omega,fun i j h1 h2 h3=>by
  simp only at h3;have:i=j:=by omega
  subst this;exact hφ.refl (h.get d (by omega) (by omega))⟩ (by simp only;omega)
 rintro ih ⟨ys,i,⟨⟩⟩ ⟨hs,hi,hi2,hsrt⟩ hih;simp only at hs hi hi2 hsrt hih⊢
 by_cases hc:i<b
 ·simp only[ltT hc,cond_true];refine qat (S:=List α×(Int×Unit)) (fun p=>(p.2.1-a).toNat) (fun p=>Seg d n a b xs p.1∧a≤p.2.1∧p.2.1≤i∧∀x y,a≤x→x<y→y≤i→y≠p.2.1→le (qh p.1 x d) (qh p.1 y d)) (qjq P d n le a b xs) ?_ N _ ⟨hs,by simp only;omega,by simp only;omega,fun x y h1 h2 h3 h4=>hsrt x y h1 (by omega) (by simp only at h4⊢;omega)⟩ (by simp only;omega);rintro jh ⟨zs,j,⟨⟩⟩ ⟨hz,hj1,hj2,hord⟩ hjh;simp only at hz hj1 hj2 hord hjh⊢
  have hzc:=hz.ck d h;have ei:qQ .i64 i 1=i+1:=qay (by omega) (by omega);have fin:(a<j→le (qh zs (j-1) d) (qh zs j d))→Srt d le a (i+1) zs:=fun hle x y h1 h2 h3=>by
   by_cases hxy:x=y
   ·subst hxy;exact hφ.refl (hzc.get d (by omega) (by omega))
   by_cases hyj:y=j
   ·subst hyj;by_cases hx:x=y-1
    ·rw[hx];exact hle (by omega)
    ·exact hφ.trans _ _ _ (hzc.get d (by omega) (by omega)) (hzc.get d (i:=y-1) (by omega) (by omega)) (hzc.get d (by omega) (by omega)) (hord x (y-1) h1 (by omega) (by omega) (by omega)) (hle (by omega))
   ·exact hord x y h1 (by omega) (by omega) hyj
  by_cases hja:a<j
  ·have s1:qR .i64 j 1=j-1:=qas (by omega) (by omega);have pj:=hzc.get d (i:=j) (by omega) (by omega);have pk:=hzc.get d (i:=j-1) (by omega) (by omega);obtain⟨c,e1,e3⟩:=hφ.ans _ _ pj pk;have b1:=hzc.inB (i:=j) (by omega) (by omega);have b2:=hzc.inB (i:=j-1) (by omega) (by omega);simp only[ltT hja,s1,b1,b2,e1,qg,qj,zaT,Bool.false_or,zak,cond_true,zbd,qdo];by_cases hc0:c<0
   ·simp only[ltT hc0,cond_true];have hnle:=e3.1 hc0;have hle:le (qh zs j d) (qh zs (j-1) d):=(hφ.tot _ _ pj pk).elim id (fun q=>absurd q hnle);have hsg:=qdF d hzc.len (a:=a) (b:=b) (i:=j) (j:=j-1) ha hb (by omega) (by omega) (by omega) (by omega);have g:=qex d hzc.len (i:=j) (j:=j-1) (by omega) (by omega) (by omega) (by omega);refine hjh (swp d zs j (j-1),(j-1,())) ⟨hz.trans d hsg,by simp only;omega,by simp only;omega,fun x y h1 h2 h3 h4=>?_⟩ (by simp only;omega);simp only at h4⊢
    rw[g x (by omega),g y (by omega)];rw[if_neg h4];by_cases hy:y=j
    ·rw[if_pos hy];by_cases hx:x=j-1
     ·rw[if_pos hx];exact hle
     ·rw[if_neg hx,if_neg (by omega)];exact hord x (j-1) h1 (by omega) (by omega) (by omega)
    ·rw[if_neg hy];by_cases hx:x=j-1
     ·rw[if_pos hx];exact hord j y (by omega) (by omega) h3 hy
     ·rw[if_neg hx];by_cases hx2:x=j
      ·rw[if_pos hx2];exact hord (j-1) y (by omega) (by omega) h3 hy
      ·rw[if_neg hx2];exact hord x y h1 h2 h3 hy
   ·simp only[ltF hc0,cond_false,ei];have hle:le (qh zs (j-1) d) (qh zs j d):=Classical.byContradiction fun q=>hc0 (e3.2 q);exact hih _ ⟨hz,by simp only;omega,by simp only;omega,fin fun _=>hle⟩ (by simp only;omega)
  ·simp only[ltF hja,zaY,Bool.true_or,zak,cond_true,za7,cond_false,ei];exact hih _ ⟨hz,by simp only;omega,by simp only;omega,fin fun q=>absurd q hja⟩ (by simp only;omega)
 ·simp only[ltF hc,cond_false];exact⟨ys,rfl,hs,fun x y h1 h2 h3=>hsrt x y h1 h2 (by omega)⟩
def qu0 (d:α) (le:α→α→Prop) (f hi:Int) (ys:List α) (k:Int):Prop:=(2*k+1<hi→le (qh ys (f+(2*k+1)) d) (qh ys (f+k) d))∧(2*k+2<hi→le (qh ys (f+(2*k+2)) d) (qh ys (f+k) d))
theorem qvh (hφ:Cmp P φ le) {ys:List α}(h:Ck P n ys) {f hi:Int}(f0:0≤f) (fn:f+hi≤(n:Int)) (hp:∀k,0≤k→k<hi→qu0 d le f hi ys k):∀(m:Nat),(m:Int)<hi→le (qh ys (f+m) d) (qh ys (f+0) d):=by
 intro m;induction m using Nat.strongRecOn with
 |ind m ih=>
  intro hm;by_cases h0:m=0
  ·subst h0;exact hφ.refl (h.get d (by omega) (by omega))
  ·have hpp:=hp (((m-1)/2:Nat):Int) (by omega) (by omega);have ihp:=ih ((m-1)/2) (by omega) (by omega);refine hφ.trans _ _ _ (h.get d (by omega) (by omega)) (h.get d (i:=f+(((m-1)/2:Nat):Int)) (by omega) (by omega)) (h.get d (by omega) (by omega)) ?_ ihp;rcases Nat.mod_two_eq_zero_or_one (m-1)with hq|hq
   ·have:=hpp.1 (by omega);rwa [show f+(2*(((m-1)/2:Nat):Int)+1)=f+(m:Int) by omega]at this
   ·have:=hpp.2 (by omega);rwa [show f+(2*(((m-1)/2:Nat):Int)+2)=f+(m:Int) by omega]at this
structure Sft (d:α) (le:α→α→Prop) (f lo hi:Int) (ys:List α) (r:Int):Prop where
 rest:∀k,lo≤k→k<hi→k≠r→qu0 d le f hi ys k
 up:∀p,lo≤p→(2*p+1=r∨2*p+2=r)→(2*r+1<hi→le (qh ys (f+(2*r+1)) d) (qh ys (f+p) d))∧(2*r+2<hi→le (qh ys (f+(2*r+2)) d) (qh ys (f+p) d))
theorem Sft.done {f lo hi:Int}{ys:List α}{r:Int}(h:Sft d le f lo hi ys r) (hr:qu0 d le f hi ys r):∀k,lo≤k→k<hi→qu0 d le f hi ys k:=fun k h1 h2=>by
 by_cases hk:k=r
 ·rw[hk];exact hr
 ·exact h.rest k h1 h2 hk
theorem Sft.step (hφ:Cmp P φ le) {ys:List α}(hc:Ck P n ys) {f lo hi:Int}(f0:0≤f) (fn:f+hi≤(n:Int)) (l0:0≤lo) {r c:Int}(h:Sft d le f lo hi ys r) (hr:lo≤r) (hcr:c=2*r+1∨c=2*r+2) (hch:c<hi)
  (hle:le (qh ys (f+r) d) (qh ys (f+c) d)) (hmax:∀o,(o=2*r+1∨o=2*r+2)→o<hi→le (qh ys (f+o) d) (qh ys (f+c) d)):Sft d le f lo hi (swp d ys (f+r) (f+c)) c:=by
 have g:=qex d hc.len (i:=f+r) (j:=f+c) (by omega) (by omega) (by omega) (by omega);have gc:qh (swp d ys (f+r) (f+c)) (f+c) d=qh ys (f+r) d:=by rw[g _ (by omega),if_pos rfl]
 have gr:qh (swp d ys (f+r) (f+c)) (f+r) d=qh ys (f+c) d:=by rw[g _ (by omega),if_neg (by omega),if_pos rfl]
 have go:∀k,0≤k→k≠r→k≠c→qh (swp d ys (f+r) (f+c)) (f+k) d=qh ys (f+k) d:=fun k h0 h1 h2=>by rw[g _ (by omega),if_neg (by omega),if_neg (by omega)]
 have key:∀k,lo≤k→k<hi→k≠c→∀o,(o=2*k+1∨o=2*k+2)→o<hi→le (qh (swp d ys (f+r) (f+c)) (f+o) d) (qh (swp d ys (f+r) (f+c)) (f+k) d):=fun k k1 k2 k3 o ho oh=>by
  by_cases hk:k=r
  ·subst hk;rw[gr];by_cases hoc:o=c
   ·rw[hoc,gc];exact hle
   ·rw[go o (by omega) (by omega) hoc];exact hmax o ho oh
  ·have hold:=h.rest k k1 k2 hk;by_cases hor:o=r
   ·rw[hor,gr,go k (by omega) hk k3];have hu:=h.up k k1 (by omega);rcases hcr with q|q
    ·rw[q];exact hu.1 (by omega)
    ·rw[q];exact hu.2 (by omega)
   ·rw[go o (by omega) hor (by omega),go k (by omega) hk k3];rcases ho with q|q
    ·rw[q];exact hold.1 (by omega)
    ·rw[q];exact hold.2 (by omega)
 refine⟨fun k k1 k2 k3=>⟨fun q=>key k k1 k2 k3 _ (.inl rfl) q,fun q=>key k k1 k2 k3 _ (.inr rfl) q⟩,fun p p1 p2=>?_⟩;have hp:p=r:=by omega
 subst hp;have hold:=h.rest c (by omega) hch (by omega);rw[gr];exact⟨fun q=>by rw[go _ (by omega) (by omega) (by omega)];exact hold.1 q,fun q=>by rw[go _ (by omega) (by omega) (by omega)];exact hold.2 q⟩
theorem qoZ (hφ:Cmp P φ le) (hn:n≤1099511627776) (hN:n+1<N) {xs:List α}(h:Ck P n xs) {f lo hi:Int}(f0:0≤f) (l0:0≤lo) (lh:lo≤hi) (fn:f+hi≤(n:Int)) (hp:∀k,lo<k→k<hi→qu0 d le f hi xs k):
  ∃out,qkZ d N (xs,(lo,(hi,(f,(φ,())))))=some ((),(out,()))∧Seg d n (f+lo) (f+hi) xs out∧∀k,lo≤k→k<hi→qu0 d le f hi out k:=by
 simp only[qkZ,qJ];refine qat (S:=List α×(Int×Unit)) (fun p=>(hi-p.2.1).toNat) (fun p=>Seg d n (f+lo) (f+hi) xs p.1∧lo≤p.2.1∧p.2.1≤hi∧Sft d le f lo hi p.1 p.2.1) (fun r=>∃out,r=some ((),(out,()))∧Seg d n (f+lo) (f+hi) xs out∧∀k,lo≤k→k<hi→qu0 d le f hi out k) ?_ N _ ⟨.refl d _ _ xs,by simp only;omega,by simp only;omega,fun k k1 k2 k3=>hp k (by simp only at k3;omega) k2,fun p p1 p2=>by simp only at p2;omega⟩ (by simp only;omega);rintro ih ⟨ys,r,⟨⟩⟩ ⟨hs,hr,hrh,hsf⟩ hih;simp only at hs hr hrh hsf hih⊢
 have hc:=hs.ck d h;have e1:qj4 .i64 2 r=2*r:=by rw[qer,qfe (by omega) (by omega)]
 have e2:qQ .i64 (2*r) 1=2*r+1:=qay (by omega) (by omega);simp only[e1,e2];by_cases q:hi≤2*r+1
 ·simp only[leT q,cond_true];exact⟨ys,rfl,hs,hsf.done d ⟨fun w=>by omega,fun w=>by omega⟩⟩
 have e3:qQ .i64 (2*r+1) 1=2*r+2:=by rw[qay (by omega) (by omega)];omega
 have e4:qQ .i64 f (2*r+1)=f+(2*r+1):=qay (by omega) (by omega);have e5:qQ .i64 (f+(2*r+1)) 1=f+(2*r+2):=by rw[qay (by omega) (by omega)];omega
 have e6:qQ .i64 f r=f+r:=qay (by omega) (by omega);have b1:=hc.inB (i:=f+(2*r+1)) (by omega) (by omega);have b0:=hc.inB (i:=f+r) (by omega) (by omega);have p1:=hc.get d (i:=f+(2*r+1)) (by omega) (by omega);have p0:=hc.get d (i:=f+r) (by omega) (by omega);simp only[leF q,cond_false,e3,e4,e5,e6];obtain⟨c,hc1,hc2,hcx,w1,w2⟩:∃c,(c=2*r+1∨c=2*r+2)∧c<hi∧(∀o,(o=2*r+1∨o=2*r+2)→o<hi→le (qh ys (f+o) d) (qh ys (f+c) d))∧
   ((!ltI (2*r+2) hi||inB (f+(2*r+1)) (qs ys))&&((!ltI (2*r+2) hi||inB (f+(2*r+2)) (qs ys))&&(!ltI (2*r+2) hi||qx (φ (qh ys (f+(2*r+1)) d,(qh ys (f+(2*r+2)) d,()))))))=true∧
   (bif (ltI (2*r+2) hi&&ltI (qi (φ (qh ys (f+(2*r+1)) d,(qh ys (f+(2*r+2)) d,()))) (0,())).1 0)then 2*r+2 else 2*r+1)=c:=by
  by_cases q2:2*r+2<hi
  ·have b2:=hc.inB (i:=f+(2*r+2)) (by omega) (by omega);have p2:=hc.get d (i:=f+(2*r+2)) (by omega) (by omega);obtain⟨c,a1,a2⟩:=hφ.ans _ _ p1 p2;by_cases q3:c<0
   ·have hle:=(hφ.tot _ _ p1 p2).elim id (fun w=>absurd w (a2.1 q3));exact⟨2*r+2,.inr rfl,q2,fun o ho _=>by
     rcases ho with w|w
     ·rw[w];exact hle
     ·rw[w];exact hφ.refl p2,by simp only[ltT q2,b1,b2,a1,qg,zaT,Bool.false_or,zak,qj,ltT q3,cond_true,and_self]⟩
   ·have hle:le (qh ys (f+(2*r+2)) d) (qh ys (f+(2*r+1)) d):=Classical.byContradiction fun w=>q3 (a2.2 w);exact⟨2*r+1,.inl rfl,by omega,fun o ho _=>by
     rcases ho with w|w
     ·rw[w];exact hφ.refl p1
     ·rw[w];exact hle,by simp only[ltT q2,b1,b2,a1,qg,zaT,Bool.false_or,zak,qj,ltF q3,Bool.and_false,cond_false,and_self]⟩
  ·exact⟨2*r+1,.inl rfl,by omega,fun o ho w=>by
    rcases ho with w2|w2
    ·rw[w2];exact hφ.refl p1
    ·omega,by simp only[ltF q2,zaY,Bool.true_or,zak,za7,cond_false,and_self]⟩
 have e7:qQ .i64 f c=f+c:=qay (by omega) (by omega);have bc:=hc.inB (i:=f+c) (by omega) (by omega);have pc:=hc.get d (i:=f+c) (by omega) (by omega);obtain⟨v,a1,a2⟩:=hφ.ans _ _ p0 pc;simp only[w1,w2,cond_true,e7,b0,bc,a1,qg,qj,zak,qdo];by_cases q3:v<0
 ·have hle:=(hφ.tot _ _ p0 pc).elim id (fun w=>absurd w (a2.1 q3));simp only[ltT q3,zaT,cond_false];exact hih (swp d ys (f+r) (f+c),(c,())) ⟨hs.trans d (qdF d hc.len (by omega) fn (by omega) (by omega) (by omega) (by omega)),by simp only;omega,by simp only;omega,hsf.step d hφ hc f0 fn l0 hr hc1 hc2 hle hcx⟩ (by simp only;omega)
 ·have hle:le (qh ys (f+c) d) (qh ys (f+r) d):=Classical.byContradiction fun w=>q3 (a2.2 w);simp only[ltF q3,zaY,cond_true];refine⟨ys,rfl,hs,hsf.done d ⟨fun w=>?_,fun w=>?_⟩⟩
  ·exact hφ.trans _ _ _ p1 pc p0 (hcx _ (.inl rfl) w) hle
  ·exact hφ.trans _ _ _ (hc.get d (i:=f+(2*r+2)) (by omega) (by omega)) pc p0 (hcx _ (.inr rfl) w) hle
theorem qup (hφ:Cmp P φ le) (hn:n≤1099511627776) (hN:n+1<N) {xs:List α}(h:Ck P n xs) {a b:Int}(ha:0≤a) (hab:a<b) (hb:b≤(n:Int)):qjq P d n le a b xs (qp6 d N (xs,(a,(b,(φ,()))))):=by
 have e1:qR .i64 b a=b-a:=qas (by omega) (by omega);have e2:qR .i64 (b-a) 1=b-a-1:=qas (by omega) (by omega);have e3:qpI .i64 (b-a-1) 2=(b-a-1)/2:=by
  rw[qj3,Int.tdiv_eq_ediv_of_nonneg (by omega),qfe (by omega) (by omega)]
 simp only[qp6,qJ,e1,e2,e3,neT (show ¬(2:Int)=0 by omega),cond_true];generalize hhi:b-a=hi at *
 refine qat (S:=List α×(Int×Unit)) (fun p=>(p.2.1+1).toNat) (fun p=>Seg d n a b xs p.1∧ -1≤p.2.1∧p.2.1<hi∧∀k,p.2.1<k→k<hi→qu0 d le a hi p.1 k) (qjq P d n le a b xs) ?_ N _ ⟨.refl d _ _ xs,by simp only;omega,by simp only;omega,fun k k1 k2=>⟨fun w=>by simp only at k1;omega,fun w=>by simp only at k1;omega⟩⟩ (by simp only;omega);rintro ih ⟨ys,i,⟨⟩⟩ ⟨hs,hi0,hi1,hhp⟩ hih;simp only at hs hi0 hi1 hhp hih⊢
 have hc:=hs.ck d h;by_cases q:0≤i
 ·obtain⟨out,r1,r2,r3⟩:=qoZ d hφ hn hN hc ha q (by omega:i≤hi) (by omega) (fun k k1 k2=>hhp k k1 k2);have e4:qR .i64 i 1=i-1:=qas (by omega) (by omega);simp only[leT q,cond_true,r1,qg,qj,e4];exact hih _ ⟨hs.trans d (r2.mono d ha hb (by omega) (by omega)),by simp only;omega,by simp only;omega,fun k k1 k2=>r3 k (by simp only at k1;omega) k2⟩ (by simp only;omega)
 simp only[leF q,cond_false];refine qat (S:=List α×(Int×Unit)) (fun p=>(p.2.1+1).toNat) (fun p=>Seg d n a b xs p.1∧ -1≤p.2.1∧p.2.1<hi∧(∀k,0≤k→k<p.2.1+1→qu0 d le a (p.2.1+1) p.1 k)∧∀x y,0≤x→x<y→y<hi→p.2.1<y→le (qh p.1 (a+x) d) (qh p.1 (a+y) d)) (qjq P d n le a b xs) ?_ N _ ⟨hs,by simp only;omega,by simp only;omega,fun k k1 k2=>by
  have hk:=hhp k (by omega) (by simp only at k2;omega);have e:hi-1+1=hi:=by omega
  simp only[e];exact hk,fun x y h1 h2 h3 h4=>by simp only at h4;omega⟩ (by simp only;omega)
 rintro jh ⟨zs,j,⟨⟩⟩ ⟨hz,hj0,hj1,hheap,htail⟩ hjh;simp only at hz hj0 hj1 hheap htail hjh⊢
 have hzc:=hz.ck d h;by_cases q2:0≤j
 ·have e4:qR .i64 j 1=j-1:=qas (by omega) (by omega);have e5:qQ .i64 a j=a+j:=qay (by omega) (by omega);have b1:=hzc.inB (i:=a+j) (by omega) (by omega);have b0:=hzc.inB (i:=a) (by omega) (by omega);have hsw:=qdF d hzc.len (a:=a) (b:=a+j+1) (i:=a) (j:=a+j) ha (by omega) (by omega) (by omega) (by omega) (by omega);have g:=qex d hzc.len (i:=a) (j:=a+j) (by omega) (by omega) (by omega) (by omega);have hwc:=hsw.ck d hzc;have hmax:=qvh d hφ hzc ha (hi:=j+1) (by omega) hheap;have hmax':∀x,0≤x→x≤j→le (qh zs (a+x) d) (qh zs a d):=fun x x0 x1=>by
   obtain⟨m,rfl⟩:∃m:Nat,x=(m:Int):=⟨x.toNat,by omega⟩;have:=hmax m (by omega);rwa [show a+0=a by omega]at this
  obtain⟨out,r1,r2,r3⟩:=qoZ d hφ hn hN hwc ha (za9 0) (by omega:(0:Int)≤j) (by omega) (fun k k1 k2=>by
   have hk:=hheap k (by omega) (by omega);refine⟨fun w=>?_,fun w=>?_⟩
   ·rw[g _ (by omega),g _ (by omega),if_neg (by omega),if_neg (by omega),if_neg (by omega),if_neg (by omega)];exact hk.1 (by omega)
   ·rw[g _ (by omega),g _ (by omega),if_neg (by omega),if_neg (by omega),if_neg (by omega),if_neg (by omega)];exact hk.2 (by omega))
  simp only[leT q2,cond_true,e4,e5,b0,b1,qdo,zak];have r1':qkZ d N (qbh (qbh zs a (qh zs (a+j) d)) (a+j) (qh zs a d),(0,(j,(a,(φ,())))))=some ((),(out,())):=r1;simp only[r1',qg,qj,cond_true];refine hjh _ ⟨hz.trans d ((hsw.mono d ha hb (by omega) (by omega)).trans d (r2.mono d ha hb (by omega) (by omega))),by simp only;omega,by simp only;omega,fun k k1 k2=>?_,fun x y x0 xy yh yj=>?_⟩ (by simp only;omega)
  ·have e:j-1+1=j:=by omega
   simp only[e];exact r3 k k1 (by simp only at k2;omega)
  ·simp only at yj⊢
   have gy:qh out (a+y) d=qh (swp d zs a (a+j)) (a+y) d:=r2.out _ (by omega) (by omega) (.inr (by omega));obtain⟨x',x'0,x'y,hx'⟩:∃x',0≤x'∧(x'<j∨(x'=x∧j≤x))∧qh out (a+x) d=qh (swp d zs a (a+j)) (a+x') d:=by
    by_cases hxj:x<j
    ·obtain⟨m,m1,m2,m3⟩:=r2.inn (a+x) (by omega) (by omega);exact⟨m-a,by omega,.inl (by omega),by rw[m3];congr 1;omega⟩
    ·exact⟨x,x0,.inr ⟨rfl,by omega⟩,r2.out _ (by omega) (by omega) (.inr (by omega))⟩
   rw[hx',gy,g _ (by omega),g _ (by omega)];by_cases hyj:y=j
   ·rw[if_pos (by omega:a+y=a+j)];rw[if_neg (by omega:¬a+x'=a+j)];by_cases hx0:x'=0
    ·rw[if_pos (by omega:a+x'=a)];exact hmax' j q2 (za9 j)
    ·rw[if_neg (by omega:¬a+x'=a)];exact hmax' x' x'0 (by omega)
   ·rw[if_neg (by omega:¬a+y=a+j),if_neg (by omega:¬a+y=a)];by_cases hxj:x'=j
    ·rw[if_pos (by omega:a+x'=a+j)];have:=htail 0 y (by omega) (by omega) yh (by omega);rwa [show a+0=a by omega]at this
    ·rw[if_neg (by omega:¬a+x'=a+j)];by_cases hx0:x'=0
     ·rw[if_pos (by omega:a+x'=a)];exact htail j y q2 (by omega) yh (by omega)
     ·rw[if_neg (by omega:¬a+x'=a)];exact htail x' y x'0 (by omega) yh (by omega)
 ·simp only[leF q2,cond_false];refine⟨zs,rfl,hz,fun x y h1 h2 h3=>?_⟩;by_cases hxy:x=y
  ·rw[hxy];exact hφ.refl (hzc.get d (by omega) (by omega))
  ·have:=htail (x-a) (y-a) (by omega) (by omega) (by omega) (by omega);rwa [show a+(x-a)=x by omega,show a+(y-a)=y by omega]at this
theorem qts (hn:n≤1099511627776) (hN:n+1<N) {xs:List α}(h:Ck P n xs) {a b:Int}(ha:0≤a) (hab:a<b) (hb:b≤(n:Int)):∃out,qbJ d N (xs,(a,(b,(φ,()))))=some ((),(out,()))∧Seg d n a b xs out:=by
 have e1:qR .i64 b 1=b-1:=qas (by omega) (by omega);simp only[qbJ,qJ,e1];refine qat (S:=List α×(Int×(Int×Unit))) (fun p=>(p.2.2.1-p.2.1).toNat) (fun p=>Seg d n a b xs p.1∧a≤p.2.1∧p.2.2.1<b) (fun r=>∃out,r=some ((),(out,()))∧Seg d n a b xs out) ?_ N _ ⟨.refl d _ _ xs,by simp only;omega,by simp only;omega⟩ (by simp only;omega);rintro ih ⟨ys,i,j,⟨⟩⟩ ⟨hs,hi,hj⟩ hih;simp only at hs hi hj hih⊢
 have hc:=hs.ck d h;by_cases q:i<j
 ·have e2:qQ .i64 i 1=i+1:=qay (by omega) (by omega);have e3:qR .i64 j 1=j-1:=qas (by omega) (by omega);simp only[ltT q,cond_true,e2,e3,hc.inB (i:=i) (by omega) (by omega),hc.inB (i:=j) (by omega) (by omega),qdo,zak];exact hih (swp d ys i j,(i+1,(j-1,()))) ⟨hs.trans d (qdF d hc.len ha hb hi (by omega) (by omega) hj),by simp only;omega,by simp only;omega⟩ (by simp only;omega)
 ·simp only[ltF q,cond_false];exact⟨ys,rfl,hs⟩
theorem qs8 (hφ:Cmp P φ le) (hn:n≤1099511627776) (hN:n+1<N) {xs:List α}(h:Ck P n xs) {a b pv:Int}(ha:0≤a) (hpa:a≤pv) (hpb:pv<b) (hb:b≤(n:Int)):
  ∃out mid,qhr d N (xs,(a,(b,(pv,(φ,())))))=some ((mid,()),(out,()))∧Seg d n a b xs out∧a<mid∧mid≤b∧∀k,a≤k→k<mid→le (qh out k d) (qh xs pv d):=by
 have e1:qR .i64 b 1=b-1:=qas (by omega) (by omega);have e2:qQ .i64 a 1=a+1:=qay (by omega) (by omega);have pp:=h.get d (i:=pv) (by omega) (by omega);simp only[qhr,qJ,e1,e2,h.inB (i:=a) (by omega) (by omega),h.inB (i:=pv) (by omega) (by omega),qdo,zak,cond_true];have g:=qex d h.len (i:=a) (j:=pv) (by omega) (by omega) (by omega) (by omega);have ini:qbh (qbh xs a (qh xs pv d)) pv (qh xs a d)=swp d xs a pv:=rfl;have ga:qh (swp d xs a pv) a d=qh xs pv d:=by
  rw[g a ha];by_cases q:a=pv
  ·rw[if_pos q,q]
  ·rw[if_neg q,if_pos rfl]
 rw[ini];obtain⟨p,hp⟩:∃p,qh xs pv d=p:=⟨_,rfl⟩;rw[hp]at pp ga;rw[hp];refine qat (S:=List α×(Int×(Int×Unit))) (fun q=>(q.2.2.1+1-q.2.1).toNat) (fun q=>Seg d n a b xs q.1∧a<q.2.1∧q.2.1≤b∧q.2.2.1<b∧qh q.1 a d=p∧∀k,a≤k→k<q.2.1→le (qh q.1 k d) p) (fun r=>∃out mid,r=some ((mid,()),(out,()))∧Seg d n a b xs out∧a<mid∧mid≤b∧∀k,a≤k→k<mid→le (qh out k d) p) ?_ N _ ⟨qdF d h.len ha hb (by omega) (by omega) hpa hpb,by simp only;omega,by simp only;omega,by simp only;omega,ga,fun k k1 k2=>by
  have:k=a:=by simp only at k2;omega
  rw[this,ga];exact hφ.refl pp⟩ (by simp only;omega)
 rintro ih ⟨ys,i,j,⟨⟩⟩ ⟨hs,hi,hib,hj,hya,hlo⟩ hih;simp only at hs hi hib hj hya hlo hih⊢
 have hc:=hs.ck d h;have ba:=hc.inB (i:=a) (by omega) (by omega);refine qat (S:=List α×(Int×(Int×Unit))) (fun q=>(q.2.2.1+1-q.2.1).toNat) (fun q=>q.1=ys∧i≤q.2.1∧q.2.1≤b∧q.2.2.1=j∧∀k,a≤k→k<q.2.1→le (qh ys k d) p) (fun r=>∃out mid,r=some ((mid,()),(out,()))∧Seg d n a b xs out∧a<mid∧mid≤b∧∀k,a≤k→k<mid→le (qh out k d) p) ?_ N _ ⟨rfl,by simp only;omega,hib,rfl,hlo⟩ (by simp only;omega);rintro jh ⟨ys',i2,j',⟨⟩⟩ ⟨hy',hi2,hi2b,hj',hlo2⟩ hjh;simp only at hy' hi2 hi2b hj' hlo2 hjh⊢
 subst hy';subst hj';obtain⟨t1,w1,w2,w3⟩:∃t1:Bool,(((!(leI i2 j'))||(inB a (qs ys')))&&(((!(leI i2 j'))||(inB i2 (qs ys')))&&((!(leI i2 j'))||(qx (φ ((qh ys' a d),((qh ys' i2 d),())))))))=true∧((leI i2 j')&&(!(ltI (qi (φ ((qh ys' a d),((qh ys' i2 d),()))) (0,())).1 0)))=t1∧(t1=true→i2≤j'∧le (qh ys' i2 d) p):=by
  by_cases q:i2≤j'
  ·have pi:=hc.get d (i:=i2) (by omega) (by omega);obtain⟨c,a1,a2⟩:=hφ.ans _ _ (by rw[hya];exact pp:P (qh ys' a d)) pi;refine⟨_,by simp only[leT q,ba,hc.inB (i:=i2) (by omega) (by omega),a1,qg,zaT,Bool.false_or,zak],rfl,fun ht=>⟨q,?_⟩⟩;rw[leT q,a1,qj,zbd]at ht;rw[hya]at a2;exact Classical.byContradiction fun w=>by
    rw[ltT (a2.2 w)]at ht;cases ht
  ·exact⟨false,by simp only[leF q,zaY,Bool.true_or,zak],by simp only[leF q,za7],fun w=>by cases w⟩
 simp only[w1,w2,cond_true];cases t1 with
 |true=>
  obtain⟨v1,v2⟩:=w3 rfl;have e3:qQ .i64 i2 1=i2+1:=qay (by omega) (by omega);simp only[cond_true,e3];exact hjh _ ⟨rfl,by simp only;omega,by simp only;omega,rfl,fun k k1 k2=>by
   by_cases hk:k=i2
   ·rw[hk];exact v2
   ·exact hlo2 k k1 (by simp only at k2;omega)⟩ (by simp only;omega)
 |false=>
  simp only[cond_false];refine qat (S:=List α×(Int×Unit)) (fun q=>(q.2.1+1-i2).toNat) (fun q=>q.1=ys'∧q.2.1≤j') (fun r=>∃out mid,r=some ((mid,()),(out,()))∧Seg d n a b xs out∧a<mid∧mid≤b∧∀k,a≤k→k<mid→le (qh out k d) p) ?_ N _ ⟨rfl,by simp only;omega⟩ (by simp only;omega);rintro kh ⟨ys2,j2,⟨⟩⟩ ⟨hy2,hj2⟩ hkh;simp only at hy2 hj2 hkh⊢
  subst hy2;obtain⟨t2,u1,u2,u3,u4⟩:∃t2:Bool,(((!(leI i2 j2))||(inB a (qs ys2)))&&(((!(leI i2 j2))||(inB j2 (qs ys2)))&&((!(leI i2 j2))||(qx (φ ((qh ys2 a d),((qh ys2 j2 d),())))))))=true∧((leI i2 j2)&&(ltI (qi (φ ((qh ys2 a d),((qh ys2 j2 d),()))) (0,())).1 0))=t2∧(t2=true→i2≤j2)∧(t2=false→i2≤j2→le (qh ys2 j2 d) p):=by
   by_cases q:i2≤j2
   ·have pi:=hc.get d (i:=j2) (by omega) (by omega);obtain⟨c,a1,a2⟩:=hφ.ans _ _ (by rw[hya];exact pp:P (qh ys2 a d)) pi;refine⟨_,by simp only[leT q,ba,hc.inB (i:=j2) (by omega) (by omega),a1,qg,zaT,Bool.false_or,zak],rfl,fun _=>q,fun ht _=>?_⟩;rw[leT q,a1,qj,zbd]at ht;rw[hya]at a2;exact Classical.byContradiction fun w=>by
     rw[ltT (a2.2 w)]at ht;cases ht
   ·exact⟨false,by simp only[leF q,zaY,Bool.true_or,zak],by simp only[leF q,za7],(fun w=>by cases w),fun _ w=>absurd w q⟩
  simp only[u1,u2,cond_true];have e4:t2=true∨i2≤j2→qR .i64 j2 1=j2-1:=fun w=>by
   have:i2≤j2:=w.elim u3 id;exact qas (by omega) (by omega)
  cases t2 with
  |true=>
   have v1:=u3 rfl;simp only[cond_true,e4 (.inl rfl)];exact hkh _ ⟨rfl,by simp only;omega⟩ (by simp only;omega)
  |false=>
   simp only[cond_false];by_cases q:j2<i2
   ·simp only[ltT q,cond_true];exact⟨ys2,i2,rfl,hs,by omega,hi2b,hlo2⟩
   ·have v2:=u4 rfl (by omega);have e3:qQ .i64 i2 1=i2+1:=qay (by omega) (by omega);simp only[ltF q,cond_false,hc.inB (i:=i2) (by omega) (by omega),hc.inB (i:=j2) (by omega) (by omega),zak,cond_true,e3,e4 (.inr (by omega))];have g2:=qex d hc.len (i:=i2) (j:=j2) (by omega) (by omega) (by omega) (by omega);refine hih (swp d ys2 i2 j2,(i2+1,(j2-1,()))) ⟨hs.trans d (qdF d hc.len ha hb (by omega) (by omega) (by omega) (by omega)),by simp only;omega,by simp only;omega,by simp only;omega,?_,fun k k1 k2=>?_⟩ (by simp only;omega)
    ·simp only;rw[g2 a ha,if_neg (by omega),if_neg (by omega)];exact hya
    ·simp only at k2⊢
     rw[g2 k (by omega)];by_cases hk:k=j2
     ·rw[if_pos hk];by_cases hij:i2=j2
      ·rw[hij];exact v2
      ·omega
     ·rw[if_neg hk];by_cases hk2:k=i2
      ·rw[if_pos hk2];exact v2
      ·rw[if_neg hk2];exact hlo2 k k1 (by omega)
theorem qnW (hφ:Cmp P φ le) {G b1 b2:Bool}{u v:α}(h1:G=true→b1=true) (h2:G=true→b2=true) (hP:G=true→P u∧P v):
  (((!G)||b1)&&(((!G)||b2)&&((!G)||qx (φ (u,(v,()))))))=true∧(G=true→(ltI (qi (φ (u,(v,()))) (0,())).1 0=true→¬le v u)∧(ltI (qi (φ (u,(v,()))) (0,())).1 0=false→le v u)):=by
 cases G with
 |false=>exact⟨rfl,fun q=>by cases q⟩
 |true=>
  obtain⟨pu,pv⟩:=hP rfl;obtain⟨c,a1,a2⟩:=hφ.ans u v pu pv;rw[h1 rfl,h2 rfl,a1];refine⟨by simp only[qg,zaT,Bool.false_or,zak],fun _=>⟨fun q=>?_,fun q=>?_⟩⟩
  ·rw[qj]at q;by_cases hc:c<0
   ·exact a2.1 hc
   ·rw[ltF hc]at q;cases q
  ·rw[qj]at q;by_cases hc:c<0
   ·rw[ltT hc]at q;cases q
   ·exact Classical.byContradiction fun w=>hc (a2.2 w)
theorem Cmp.flip (hφ:Cmp P φ le) {u v:α}(pu:P u) (pv:P v) (h:¬le v u):le u v:=(hφ.tot u v pu pv).elim id fun q=>absurd q h
structure qsA (d:α) (n:Nat) (le:α→α→Prop) (a b:Int) (xs:List α) (p:α) (ys:List α) (i j:Int):Prop where
 seg:Seg d n a b xs ys
 ai:a<i
 ij:i≤j+1
 jb:j<b
 at_:qh ys a d=p
 lo:∀k,a<k→k<i→le (qh ys k d) p
 hi:∀k,j<k→k<b→le p (qh ys k d)
def qqg (d:α) (n:Nat) (le:α→α→Prop) (a b:Int) (xs:List α) (r:Option ((Int×(Bool×Unit))×(List α×Unit))):Prop:=∃out mid fl,r=some ((mid,(fl,())),(out,()))∧Seg d n a b xs out∧a≤mid∧mid<b∧(∀k,a≤k→k<mid→le (qh out k d) (qh out mid d))∧∀k,mid<k→k<b→le (qh out mid d) (qh out k d)
theorem qsA.fin {a b:Int}{xs ys:List α}{p:α}{i j:Int}(h:qsA d n le a b xs p ys i j) (hc:Ck P n ys) (ha:0≤a) (hb:b≤(n:Int)) (hij:j<i) (fl:Bool):qqg d n le a b xs (some ((j,(fl,())),(swp d ys j a,()))):=by
 have h1:=h.ai;have h2:=h.ij;have h3:=h.jb;have g:=qex d hc.len (i:=j) (j:=a) (by omega) (by omega) (by omega) (by omega);have gj:qh (swp d ys j a) j d=p:=by
  rw[g j (by omega)];by_cases q:j=a
  ·rw[if_pos q,q];exact h.at_
  ·rw[if_neg q,if_pos rfl];exact h.at_
 refine⟨_,j,fl,rfl,h.seg.trans d (qdF d hc.len ha hb (by omega) (by omega) (by omega) (by omega)),by omega,by omega,fun k k1 k2=>?_,fun k k1 k2=>?_⟩
 ·rw[gj,g k (by omega)];by_cases q:k=a
  ·rw[if_pos q];exact h.lo j (by omega) (by omega)
  ·rw[if_neg q,if_neg (by omega)];exact h.lo k (by omega) (by omega)
 ·rw[gj,g k (by omega),if_neg (by omega),if_neg (by omega)];exact h.hi k k1 k2
theorem qsA.swap {a b:Int}{xs ys:List α}{p:α}{i j:Int}(h:qsA d n le a b xs p ys i j) (hc:Ck P n ys) (ha:0≤a) (hb:b≤(n:Int)) (hij:i<j) (hj:le (qh ys j d) p) (hi:le p (qh ys i d)):qsA d n le a b xs p (swp d ys i j) (i+1) (j-1):=by
 have h1:=h.ai;have h2:=h.ij;have h3:=h.jb;have g:=qex d hc.len (i:=i) (j:=j) (by omega) (by omega) (by omega) (by omega);refine⟨h.seg.trans d (qdF d hc.len ha hb (by omega) (by omega) (by omega) (by omega)),by omega,by omega,by omega,?_,fun k k1 k2=>?_,fun k k1 k2=>?_⟩
 ·rw[g a ha,if_neg (by omega),if_neg (by omega)];exact h.at_
 ·rw[g k (by omega),if_neg (by omega)];by_cases q:k=i
  ·rw[if_pos q];exact hj
  ·rw[if_neg q];exact h.lo k k1 (by omega)
 ·rw[g k (by omega)];by_cases q:k=j
  ·rw[if_pos q];exact hi
  ·rw[if_neg q,if_neg (by omega)];exact h.hi k (by omega) k2
theorem qt2 (hφ:Cmp P φ le) (hn:n≤1099511627776) (hN:n+1<N) {xs:List α}(h:Ck P n xs) {a b pv:Int}(ha:0≤a) (hpa:a≤pv) (hpb:pv<b) (hb:b≤(n:Int)):qqg d n le a b xs (qfx d N (xs,(a,(b,(pv,(φ,())))))):=by
 have e1:qR .i64 b 1=b-1:=qas (by omega) (by omega);have e2:qQ .i64 a 1=a+1:=qay (by omega) (by omega);have pp:=h.get d (i:=pv) (by omega) (by omega);simp only[qfx,qJ,e1,e2,h.inB (i:=a) (by omega) (by omega),h.inB (i:=pv) (by omega) (by omega),qdo,zak,cond_true];have g:=qex d h.len (i:=a) (j:=pv) (by omega) (by omega) (by omega) (by omega);have ini:qbh (qbh xs a (qh xs pv d)) pv (qh xs a d)=swp d xs a pv:=rfl;have ga:qh (swp d xs a pv) a d=qh xs pv d:=by
  rw[g a ha];by_cases q:a=pv
  ·rw[if_pos q,q]
  ·rw[if_neg q,if_pos rfl]
 rw[ini];obtain⟨p,hp⟩:∃p,qh xs pv d=p:=⟨_,rfl⟩;rw[hp]at pp ga;have hs0:=qdF d h.len ha hb (i:=a) (j:=pv) (by omega) (by omega) hpa hpb;have hc0:=hs0.ck d h;refine qat (S:=List α×(Int×Unit)) (fun q=>(b-q.2.1).toNat) (fun q=>q.1=swp d xs a pv∧a<q.2.1∧q.2.1≤b∧∀k,a<k→k<q.2.1→le (qh (swp d xs a pv) k d) p) (qqg d n le a b xs) ?_ N _ ⟨rfl,by simp only;omega,by simp only;omega,fun k k1 k2=>by simp only at k2;omega⟩ (by simp only;omega);rintro ih ⟨ys,i,⟨⟩⟩ ⟨hy,hi,hib,hlo⟩ hih;simp only at hy hi hib hlo hih⊢
 subst hy;generalize swp d xs a pv=ys at *
 have ba:=hc0.inB (i:=a) (by omega) (by omega);obtain⟨w1,w2⟩:=qnW hφ (G:=leI i (b-1)) (b1:=inB i (qs ys)) (b2:=inB a (qs ys)) (u:=qh ys i d) (v:=qh ys a d) (fun q=>by
   have:i≤b-1:=by rw[qbQ]at q;exact of_decide_eq_true q
   exact hc0.inB (by omega) (by omega)) (fun _=>ba) (fun q=>by
   have:i≤b-1:=by rw[qbQ]at q;exact of_decide_eq_true q
   exact⟨hc0.get d (by omega) (by omega),by rw[ga];exact pp⟩)
 simp only[w1,cond_true];by_cases q1:(leI i (b-1)&&ltI (qi (φ (qh ys i d,(qh ys a d,()))) (0,())).1 0)=true
 ·simp only[q1,cond_true];simp only[zad]at q1;have:i≤b-1:=by have:=q1.1;rw[qbQ]at this;exact of_decide_eq_true this
  have e3:qQ .i64 i 1=i+1:=qay (by omega) (by omega);have hle:=(w2 q1.1).1 q1.2;rw[ga]at hle;rw[e3];exact hih _ ⟨rfl,by simp only;omega,by simp only;omega,fun k k1 k2=>by
   by_cases hk:k=i
   ·rw[hk];exact hφ.flip (hc0.get d (by omega) (by omega)) pp hle
   ·exact hlo k k1 (by simp only at k2;omega)⟩ (by simp only;omega)
 have q1f:(leI i (b-1)&&ltI (qi (φ (qh ys i d,(qh ys a d,()))) (0,())).1 0)=false:=by simpa using q1
 have hi1:i≤b-1→le p (qh ys i d):=fun w=>by
  rw[leT w,zbd]at q1f;have:=(w2 (leT w)).2 q1f;rwa [ga]at this
 simp only[q1f,cond_false];refine qat (S:=List α×(Int×Unit)) (fun q=>(q.2.1+1-i).toNat) (fun q=>q.1=ys∧i≤q.2.1+1∧q.2.1<b∧∀k,q.2.1<k→k<b→le p (qh ys k d)) (qqg d n le a b xs) ?_ N _ ⟨rfl,by simp only;omega,by simp only;omega,fun k k1 k2=>by simp only at k1;omega⟩ (by simp only;omega);rintro jh ⟨ys',j,⟨⟩⟩ ⟨hy',hj1,hj2,hhi⟩ hjh;simp only at hy' hj1 hj2 hhi hjh⊢
 subst hy';obtain⟨u1,u2⟩:=qnW hφ (G:=leI i j) (b1:=inB j (qs ys')) (b2:=inB a (qs ys')) (u:=qh ys' j d) (v:=qh ys' a d) (fun q=>by
   have:i≤j:=by rw[qbQ]at q;exact of_decide_eq_true q
   exact hc0.inB (by omega) (by omega)) (fun _=>ba) (fun q=>by
   have:i≤j:=by rw[qbQ]at q;exact of_decide_eq_true q
   exact⟨hc0.get d (by omega) (by omega),by rw[ga];exact pp⟩)
 simp only[u1,cond_true];by_cases q2:(leI i j&& !ltI (qi (φ (qh ys' j d,(qh ys' a d,()))) (0,())).1 0)=true
 ·simp only[q2,cond_true];simp only[zad,za8]at q2;have:i≤j:=by have:=q2.1;rw[qbQ]at this;exact of_decide_eq_true this
  have e3:qR .i64 j 1=j-1:=qas (by omega) (by omega);have hle:=(u2 q2.1).2 q2.2;rw[ga]at hle;rw[e3];exact hjh _ ⟨rfl,by simp only;omega,by simp only;omega,fun k k1 k2=>by
   by_cases hk:k=j
   ·rw[hk];exact hle
   ·exact hhi k (by simp only at k1;omega) k2⟩ (by simp only;omega)
 have q2f:(leI i j&& !ltI (qi (φ (qh ys' j d,(qh ys' a d,()))) (0,())).1 0)=false:=by simpa using q2
 simp only[q2f,cond_false];have hinv:qsA d n le a b xs p ys' i j:=⟨hs0,hi,hj1,hj2,ga,hlo,hhi⟩;by_cases q3:j<i
 ·simp only[ltT q3,cond_true,ba,hc0.inB (i:=j) (by omega) (by omega),zak];exact hinv.fin d hc0 ha hb q3 true
 simp only[ltF q3,cond_false,hc0.inB (i:=i) (by omega) (by omega),hc0.inB (i:=j) (by omega) (by omega),zak,cond_true];have hij:i≤j:=by omega
 have ltj:ltI (qi (φ (qh ys' j d,(qh ys' a d,()))) (0,())).1 0=true:=by
  rw[leT hij,zbd]at q2f;simpa using q2f
 have nlj:=(u2 (leT hij)).1 ltj;rw[ga]at nlj;have hjp:=hφ.flip (hc0.get d (i:=j) (by omega) (by omega)) pp nlj;have hpi:=hi1 (by omega);have hne:i≠j:=fun w=>nlj (by rw[←w];exact hpi);have e3:qQ .i64 i 1=i+1:=qay (by omega) (by omega);have e4:qR .i64 j 1=j-1:=qas (by omega) (by omega);rw[e3,e4];have hinv2:=hinv.swap d hc0 ha hb (by omega) hjp hpi;refine qat (S:=List α×(Int×(Int×Unit))) (fun q=>(q.2.2.1+1-q.2.1).toNat) (fun q=>qsA d n le a b xs p q.1 q.2.1 q.2.2.1) (qqg d n le a b xs) ?_ N (swp d ys' i j,(i+1,(j-1,()))) hinv2 (by simp only;omega);clear hinv2 hinv hne hpi hjp nlj ltj hij q3 q2f q2 u1 u2 hhi hj1 hj2 hjh hi1 q1f q1 w1 w2 hlo hi hib hih e3 e4 jh ih;rintro ih ⟨zs,i,j,⟨⟩⟩ hz hih;simp only at hz hih⊢
 have hzc:=hz.seg.ck d h;have za:=hz.at_;have z1:=hz.ai;have z2:=hz.ij;have z3:=hz.jb;have ba:=hzc.inB (i:=a) (by omega) (by omega);refine qat (S:=List α×(Int×(Int×Unit))) (fun q=>(q.2.2.1+1-q.2.1).toNat) (fun q=>q.1=zs∧q.2.2.1=j∧i≤q.2.1∧qsA d n le a b xs p zs q.2.1 j) (qqg d n le a b xs) ?_ N _ ⟨rfl,rfl,za9 _,hz⟩ (by simp only;omega);rintro jh ⟨zs',i2,j',⟨⟩⟩ ⟨hy',hj',hi2,hz2⟩ hjh;simp only at hy' hj' hi2 hz2 hjh⊢
 subst hy';subst hj';have y1:=hz2.ai;have y2:=hz2.ij;obtain⟨w1,w2⟩:=qnW hφ (G:=leI i2 j') (b1:=inB i2 (qs zs')) (b2:=inB a (qs zs')) (u:=qh zs' i2 d) (v:=qh zs' a d) (fun q=>by
   have:i2≤j':=by rw[qbQ]at q;exact of_decide_eq_true q
   exact hzc.inB (by omega) (by omega)) (fun _=>ba) (fun q=>by
   have:i2≤j':=by rw[qbQ]at q;exact of_decide_eq_true q
   exact⟨hzc.get d (by omega) (by omega),by rw[za];exact pp⟩)
 simp only[w1,cond_true];by_cases q1:(leI i2 j'&&ltI (qi (φ (qh zs' i2 d,(qh zs' a d,()))) (0,())).1 0)=true
 ·simp only[q1,cond_true];simp only[zad]at q1;have:i2≤j':=by have:=q1.1;rw[qbQ]at this;exact of_decide_eq_true this
  have e3:qQ .i64 i2 1=i2+1:=qay (by omega) (by omega);have hle:=(w2 q1.1).1 q1.2;rw[za]at hle;rw[e3];have hnew:qsA d n le a b xs p zs' (i2+1) j':=⟨hz2.seg,by omega,by omega,hz2.jb,za,fun k k1 k2=>by
   by_cases hk:k=i2
   ·rw[hk];exact hφ.flip (hzc.get d (by omega) (by omega)) pp hle
   ·exact hz2.lo k k1 (by omega),hz2.hi⟩
  exact hjh _ ⟨rfl,rfl,by simp only;omega,hnew⟩ (by simp only;omega)
 have q1f:(leI i2 j'&&ltI (qi (φ (qh zs' i2 d,(qh zs' a d,()))) (0,())).1 0)=false:=by simpa using q1
 have hi1:i2≤j'→le p (qh zs' i2 d):=fun w=>by
  rw[leT w,zbd]at q1f;have:=(w2 (leT w)).2 q1f;rwa [za]at this
 simp only[q1f,cond_false];refine qat (S:=List α×(Int×Unit)) (fun q=>(q.2.1+1-i2).toNat) (fun q=>q.1=zs'∧q.2.1≤j'∧qsA d n le a b xs p zs' i2 q.2.1) (qqg d n le a b xs) ?_ N _ ⟨rfl,by simp only;omega,hz2⟩ (by simp only;omega);rintro kh ⟨zs2,j2,⟨⟩⟩ ⟨hy2,hj2,hz3⟩ hkh;simp only at hy2 hj2 hz3 hkh⊢
 subst hy2;have x2:=hz3.ij;have x3:=hz3.jb;obtain⟨u1,u2⟩:=qnW hφ (G:=leI i2 j2) (b1:=inB j2 (qs zs2)) (b2:=inB a (qs zs2)) (u:=qh zs2 j2 d) (v:=qh zs2 a d) (fun q=>by
   have:i2≤j2:=by rw[qbQ]at q;exact of_decide_eq_true q
   exact hzc.inB (by omega) (by omega)) (fun _=>ba) (fun q=>by
   have:i2≤j2:=by rw[qbQ]at q;exact of_decide_eq_true q
   exact⟨hzc.get d (by omega) (by omega),by rw[za];exact pp⟩)
 simp only[u1,cond_true];by_cases q2:(leI i2 j2&& !ltI (qi (φ (qh zs2 j2 d,(qh zs2 a d,()))) (0,())).1 0)=true
 ·simp only[q2,cond_true];simp only[zad,za8]at q2;have:i2≤j2:=by have:=q2.1;rw[qbQ]at this;exact of_decide_eq_true this
  have e3:qR .i64 j2 1=j2-1:=qas (by omega) (by omega);have hle:=(u2 q2.1).2 q2.2;rw[za]at hle;rw[e3];have hnew:qsA d n le a b xs p zs2 i2 (j2-1):=⟨hz3.seg,hz3.ai,by omega,by omega,za,hz3.lo,fun k k1 k2=>by
   by_cases hk:k=j2
   ·rw[hk];exact hle
   ·exact hz3.hi k (by omega) k2⟩
  exact hkh _ ⟨rfl,by simp only;omega,hnew⟩ (by simp only;omega)
 have q2f:(leI i2 j2&& !ltI (qi (φ (qh zs2 j2 d,(qh zs2 a d,()))) (0,())).1 0)=false:=by simpa using q2
 simp only[q2f,cond_false];by_cases q3:j2<i2
 ·simp only[ltT q3,cond_true,ba,hzc.inB (i:=j2) (by omega) (by omega),zak];exact hz3.fin d hzc ha hb q3 false
 simp only[ltF q3,cond_false,hzc.inB (i:=i2) (by omega) (by omega),hzc.inB (i:=j2) (by omega) (by omega),zak,cond_true];have hij:i2≤j2:=by omega
 have ltj:ltI (qi (φ (qh zs2 j2 d,(qh zs2 a d,()))) (0,())).1 0=true:=by
  rw[leT hij,zbd]at q2f;simpa using q2f
 have nlj:=(u2 (leT hij)).1 ltj;rw[za]at nlj;have hjp:=hφ.flip (hzc.get d (i:=j2) (by omega) (by omega)) pp nlj;have hpi:=hi1 (by omega);have hne:i2≠j2:=fun w=>nlj (by rw[←w];exact hpi);have e3:qQ .i64 i2 1=i2+1:=qay (by omega) (by omega);have e4:qR .i64 j2 1=j2-1:=qas (by omega) (by omega);rw[e3,e4];exact hih (swp d zs2 i2 j2,(i2+1,(j2-1,()))) (hz3.swap d hzc ha hb (by omega) hjp hpi) (by simp only;omega)
theorem qor (hφ:Cmp P φ le) {ys:List α}(h:Ck P n ys) {i j s:Int}(i0:0≤i) (i1:i<(n:Int)) (j0:0≤j) (j1:j<(n:Int)):∃p q s',qhG d N (ys,(i,(j,(s,(φ,())))))=some ((p,(q,())),(ys,(s',())))∧((p=i∧q=j)∨(p=j∧q=i)):=by
 obtain⟨c,a1,a2⟩:=hφ.ans _ _ (h.get d j0 j1) (h.get d i0 i1);simp only[qhG,h.inB j0 j1,h.inB i0 i1,a1,qg,qj,zak,cond_true];cases ltI c 0 with
 |true=>exact⟨_,_,_,rfl,.inr ⟨rfl,rfl⟩⟩
 |false=>exact⟨_,_,_,rfl,.inl ⟨rfl,rfl⟩⟩
theorem qlH (hφ:Cmp P φ le) {ys:List α}(h:Ck P n ys) {i j k s:Int}(i0:0≤i) (i1:i<(n:Int)) (j0:0≤j) (j1:j<(n:Int)) (k0:0≤k) (k1:k<(n:Int)):∃m s',qgV d N (ys,(i,(j,(k,(s,(φ,()))))))=some ((m,()),(ys,(s',())))∧(m=i∨m=j∨m=k):=by
 obtain⟨p1,q1,s1,e1,c1⟩:=qor d (N:=N) hφ h (s:=s) i0 i1 j0 j1;obtain⟨p2,q2,s2,e2,c2⟩:=qor d (N:=N) hφ h (i:=q1) (j:=k) (s:=s1) (by omega) (by omega) k0 k1;obtain⟨p3,q3,s3,e3,c3⟩:=qor d (N:=N) hφ h (i:=p1) (j:=p2) (s:=s2) (by omega) (by omega) (by omega) (by omega);simp only[qgV,qJ,e1,e2,e3,qg,qj,cond_true];exact⟨q3,s3,rfl,by omega⟩
theorem ql5 (hφ:Cmp P φ le) (hn:n≤1099511627776) {ys:List α}(h:Ck P n ys) {i s:Int}(i0:1≤i) (i1:i+1<(n:Int)):∃m s',qy d N (ys,(i,(s,(φ,()))))=some ((m,()),(ys,(s',())))∧i-1≤m∧m≤i+1:=by
 have e1:qR .i64 i 1=i-1:=qas (by omega) (by omega);have e2:qQ .i64 i 1=i+1:=qay (by omega) (by omega);obtain⟨m,s',e3,c⟩:=qlH d (N:=N) hφ h (i:=i-1) (j:=i) (k:=i+1) (s:=s) (by omega) (by omega) (by omega) (by omega) (by omega) (by omega);simp only[qy,e1,e2,e3,qg,qj,cond_true];exact⟨m,s',rfl,by omega,by omega⟩
theorem qsU (hφ:Cmp P φ le) (hn:n≤1099511627776) {ys:List α}(h:Ck P n ys) {a b:Int}(ha:0≤a) (hab:a+8≤b) (hb:b≤(n:Int)):∃m t,qfI d N (ys,(a,(b,(φ,()))))=some ((m,(t,())),(ys,()))∧a≤m∧m<b:=by
 have e1:qR .i64 b a=b-a:=qas (by omega) (by omega);have e2:qpI .i64 (b-a) 4=(b-a)/4:=by rw[qj3,Int.tdiv_eq_ediv_of_nonneg (by omega),qfe (by omega) (by omega)]
 have e3:qj4 .i64 ((b-a)/4) 1=(b-a)/4:=by rw[qer,qfe (by omega) (by omega)];omega
 have e4:qj4 .i64 ((b-a)/4) 2=(b-a)/4*2:=by rw[qer,qfe (by omega) (by omega)]
 have e5:qj4 .i64 ((b-a)/4) 3=(b-a)/4*3:=by rw[qer,qfe (by omega) (by omega)]
 have e6:qQ .i64 a ((b-a)/4)=a+(b-a)/4:=qay (by omega) (by omega);have e7:qQ .i64 a ((b-a)/4*2)=a+(b-a)/4*2:=qay (by omega) (by omega);have e8:qQ .i64 a ((b-a)/4*3)=a+(b-a)/4*3:=qay (by omega) (by omega);simp only[qfI,qJ,e1,e2,e3,e4,e5,e6,e7,e8,neT (show ¬(4:Int)=0 by omega),leT (show(8:Int)≤b-a by omega),cond_true];have fin:∀(m s:Int),a≤m→m<b→∃m' t,(bif eqI s 0 then some ((m,((1:Int),())),(ys,()))else(bif eqI s 12 then some ((m,((2:Int),())),(ys,()))else some ((m,((0:Int),())),(ys,()))))=some ((m',(t,())),(ys,()))∧a≤m'∧m'<b:=fun m s h1 h2=>by
  cases eqI s 0 with
  |true=>exact⟨_,_,rfl,h1,h2⟩
  |false=>
   cases eqI s 12 with
   |true=>exact⟨_,_,rfl,h1,h2⟩
   |false=>exact⟨_,_,rfl,h1,h2⟩
 generalize hq:(b-a)/4=q at *
 by_cases h50:50≤b-a
 ·obtain⟨m1,s1,f1,g1,g1'⟩:=ql5 d (N:=N) hφ hn h (i:=a+q) (s:=0) (by omega) (by omega);obtain⟨m2,s2,f2,g2,g2'⟩:=ql5 d (N:=N) hφ hn h (i:=a+q*2) (s:=s1) (by omega) (by omega);obtain⟨m3,s3,f3,g3,g3'⟩:=ql5 d (N:=N) hφ hn h (i:=a+q*3) (s:=s2) (by omega) (by omega);obtain⟨m4,s4,f4,g4⟩:=qlH d (N:=N) hφ h (i:=m1) (j:=m2) (k:=m3) (s:=s3) (by omega) (by omega) (by omega) (by omega) (by omega) (by omega);simp only[leT h50,cond_true,f1,f2,f3,f4,qg,qj,zak];exact fin m4 s4 (by omega) (by omega)
 ·obtain⟨m4,s4,f4,g4⟩:=qlH d (N:=N) hφ h (i:=a+q) (j:=a+q*2) (k:=a+q*3) (s:=0) (by omega) (by omega) (by omega) (by omega) (by omega) (by omega);simp only[leF h50,cond_true,cond_false,f4,qg,qj,zak];exact fin m4 s4 (by omega) (by omega)
def qrS (L:(Int×Unit)→Option ((Int×Unit)×Unit)):Prop:=∀k:Nat,k≤1099511627776→∃e:Nat,L ((k:Int),())=some (((e:Int),()),())∧e≤41∧(1≤k→2^e≤2*k)
theorem qvP {x m:Int}(h0:0≤m) (h1:m<18446744073709551616):0≤qvo .u64 x m∧qvo .u64 x m≤m:=by
 have hm:(BitVec.ofInt 64 m).toNat=m.toNat:=by rw[BitVec.toNat_ofInt,show((2^64:Nat):Int)=18446744073709551616 by decide,Int.emod_eq_of_lt h0 h1]
 have hle:(BitVec.ofInt 64 x&&& BitVec.ofInt 64 m).toNat≤m.toNat:=by rw[BitVec.toNat_and,hm];exact Nat.and_le_right
 rw[qom];show 0≤IntKind.wrap .u64 (((BitVec.ofInt 64 x&&& BitVec.ofInt 64 m).toNat:Nat):Int)∧IntKind.wrap .u64 (((BitVec.ofInt 64 x&&& BitVec.ofInt 64 m).toNat:Nat):Int)≤m;rw[qfQ (by omega) (by omega)];omega
theorem qs2 {L:(Int×Unit)→Option ((Int×Unit)×Unit)}(hL:qrS L) (hn:n≤1099511627776) (hN:n+10<N) {xs:List α}(h:Ck P n xs) {a b:Int}(ha:0≤a) (hab:a+8≤b) (hb:b≤(n:Int)):∃out,qgw d N L (xs,(a,(b,(φ,()))))=some ((),(out,()))∧Seg d n a b xs out:=by
 have e1:qR .i64 b a=b-a:=qas (by omega) (by omega);have e2:qpI .i64 (b-a) 4=(b-a)/4:=by rw[qj3,Int.tdiv_eq_ediv_of_nonneg (by omega),qfe (by omega) (by omega)]
 have e4:qj4 .i64 ((b-a)/4) 2=(b-a)/4*2:=by rw[qer,qfe (by omega) (by omega)]
 have e7:qQ .i64 a ((b-a)/4*2)=a+(b-a)/4*2:=qay (by omega) (by omega);have e8:qR .i64 (a+(b-a)/4*2) 1=a+(b-a)/4*2-1:=qas (by omega) (by omega);have e9:qQ .i64 (a+(b-a)/4*2) 1=a+(b-a)/4*2+1:=qay (by omega) (by omega);have eA:qbI .u64 (b-a)=b-a:=by rw[qfP,qfQ (by omega) (by omega)]
 obtain⟨e,l1,l2,l3⟩:=hL (b-a).toNat (by omega);have lk:((b-a).toNat:Int)=b-a:=by omega
 rw[lk]at l1;have l4:=l3 (by omega);have hpow:(1:Nat)≤2^e:=Nat.one_le_two_pow;have eB:qkK .u64 1 (e:Int)=((2^e:Nat):Int):=by
  rw[qoC];have hm:min (e:Int).toNat IntKind.u64.bits=e:=by
   show min (e:Int).toNat 64=e;omega
  rw[hm,Int.one_mul,show((2:Int)^e)=((2^e:Nat):Int) by rw[Int.natCast_pow];rfl,qfQ (by omega) (by omega)]
 have eC:qR .u64 ((2^e:Nat):Int) 1=((2^e:Nat):Int)-1:=by rw[qiq,qfQ (by omega) (by omega)]
 have hpw:qqF L (b-a,())=some ((((2^e:Nat):Int),()),()):=by
  simp only[qqF,eA,l1,qg,qj,leT (Int.natCast_nonneg e),zak,cond_true,eB]
 simp only[qgw,qJ,e1,e2,e4,e7,e8,e9,eA,neT (show ¬(4:Int)=0 by omega),leT (show(8:Int)≤b-a by omega),cond_true,hpw,qg,qj,eC];generalize hq:(b-a)/4=q at *
 generalize hpp:(2^e:Nat)=pw at *
 refine qat (S:=List α×(Int×(Int×Unit))) (fun p=>(a+q*2+2-p.2.2.1).toNat) (fun p=>Seg d n a b xs p.1∧a+q*2-1≤p.2.2.1) (fun r=>∃out,r=some ((),(out,()))∧Seg d n a b xs out) ?_ N _ ⟨.refl d _ _ xs,by simp only;omega⟩ (by simp only;omega);rintro ih ⟨ys,r,idx,⟨⟩⟩ ⟨hs,hi⟩ hih;simp only at hs hi hih⊢
 have hc:=hs.ck d h;by_cases hx:idx≤a+q*2+1
 ·have hnx:∃v,qoN (r,())=some ((v,()),(v,())):=by
   simp only[qoN,leT (show(0:Int)≤13 by omega),leT (show(0:Int)≤7 by omega),leT (show(0:Int)≤17 by omega),cond_true];exact⟨_,rfl⟩
  obtain⟨v,hv⟩:=hnx;obtain⟨b1,b2⟩:=qvP (x:=v) (m:=(pw:Int)-1) (by omega) (by omega);simp only[leT hx,cond_true,hv,qg,qj];generalize qvo .u64 v ((pw:Int)-1)=w at *
  have ew:qbI .i64 w=w:=qpL (by omega) (by omega);have es:qR .i64 w (b-a)=w-(b-a):=qas (by omega) (by omega);rw[ew,es];obtain⟨o,ho,o0,o1⟩:∃o,(bif leI (b-a) w then w-(b-a)else w)=o∧0≤o∧o<b-a:=by
   by_cases hw:b-a≤w
   ·exact⟨_,by rw[leT hw,cond_true],by omega,by omega⟩
   ·exact⟨_,by rw[leF hw,cond_false],by omega,by omega⟩
  have ea:qQ .i64 a o=a+o:=qay (by omega) (by omega);have ei:qQ .i64 idx 1=idx+1:=qay (by omega) (by omega);simp only[ho,ea,ei,qdo,hc.inB (i:=idx) (by omega) (by omega),hc.inB (i:=a+o) (by omega) (by omega),zak,cond_true];exact hih (swp d ys idx (a+o),(v,(idx+1,()))) ⟨hs.trans d (qdF d hc.len ha hb (by omega) (by omega) (by omega) (by omega)),by simp only;omega⟩ (by simp only;omega)
 ·simp only[leF hx,cond_false];exact⟨ys,rfl,hs⟩
def Pre (d:α) (le:α→α→Prop) (a b:Int) (xs:List α):Prop:=0<a→∀k,a≤k→k<b→le (qh xs (a-1) d) (qh xs k d)
theorem Seg.pre {a b:Int}{xs ys:List α}(h:Seg d n a b xs ys) (hb:b≤(n:Int)) (hp:Pre d le a b xs):Pre d le a b ys:=fun a0 k k1 k2=>by
 obtain⟨m,m1,m2,m3⟩:=h.inn k k1 k2;rw[h.out (a-1) (by omega) (by omega) (by omega),m3];exact hp a0 m m1 m2
theorem qiW (hφ:Cmp P φ le) {u v:α}(pu:P u) (pv:P v):∃c,φ (u,(v,()))=some (c,())∧((c<0)∧¬le v u∧le u v∨¬(c<0)∧le v u):=by
 obtain⟨c,a1,a2⟩:=hφ.ans u v pu pv;by_cases hc:c<0
 ·exact⟨c,a1,.inl ⟨hc,a2.1 hc,hφ.flip pu pv (a2.1 hc)⟩⟩
 ·exact⟨c,a1,.inr ⟨hc,Classical.byContradiction fun w=>hc (a2.2 w)⟩⟩
def shR {R:Type}(d:α) (N:Nat) (b:Int) (φ:(α×(α×Unit))→Option (Int×Unit)) (K:List α→Option R) (xs:List α) (j:Int):Option R:=
 qaf (S:=List α×(Int×Unit)) (R:=R) N (fun ih7=>(fun p8=>(bif (ltI p8.2.1 b)then(bif ((inB p8.2.1 (qs p8.1))&&((inB (qR .i64 p8.2.1 1) (qs p8.1))&&(qx (φ ((qh p8.1 p8.2.1 d),((qh p8.1 (qR .i64 p8.2.1 1) d),()))))))then(bif (!(ltI (qi (φ ((qh p8.1 p8.2.1 d),((qh p8.1 (qR .i64 p8.2.1 1) d),()))) (0,())).1 0))then K p8.1 else(bif ((inB (qR .i64 p8.2.1 1) (qs p8.1))&&((inB p8.2.1 (qs p8.1))&&((inB p8.2.1 (qs p8.1))&&(inB (qR .i64 p8.2.1 1) (qs (qbh p8.1 p8.2.1 (qh p8.1 (qR .i64 p8.2.1 1) d)))))))then(ih7 ((qbh (qbh p8.1 p8.2.1 (qh p8.1 (qR .i64 p8.2.1 1) d)) (qR .i64 p8.2.1 1) (qh p8.1 p8.2.1 d)),((qQ .i64 p8.2.1 1),())))else none))else none)else K p8.1))) (xs,(j,()))
def shL {R:Type}(d:α) (N:Nat) (φ:(α×(α×Unit))→Option (Int×Unit)) (K:List α→Option R) (xs:List α) (j:Int):Option R:=
 qaf (S:=List α×(Int×Unit)) (R:=R) N (fun ih5=>(fun p6=>(bif (leI 1 p6.2.1)then(bif ((inB p6.2.1 (qs p6.1))&&((inB (qR .i64 p6.2.1 1) (qs p6.1))&&(qx (φ ((qh p6.1 p6.2.1 d),((qh p6.1 (qR .i64 p6.2.1 1) d),()))))))then(bif (!(ltI (qi (φ ((qh p6.1 p6.2.1 d),((qh p6.1 (qR .i64 p6.2.1 1) d),()))) (0,())).1 0))then K p6.1 else(bif ((inB (qR .i64 p6.2.1 1) (qs p6.1))&&((inB p6.2.1 (qs p6.1))&&((inB p6.2.1 (qs p6.1))&&(inB (qR .i64 p6.2.1 1) (qs (qbh p6.1 p6.2.1 (qh p6.1 (qR .i64 p6.2.1 1) d)))))))then(ih5 ((qbh (qbh p6.1 p6.2.1 (qh p6.1 (qR .i64 p6.2.1 1) d)) (qR .i64 p6.2.1 1) (qh p6.1 p6.2.1 d)),((qR .i64 p6.2.1 1),())))else none))else none)else K p6.1))) (xs,(j,()))
def pinR {R:Type}(d:α) (N:Nat) (b:Int) (φ:(α×(α×Unit))→Option (Int×Unit)) (i:Int) (K:List α→Option R) (ys:List α):Option R:=
 bif leI 2 (qR .i64 b i)then shR d N b φ K ys (qQ .i64 i 1)else K ys
def pinT (d:α) (N:Nat) (a b i:Int) (φ:(α×(α×Unit))→Option (Int×Unit)) (K:List α→Option ((Bool×Unit)×(List α×Unit))) (ys:List α):Option ((Bool×Unit)×(List α×Unit)):=
 bif eqI i b then some ((true,()),(ys,()))else bif ltI (qR .i64 b a) 50 then some ((false,()),(ys,()))else
  bif ((inB (qR .i64 i 1) (qs ys))&&((inB i (qs ys))&&((inB i (qs ys))&&(inB (qR .i64 i 1) (qs (qbh ys i (qh ys (qR .i64 i 1) d)))))))then
   (bif leI 2 (qR .i64 i a)then shL d N φ (pinR d N b φ i K) (qbh (qbh ys i (qh ys (qR .i64 i 1) d)) (qR .i64 i 1) (qh ys i d)) (qR .i64 i 1)
    else pinR d N b φ i K (qbh (qbh ys i (qh ys (qR .i64 i 1) d)) (qR .i64 i 1) (qh ys i d)))else none
theorem qta (x:List α×(Int×(Int×(((α×(α×Unit))→(Option (Int×Unit)))×Unit)))):qcJ d N x=
  qW (qQ .i64 x.2.1 1) (fun y0=>qaf (S:=(List α×(Int×(Int×Unit)))) (R:=((Bool×Unit)×(List α×Unit))) N (fun ih1=>(fun p2=>(bif (ltI p2.2.2.1 5)then
   (qaf (S:=(List α×(Int×Unit))) (R:=((Bool×Unit)×(List α×Unit))) N (fun ih3=>(fun p4=>(bif (((!(ltI p4.2.1 x.2.2.1))||(inB p4.2.1 (qs p4.1)))&&(((!(ltI p4.2.1 x.2.2.1))||(inB (qR .i64 p4.2.1 1) (qs p4.1)))&&((!(ltI p4.2.1 x.2.2.1))||(qx (x.2.2.2.1 ((qh p4.1 p4.2.1 d),((qh p4.1 (qR .i64 p4.2.1 1) d),())))))))then
    (bif ((ltI p4.2.1 x.2.2.1)&&(!(ltI (qi (x.2.2.2.1 ((qh p4.1 p4.2.1 d),((qh p4.1 (qR .i64 p4.2.1 1) d),()))) (0,())).1 0)))then(ih3 (p4.1,((qQ .i64 p4.2.1 1),())))
     else pinT d N x.2.1 x.2.2.1 p4.2.1 x.2.2.2.1 (fun ys=>ih1 (ys,(p4.2.1,((qQ .i64 p2.2.2.1 1),())))) p4.1)else none))) (p2.1,(p2.2.1,())))else(some ((false,()),(p2.1,())))))) (x.1,(y0,(0,())))):=rfl
theorem shR_ok {R:Type}(hφ:Cmp P φ le) (hn:n≤1099511627776) (hN:n+1<N) {K:List α→Option R}(Q:Option R→Prop) {xs:List α}(h:Ck P n xs) {i b:Int}(i0:0≤i) (hb:b≤(n:Int)) (hK:∀ys,Seg d n i b xs ys→Q (K ys)):Q (shR d N b φ K xs (i+1)):=by
 refine qat (S:=List α×(Int×Unit)) (fun p=>(b-p.2.1).toNat) (fun p=>Seg d n i b xs p.1∧i+1≤p.2.1) Q ?_ N _ ⟨.refl d _ _ xs,by simp only;omega⟩ (by simp only;omega);rintro ih ⟨ys,j,⟨⟩⟩ ⟨hs,hj⟩ hih;simp only at hs hj hih⊢
 have hc:=hs.ck d h;by_cases q:j<b
 ·have e1:qR .i64 j 1=j-1:=qas (by omega) (by omega);have e2:qQ .i64 j 1=j+1:=qay (by omega) (by omega);obtain⟨c,a1,a2⟩:=qiW hφ (hc.get d (i:=j) (by omega) (by omega)) (hc.get d (i:=j-1) (by omega) (by omega));simp only[ltT q,cond_true,e1,e2,hc.inB (i:=j) (by omega) (by omega),hc.inB (i:=j-1) (by omega) (by omega),a1,qg,qj,zak,qdo];rcases a2 with⟨a3,-,-⟩|⟨a3,-⟩
  ·simp only[ltT a3,zaT,cond_false];exact hih (swp d ys j (j-1),(j+1,())) ⟨hs.trans d (qdF d hc.len i0 hb (by omega) (by omega) (by omega) (by omega)),by simp only;omega⟩ (by simp only;omega)
  ·simp only[ltF a3,zaY,cond_true];exact hK ys hs
 ·simp only[ltF q,cond_false];exact hK ys hs
theorem qwg {R:Type}(hφ:Cmp P φ le) (hn:n≤1099511627776) (hN:n+1<N) {K:List α→Option R}(Q:Option R→Prop) {xs:List α}(h:Ck P n xs) {i b:Int}(i0:0≤i) (ib:i<b) (hb:b≤(n:Int)) (hK:∀ys,Seg d n i b xs ys→Q (K ys)):Q (pinR d N b φ i K xs):=by
 have e1:qR .i64 b i=b-i:=qas (by omega) (by omega);have e2:qQ .i64 i 1=i+1:=qay (by omega) (by omega);simp only[pinR,e1,e2];by_cases q:2≤b-i
 ·rw[leT q,cond_true];exact shR_ok d hφ hn hN Q h i0 hb hK
 ·rw[leF q,cond_false];exact hK xs (.refl d _ _ xs)
theorem shL_ok {R:Type}(hφ:Cmp P φ le) (hn:n≤1099511627776) (hN:n+1<N) {K:List α→Option R}(Q:Option R→Prop) {xs:List α}(h:Ck P n xs) {a i b:Int}(a0:0≤a) (ia:a+2≤i) (ib:i<b) (hb:b≤(n:Int)) (hp:Pre d le a b xs) (hs0:Srt d le a (i-1) xs) (hK:∀ys,Seg d n a b xs ys→Srt d le a i ys→Q (K ys)):Q (shL d N φ K xs (i-1)):=by
 refine qat (S:=List α×(Int×Unit)) (fun p=>(p.2.1).toNat) (fun p=>Seg d n a b xs p.1∧a≤p.2.1∧p.2.1≤i-1∧∀x y,a≤x→x<y→y≤i-1→y≠p.2.1→le (qh p.1 x d) (qh p.1 y d)) Q ?_ N _ ⟨.refl d _ _ xs,by simp only;omega,by simp only;omega,fun x y h1 h2 h3 h4=>hs0 x y h1 (by omega) (by simp only at h4⊢;omega)⟩ (by simp only;omega);rintro ih ⟨zs,j,⟨⟩⟩ ⟨hz,hj1,hj2,hord⟩ hih;simp only at hz hj1 hj2 hord hih⊢
 have hzc:=hz.ck d h;have hpz:=hz.pre d hb hp;have fin:(a<j→le (qh zs (j-1) d) (qh zs j d))→Srt d le a i zs:=fun hle x y h1 h2 h3=>by
  by_cases hxy:x=y
  ·subst hxy;exact hφ.refl (hzc.get d (by omega) (by omega))
  by_cases hyj:y=j
  ·subst hyj;by_cases hx:x=y-1
   ·rw[hx];exact hle (by omega)
   ·exact hφ.trans _ _ _ (hzc.get d (by omega) (by omega)) (hzc.get d (i:=y-1) (by omega) (by omega)) (hzc.get d (by omega) (by omega)) (hord x (y-1) h1 (by omega) (by omega) (by omega)) (hle (by omega))
  ·exact hord x y h1 (by omega) (by omega) hyj
 by_cases hj0:1≤j
 ·have e1:qR .i64 j 1=j-1:=qas (by omega) (by omega);have pj:=hzc.get d (i:=j) (by omega) (by omega);have pk:=hzc.get d (i:=j-1) (by omega) (by omega);obtain⟨c,a1,a2⟩:=qiW hφ pj pk;simp only[leT hj0,cond_true,e1,hzc.inB (i:=j) (by omega) (by omega),hzc.inB (i:=j-1) (by omega) (by omega),a1,qg,qj,zak,qdo];rcases a2 with⟨a3,a4,hle⟩|⟨a3,a4⟩
  ·simp only[ltT a3,zaT,cond_false];have hja:a<j:=by
    by_cases w:a<j
    ·exact w
    ·have:j=a:=by omega
     subst this;exact absurd (hpz (by omega) j (by omega) (by omega)) a4
   have g:=qex d hzc.len (i:=j) (j:=j-1) (by omega) (by omega) (by omega) (by omega);refine hih (swp d zs j (j-1),(j-1,())) ⟨hz.trans d (qdF d hzc.len a0 hb (by omega) (by omega) (by omega) (by omega)),by simp only;omega,by simp only;omega,fun x y h1 h2 h3 h4=>?_⟩ (by simp only;omega);simp only at h4⊢
   rw[g x (by omega),g y (by omega)];rw[if_neg h4];by_cases hy:y=j
   ·rw[if_pos hy];by_cases hx:x=j-1
    ·rw[if_pos hx];exact hle
    ·rw[if_neg hx,if_neg (by omega)];exact hord x (j-1) h1 (by omega) (by omega) (by omega)
   ·rw[if_neg hy];by_cases hx:x=j-1
    ·rw[if_pos hx];exact hord j y (by omega) (by omega) h3 hy
    ·rw[if_neg hx];by_cases hx2:x=j
     ·rw[if_pos hx2];exact hord (j-1) y (by omega) (by omega) h3 hy
     ·rw[if_neg hx2];exact hord x y h1 h2 h3 hy
  ·simp only[ltF a3,zaY,cond_true];exact hK zs hz (fin fun _=>a4)
 ·simp only[leF hj0,cond_false];exact hK zs hz (fin fun w=>by omega)
def qkC (d:α) (n:Nat) (le:α→α→Prop) (a b:Int) (xs:List α) (r:Option ((Bool×Unit)×(List α×Unit))):Prop:=∃fl out,r=some ((fl,()),(out,()))∧Seg d n a b xs out∧(fl=true→Srt d le a b out)
theorem qsn (hφ:Cmp P φ le) (hn:n≤1099511627776) (hN:n+10<N) {xs:List α}(h:Ck P n xs) {a b:Int}(ha:0≤a) (hab:a<b) (hb:b≤(n:Int)) (hp:Pre d le a b xs):qkC d n le a b xs (qcJ d N (xs,(a,(b,(φ,()))))):=by
 have e1:qQ .i64 a 1=a+1:=qay (by omega) (by omega);rw[qta];simp only[qJ,e1];refine qat (S:=List α×(Int×(Int×Unit))) (fun p=>(5-p.2.2.1).toNat) (fun p=>Seg d n a b xs p.1∧a+1≤p.2.1∧p.2.1≤b∧0≤p.2.2.1∧Srt d le a p.2.1 p.1) (qkC d n le a b xs) ?_ N _ ⟨.refl d _ _ xs,by simp only;omega,by simp only;omega,by simp only;omega,fun i j h1 h2 h3=>by
  simp only at h3;have:i=j:=by omega
  subst this;exact hφ.refl (h.get d (by omega) (by omega))⟩ (by simp only;omega)
 rintro ih ⟨ys,i,c,⟨⟩⟩ ⟨hs,hi,hib,hc0,hsrt⟩ hih;simp only at hs hi hib hc0 hsrt hih⊢
 by_cases hc5:c<5
 ·have ec:qQ .i64 c 1=c+1:=qay (by omega) (by omega);simp only[ltT hc5,cond_true,ec];have hcy:=hs.ck d h;refine qat (S:=List α×(Int×Unit)) (fun p=>(b-p.2.1).toNat) (fun p=>p.1=ys∧i≤p.2.1∧p.2.1≤b∧Srt d le a p.2.1 ys) (qkC d n le a b xs) ?_ N _ ⟨rfl,by simp only;omega,by simp only;omega,hsrt⟩ (by simp only;omega);rintro jh ⟨ys',j,⟨⟩⟩ ⟨hy,hj1,hj2,hso⟩ hjh;simp only at hy hj1 hj2 hso hjh⊢
  subst hy;have s1:qR .i64 j 1=j-1:=qas (by omega) (by omega);by_cases hjb:j<b
  ·have pj:=hcy.get d (i:=j) (by omega) (by omega);have pk:=hcy.get d (i:=j-1) (by omega) (by omega);obtain⟨v,a1,a2⟩:=qiW hφ pj pk;simp only[ltT hjb,s1,hcy.inB (i:=j) (by omega) (by omega),hcy.inB (i:=j-1) (by omega) (by omega),a1,qg,qj,zaT,Bool.false_or,zbd,zak,cond_true];rcases a2 with⟨a3,a4,hle⟩|⟨a3,a4⟩
   ·simp only[ltT a3,zaT,cond_false];have e5:qR .i64 b a=b-a:=qas (by omega) (by omega);have e6:qR .i64 j a=j-a:=qas (by omega) (by omega);simp only[pinT,s1,e5,e6,eqF (show ¬j=b by omega),cond_false,hcy.inB (i:=j) (by omega) (by omega),hcy.inB (i:=j-1) (by omega) (by omega),qdo,zak,cond_true];by_cases h50:b-a<50
    ·rw[ltT h50,cond_true];exact⟨false,ys',rfl,hs,fun w=>by cases w⟩
    rw[ltF h50,cond_false];have hsw:Seg d n a b ys' (swp d ys' j (j-1)):=qdF d hcy.len ha hb (by omega) (by omega) (by omega) (by omega);have hcs:=hsw.ck d hcy;have g:=qex d hcy.len (i:=j) (j:=j-1) (by omega) (by omega) (by omega) (by omega);have post:∀zs,Seg d n a b xs zs→Srt d le a j zs→qkC d n le a b xs (pinR d N b φ j (fun ys=>ih (ys,(j,(c+1,())))) zs):=fun zs z1 z2=>by
     refine qwg d hφ hn (by omega) (qkC d n le a b xs) (z1.ck d h) (by omega) hjb hb fun ws w1=>?_;refine hih (ws,(j,(c+1,()))) ⟨z1.trans d (w1.mono d ha hb (by omega) (by omega)),by simp only;omega,by simp only;omega,by simp only;omega,fun x y h1 h2 h3=>?_⟩ (by simp only;omega);simp only at h3⊢
     rw[w1.out x (by omega) (by omega) (by omega),w1.out y (by omega) (by omega) (by omega)];exact z2 x y h1 h2 h3
    by_cases hj2a:2≤j-a
    ·rw[leT hj2a,cond_true];refine shL_ok d hφ hn (by omega) (qkC d n le a b xs) (a:=a) (i:=j) (b:=b) hcs ha (by omega) hjb hb (hsw.pre d hb (hs.pre d hb hp)) (fun x y h1 h2 h3=>?_) fun zs z1 z2=>post zs ((hs.trans d hsw).trans d z1) z2;have e1:qh (swp d ys' j (j-1)) x d=qh ys' x d:=by rw[g x (by omega),if_neg (by omega),if_neg (by omega)]
     have e2:qh (swp d ys' j (j-1)) y d=qh ys' y d:=by rw[g y (by omega),if_neg (by omega),if_neg (by omega)]
     show le (qh (swp d ys' j (j-1)) x d) (qh (swp d ys' j (j-1)) y d);rw[e1,e2];exact hso x y h1 h2 (by omega)
    ·rw[leF hj2a,cond_false];refine post (swp d ys' j (j-1)) (hs.trans d hsw) fun x y h1 h2 h3=>?_;have:x=y:=by omega
     subst this;exact hφ.refl (hcs.get d (by omega) (by omega))
   ·have e2:qQ .i64 j 1=j+1:=qay (by omega) (by omega);simp only[ltF a3,zaY,cond_true,e2];refine hjh _ ⟨rfl,by simp only;omega,by simp only;omega,fun x y h1 h2 h3=>?_⟩ (by simp only;omega);simp only at h3;by_cases hy:y=j
    ·subst hy;by_cases hx:x=y
     ·subst hx;exact hφ.refl pj
     ·exact hφ.trans _ _ _ (hcy.get d (i:=x) (by omega) (by omega)) pk pj (hso x (y-1) h1 (by omega) (by omega)) a4
    ·exact hso x y h1 h2 (by omega)
  ·have:j=b:=by omega
   simp only[ltF hjb,zaY,Bool.true_or,zak,cond_true,za7,cond_false,pinT,eqT this];subst this;exact⟨true,ys',rfl,hs,fun _=>hso⟩
 ·simp only[ltF hc5,cond_false];exact⟨false,ys,rfl,hs,fun w=>by cases w⟩
def pdqT (d:α) (N:Nat) (Fs:((List α)×(Int×(Int×(Int×(((α×(α×Unit))→(Option (Int×Unit)))×Unit)))))→(Option (Unit×((List α)×Unit)))) (φ:(α×(α×Unit))→Option (Int×Unit))
  (y2 y3 y5 y6 y9:Int) (bal par:Bool) (ih0:(List α×(Int×(Int×(Int×(Bool×(Bool×Unit))))))→Option (Unit×(List α×Unit))) (zs:List α):Option (Unit×(List α×Unit)):=
 (bif (((!(ltI 0 y5))||(inB (qR .i64 y5 1) (qs zs)))&&(((!(ltI 0 y5))||(inB y9 (qs zs)))&&((!(ltI 0 y5))||(qx (φ ((qh zs (qR .i64 y5 1) d),((qh zs y9 d),())))))))then(qW ((ltI 0 y5)&&(!(ltI (qi (φ ((qh zs (qR .i64 y5 1) d),((qh zs y9 d),()))) (0,())).1 0))) (fun y12=>(bif y12 then(bif (qx (qhr d N (zs,(y5,(y6,(y9,(φ,())))))))then(qW (qi (qhr d N (zs,(y5,(y6,(y9,(φ,())))))) ((0,()),(([]:List α),()))).2.1 (fun ys13=>(qW y6 (fun y14=>(qW (qi (qhr d N (zs,(y5,(y6,(y9,(φ,())))))) ((0,()),(([]:List α),()))).1.1 (fun y15=>(ih0 (ys13,(y15,(y14,(y3,(bal,(par,())))))))))))))else none)else(bif (qx (qfx d N (zs,(y5,(y6,(y9,(φ,())))))))then(qW (qi (qfx d N (zs,(y5,(y6,(y9,(φ,())))))) ((0,(false,())),(([]:List α),()))).2.1 (fun ys13=>(qW y5 (fun y14=>(qW y6 (fun y15=>(qW (qi (qfx d N (zs,(y5,(y6,(y9,(φ,())))))) ((0,(false,())),(([]:List α),()))).1.1 (fun y16=>(qW (qi (qfx d N (zs,(y5,(y6,(y9,(φ,())))))) ((0,(false,())),(([]:List α),()))).1.2.1 (fun y17=>(qW (qR .i64 y16 y14) (fun y18=>(qW (qR .i64 y15 y16) (fun y19=>(bif (neI 8 0)then(qW (qpI .i64 y2 8) (fun y20=>(bif (bif (ltI y18 y19)then(qx (Fs (ys13,(y14,(y16,(y3,(φ,())))))))else(qx (Fs (ys13,((qQ .i64 y16 1),(y15,(y3,(φ,()))))))))then(ih0 ((bif (ltI y18 y19)then(qi (Fs (ys13,(y14,(y16,(y3,(φ,())))))) ((),(([]:List α),()))).2.1 else(qi (Fs (ys13,((qQ .i64 y16 1),(y15,(y3,(φ,())))))) ((),(([]:List α),()))).2.1),((bif (ltI y18 y19)then(qQ .i64 y16 1)else y14),((bif (ltI y18 y19)then y15 else y16),(y3,((bif (ltI y18 y19)then(leI y20 y18)else(leI y20 y19)),(y17,())))))))else none)))else none)))))))))))))))else none))))else none)
def pdqU (d:α) (N:Nat) (Fs:((List α)×(Int×(Int×(Int×(((α×(α×Unit))→(Option (Int×Unit)))×Unit)))))→(Option (Unit×((List α)×Unit)))) (φ:(α×(α×Unit))→Option (Int×Unit))
  (y2 y3 y5 y6 y7 y8:Int) (bal par:Bool) (ih0:(List α×(Int×(Int×(Int×(Bool×(Bool×Unit))))))→Option (Unit×(List α×Unit))) (ys4:List α):Option (Unit×(List α×Unit)):=
 (bif (bif (eqI y8 2)then(qx (qbJ d N (ys4,(y5,(y6,(φ,()))))))else true)then(qW (bif (eqI y8 2)then(qR .i64 (qR .i64 y6 1) (qR .i64 y7 y5))else y7) (fun y9=>(qW (bif (eqI y8 2)then 1 else y8) (fun y10=>(qW ((bal&&par)&&(eqI y10 1)) (fun y11=>(bif y11 then(bif (qx (qcJ d N ((bif (eqI y8 2)then(qi (qbJ d N (ys4,(y5,(y6,(φ,()))))) ((),(([]:List α),()))).2.1 else ys4),(y5,(y6,(φ,()))))))then(bif (qi (qcJ d N ((bif (eqI y8 2)then(qi (qbJ d N (ys4,(y5,(y6,(φ,()))))) ((),(([]:List α),()))).2.1 else ys4),(y5,(y6,(φ,()))))) ((false,()),(([]:List α),()))).1.1 then(some ((),((qi (qcJ d N ((bif (eqI y8 2)then(qi (qbJ d N (ys4,(y5,(y6,(φ,()))))) ((),(([]:List α),()))).2.1 else ys4),(y5,(y6,(φ,()))))) ((false,()),(([]:List α),()))).2.1,())))
  else pdqT d N Fs φ y2 y3 y5 y6 y9 bal par ih0 (qi (qcJ d N ((bif (eqI y8 2)then(qi (qbJ d N (ys4,(y5,(y6,(φ,()))))) ((),(([]:List α),()))).2.1 else ys4),(y5,(y6,(φ,()))))) ((false,()),(([]:List α),()))).2.1)else none)
  else pdqT d N Fs φ y2 y3 y5 y6 y9 bal par ih0 (bif (eqI y8 2)then(qi (qbJ d N (ys4,(y5,(y6,(φ,()))))) ((),(([]:List α),()))).2.1 else ys4))))))))else none)
theorem qvz (L:(Int×Unit)→Option ((Int×Unit)×Unit)) (Fs:((List α)×(Int×(Int×(Int×(((α×(α×Unit))→(Option (Int×Unit)))×Unit)))))→(Option (Unit×((List α)×Unit)))) (x:((List α)×(Int×(Int×(Int×(((α×(α×Unit))→(Option (Int×Unit)))×Unit)))))):pdqS d N L Fs x=
 (qaf (S:=((List α)×(Int×(Int×(Int×(Bool×(Bool×Unit))))))) (R:=(Unit×((List α)×Unit))) N (fun ih0=>(fun p1=>(qW (qR .i64 p1.2.2.1 p1.2.1) (fun y2=>(bif (leI y2 12)then(bif (qx (qgx d N (p1.1,(p1.2.1,(p1.2.2.1,(x.2.2.2.2.1,()))))))then(some ((),((qi (qgx d N (p1.1,(p1.2.1,(p1.2.2.1,(x.2.2.2.2.1,()))))) ((),(([]:List α),()))).2.1,())))else none)else(bif (eqI p1.2.2.2.1 0)then(bif (qx (qp6 d N (p1.1,(p1.2.1,(p1.2.2.1,(x.2.2.2.2.1,()))))))then(some ((),((qi (qp6 d N (p1.1,(p1.2.1,(p1.2.2.1,(x.2.2.2.2.1,()))))) ((),(([]:List α),()))).2.1,())))else none)else(bif (bif (!p1.2.2.2.2.1)then(qx (qgw d N L (p1.1,(p1.2.1,(p1.2.2.1,(x.2.2.2.2.1,()))))))else true)then(qW (bif (!p1.2.2.2.2.1)then(qR .i64 p1.2.2.2.1 1)else p1.2.2.2.1) (fun y3=>(bif (qx (qfI d N ((bif (!p1.2.2.2.2.1)then(qi (qgw d N L (p1.1,(p1.2.1,(p1.2.2.1,(x.2.2.2.2.1,()))))) ((),(([]:List α),()))).2.1 else p1.1),(p1.2.1,(p1.2.2.1,(x.2.2.2.2.1,()))))))then(qW (qi (qfI d N ((bif (!p1.2.2.2.2.1)then(qi (qgw d N L (p1.1,(p1.2.1,(p1.2.2.1,(x.2.2.2.2.1,()))))) ((),(([]:List α),()))).2.1 else p1.1),(p1.2.1,(p1.2.2.1,(x.2.2.2.2.1,()))))) ((0,(0,())),(([]:List α),()))).2.1 (fun ys4=>(qW p1.2.1 (fun y5=>(qW p1.2.2.1 (fun y6=>(qW (qi (qfI d N ((bif (!p1.2.2.2.2.1)then(qi (qgw d N L (p1.1,(p1.2.1,(p1.2.2.1,(x.2.2.2.2.1,()))))) ((),(([]:List α),()))).2.1 else p1.1),(p1.2.1,(p1.2.2.1,(x.2.2.2.2.1,()))))) ((0,(0,())),(([]:List α),()))).1.1 (fun y7=>(qW (qi (qfI d N ((bif (!p1.2.2.2.2.1)then(qi (qgw d N L (p1.1,(p1.2.1,(p1.2.2.1,(x.2.2.2.2.1,()))))) ((),(([]:List α),()))).2.1 else p1.1),(p1.2.1,(p1.2.2.1,(x.2.2.2.2.1,()))))) ((0,(0,())),(([]:List α),()))).1.2.1 (fun y8=>pdqU d N Fs x.2.2.2.2.1 y2 y3 y5 y6 y7 y8 p1.2.2.2.2.1 p1.2.2.2.2.2.1 ih0 ys4))))))))))
  else none)))else none))))))) (x.1,(x.2.1,(x.2.2.1,(x.2.2.2.1,(true,(true,()))))))):=rfl
structure qsg (d:α) (n:Nat) (le:α→α→Prop) (a0 b0:Int) (xs ys:List α) (a b:Int):Prop where
 seg:Seg d n a0 b0 xs ys
 la:a0≤a
 ab:a≤b
 rb:b≤b0
 pre:Pre d le a b ys
 lo:∀i j,a0≤i→i<a→i≤j→j<b0→le (qh ys i d) (qh ys j d)
 hi:∀i j,a0≤i→i≤j→b≤j→j<b0→le (qh ys i d) (qh ys j d)
theorem qsg.move {a0 b0 a b:Int}{xs ys zs:List α}(h:qsg d n le a0 b0 xs ys a b) (h0:0≤a0) (hn:b0≤(n:Int)) (hs:Seg d n a b ys zs):qsg d n le a0 b0 xs zs a b:=by
 have h1:=h.la;have h2:=h.rb;have h3:=h.ab;refine⟨h.seg.trans d (hs.mono d h0 hn h1 h2),h1,h3,h2,hs.pre d (by omega) h.pre,fun i j q1 q2 q3 q4=>?_,fun i j q1 q2 q3 q4=>?_⟩
 ·rw[hs.out i (by omega) (by omega) (by omega)];by_cases w:a≤j∧j<b
  ·obtain⟨m,m1,m2,m3⟩:=hs.inn j w.1 w.2;rw[m3];exact h.lo i m q1 q2 (by omega) (by omega)
  ·rw[hs.out j (by omega) (by omega) (by omega)];exact h.lo i j q1 q2 q3 q4
 ·rw[hs.out j (by omega) (by omega) (by omega)];by_cases w:a≤i∧i<b
  ·obtain⟨m,m1,m2,m3⟩:=hs.inn i w.1 w.2;rw[m3];exact h.hi m j (by omega) (by omega) q3 q4
  ·rw[hs.out i (by omega) (by omega) (by omega)];exact h.hi i j q1 q2 q3 q4
theorem qsg.fin {a0 b0 a b:Int}{xs ys:List α}(h:qsg d n le a0 b0 xs ys a b) (hs:Srt d le a b ys):Srt d le a0 b0 ys:=fun i j q1 q2 q3=>by
 by_cases w1:i<a
 ·exact h.lo i j q1 w1 q2 q3
 ·by_cases w2:b≤j
  ·exact h.hi i j q1 q2 w2 q3
  ·exact hs i j (by omega) q2 (by omega)
theorem qsg.ends {a0 b0 a b:Int}{xs ys zs:List α}(h:qsg d n le a0 b0 xs ys a b) (h0:0≤a0) (hn:b0≤(n:Int)) (hs:Seg d n a b ys zs) (hz:Srt d le a b zs):qjq P d n le a0 b0 xs (some ((),(zs,()))):=
 ⟨zs,rfl,(h.move d h0 hn hs).seg,(h.move d h0 hn hs).fin d hz⟩
def FsOk (P:α→Prop) (d:α) (n:Nat) (le:α→α→Prop) (φ:(α×(α×Unit))→Option (Int×Unit)) (M:Int) (Fs:((List α)×(Int×(Int×(Int×(((α×(α×Unit))→(Option (Int×Unit)))×Unit)))))→(Option (Unit×((List α)×Unit)))):Prop:=
 ∀(xs:List α) (a b l:Int),Ck P n xs→0≤a→a≤b→b≤(n:Int)→b-a<M→Pre d le a b xs→qjq P d n le a b xs (Fs (xs,(a,(b,(l,(φ,()))))))
theorem qtC (hφ:Cmp P φ le) (hn:n≤1099511627776) (hN:n+10<N) {M:Int}{Fs} (hF:FsOk P d n le φ M Fs) {xs:List α}(h:Ck P n xs) {a0 b0:Int}(h0:0≤a0) (hb0:b0≤(n:Int)) {a b l l2 pv:Int}{bal par:Bool}{ih0:(List α×(Int×(Int×(Int×(Bool×(Bool×Unit))))))→Option (Unit×(List α×Unit))}{zs:List α}
  (hz:qsg d n le a0 b0 xs zs a b) (hM:b-a≤M) (hpa:a≤pv) (hpb:pv<b)
  (hih:∀ys a' b' l' bal' par',qsg d n le a0 b0 xs ys a' b'→b'-a'<b-a→qjq P d n le a0 b0 xs (ih0 (ys,(a',(b',(l',(bal',(par',()))))))) ):
  qjq P d n le a0 b0 xs (pdqT d N Fs φ l2 l a b pv bal par ih0 zs):=by
 have h1:=hz.la;have h2:=hz.rb;have h3:=hz.ab;have hzc:=hz.seg.ck d h;have pp:=hzc.get d (i:=pv) (by omega) (by omega);obtain⟨t,w1,w2,w3⟩:∃t,((!ltI 0 a||inB (qR .i64 a 1) (qs zs))&&((!ltI 0 a||inB pv (qs zs))&&(!ltI 0 a||qx (φ (qh zs (qR .i64 a 1) d,(qh zs pv d,()))))))=true∧(ltI 0 a&& !ltI (qi (φ (qh zs (qR .i64 a 1) d,(qh zs pv d,()))) (0,())).1 0)=t∧(t=true→0<a∧le (qh zs pv d) (qh zs (a-1) d)):=by
  by_cases q:0<a
  ·have e1:qR .i64 a 1=a-1:=qas (by omega) (by omega);obtain⟨c,a1,a2⟩:=qiW hφ (hzc.get d (i:=a-1) (by omega) (by omega)) pp;rw[e1,a1,hzc.inB (i:=a-1) (by omega) (by omega),hzc.inB (i:=pv) (by omega) (by omega),ltT q,qg,qj];rcases a2 with⟨a3,a4,-⟩|⟨a3,a4⟩
   ·rw[ltT a3];exact⟨false,rfl,rfl,fun w=>by cases w⟩
   ·rw[ltF a3];exact⟨true,rfl,rfl,fun _=>⟨q,a4⟩⟩
  ·rw[ltF q];exact⟨false,by simp only[zaY,Bool.true_or,zak],by simp only[za7],fun w=>by cases w⟩
 simp only[pdqT,qJ,w1,w2,cond_true];cases t with
 |true=>
  obtain⟨q,hle⟩:=w3 rfl;obtain⟨out,mid,o1,o2,o3,o4,o5⟩:=qs8 d (N:=N) hφ hn (by omega) hzc (a:=a) (b:=b) (pv:=pv) (by omega) hpa hpb (by omega);simp only[cond_true,o1,qg,qj];have hm:=hz.move d h0 hb0 o2;have hoc:=hm.seg.ck d h;have eo:qh out (a-1) d=qh zs (a-1) d:=o2.out (a-1) (by omega) (by omega) (by omega);have pa:=hzc.get d (i:=a-1) (by omega) (by omega);have low:∀i j,a≤i→i<mid→i≤j→j<b0→le (qh out i d) (qh out j d):=fun i j q1 q2 q3 q4=>by
   by_cases w:b≤j
   ·exact hm.hi i j (by omega) q3 w q4
   ·have pi:=hoc.get d (i:=i) (by omega) (by omega);have pj:=hoc.get d (i:=j) (by omega) (by omega);refine hφ.trans _ _ _ pi pp pj (o5 i q1 q2) (hφ.trans _ _ _ pp pa pj hle ?_);rw[←eo];exact hm.pre q j (by omega) (by omega)
  refine hih out mid b l bal par ⟨hm.seg,by omega,o4,h2,fun _ k k1 k2=>low (mid-1) k (by omega) (by omega) (by omega) (by omega),fun i j q1 q2 q3 q4=>?_,hm.hi⟩ (by omega);by_cases w:i<a
  ·exact hm.lo i j q1 w q3 q4
  ·exact low i j (by omega) q2 q3 q4
 |false=>
  have e8:neI 8 0=true:=neT (by omega);obtain⟨out,mid,fl,o1,o2,o3,o4,o5,o6⟩:=qt2 d (N:=N) hφ hn (by omega) hzc (a:=a) (b:=b) (pv:=pv) (by omega) hpa hpb (by omega);have s1:qR .i64 mid a=mid-a:=qas (by omega) (by omega);have s2:qR .i64 b mid=b-mid:=qas (by omega) (by omega);have s3:qQ .i64 mid 1=mid+1:=qay (by omega) (by omega);simp only[cond_false,cond_true,o1,qg,qj,s1,s2,s3,e8];have hm:=hz.move d h0 hb0 o2;have hoc:=hm.seg.ck d h;have pm:=hoc.get d (i:=mid) (by omega) (by omega);by_cases q:mid-a<b-mid
  ·obtain⟨r,r1,r2,r3⟩:=hF out a mid l hoc (by omega) o3 (by omega) (by omega) (fun w k k1 k2=>hm.pre w k k1 (by omega));simp only[ltT q,cond_true,r1,qg,qj];have hm2:=hm.move d h0 hb0 (r2.mono d (by omega) (by omega) (za9 a) (show mid≤b by omega));have hrc:=hm2.seg.ck d h;have rm:∀k,mid≤k→k<(n:Int)→qh r k d=qh out k d:=fun k k1 k2=>r2.out k (by omega) k2 (by omega);have gm:∀k,mid≤k→k<b→le (qh out mid d) (qh r k d):=fun k k1 k2=>by
    rw[rm k k1 (by omega)];by_cases w:k=mid
    ·rw[w];exact hφ.refl pm
    ·exact o6 k (by omega) k2
   have low:∀i j,a≤i→i≤mid→i≤j→j<b0→le (qh r i d) (qh r j d):=fun i j q1 q2 q3 q4=>by
    have pi:=hrc.get d (i:=i) (by omega) (by omega);have pj:=hrc.get d (i:=j) (by omega) (by omega);by_cases w:b≤j
    ·exact hm2.hi i j (by omega) q3 w q4
    ·by_cases wi:i=mid
     ·have:=gm j (by omega) (by omega);rw[wi,rm mid (by omega) (by omega)];exact this
     ·by_cases wj:j<mid
      ·exact r3 i j q1 q3 wj
      ·obtain⟨m,m1,m2,m3⟩:=r2.inn i q1 (by omega);rw[m3]at pi⊢
       exact hφ.trans _ _ _ pi pm pj (o5 m m1 m2) (gm j (by omega) (by omega))
   refine hih r (mid+1) b l _ _ ⟨hm2.seg,by omega,by omega,h2,fun _ k k1 k2=>by rw[show mid+1-1=mid by omega];exact low mid k (by omega) (by omega) (by omega) (by omega),fun i j q1 q2 q3 q4=>?_,hm2.hi⟩ (by omega);by_cases w:i<a
   ·exact hm2.lo i j q1 w q3 q4
   ·exact low i j (by omega) (by omega) q3 q4
  ·obtain⟨r,r1,r2,r3⟩:=hF out (mid+1) b l hoc (by omega) (by omega) (by omega) (by omega) (fun w k k1 k2=>by rw[show mid+1-1=mid by omega];exact o6 k (by omega) k2);simp only[ltF q,cond_false,r1,qg,qj,cond_true];have hm2:=hm.move d h0 hb0 (r2.mono d (by omega) (by omega) (show a≤mid+1 by omega) (za9 b));have hrc:=hm2.seg.ck d h;have rm:∀k,0≤k→k≤mid→qh r k d=qh out k d:=fun k k1 k2=>r2.out k (by omega) (by omega) (by omega);have gm:∀k,a≤k→k≤mid→le (qh r k d) (qh out mid d):=fun k k1 k2=>by
    rw[rm k (by omega) (by omega)];by_cases w:k=mid
    ·rw[w];exact hφ.refl pm
    ·exact o5 k (by omega) (by omega)
   have high:∀i j,a≤i→i≤j→mid≤j→j<b→le (qh r i d) (qh r j d):=fun i j q1 q2 q3 q4=>by
    have pi:=hrc.get d (i:=i) (by omega) (by omega);have pj:=hrc.get d (i:=j) (by omega) (by omega);by_cases wj:j=mid
    ·have:=gm i q1 (by omega);rw[wj,rm mid (by omega) (by omega)];exact this
    ·by_cases wi:mid<i
     ·exact r3 i j (by omega) q2 q4
     ·obtain⟨m,m1,m2,m3⟩:=r2.inn j (by omega) q4;rw[m3]at pj⊢
      exact hφ.trans _ _ _ pi pm pj (gm i q1 (by omega)) (o6 m (by omega) m2)
   refine hih r a mid l _ _ ⟨hm2.seg,h1,o3,by omega,fun w k k1 k2=>hm2.pre w k k1 (by omega),hm2.lo,fun i j q1 q2 q3 q4=>?_⟩ (by omega);by_cases w:b≤j
   ·exact hm2.hi i j q1 q2 w q4
   ·by_cases wi:i<a
    ·exact hm2.lo i j q1 wi q2 q4
    ·exact high i j (by omega) q2 q3 (by omega)
theorem qwo (hφ:Cmp P φ le) (hn:n≤1099511627776) (hN:n+10<N) {M:Int}{Fs} (hF:FsOk P d n le φ M Fs) {xs:List α}(h:Ck P n xs) {a0 b0:Int}(h0:0≤a0) (hb0:b0≤(n:Int)) {a b l l2 pv ht:Int}{bal par:Bool}{ih0:(List α×(Int×(Int×(Int×(Bool×(Bool×Unit))))))→Option (Unit×(List α×Unit))}{zs:List α}
  (hz:qsg d n le a0 b0 xs zs a b) (hM:b-a≤M) (hpa:a≤pv) (hpb:pv<b)
  (hih:∀ys a' b' l' bal' par',qsg d n le a0 b0 xs ys a' b'→b'-a'<b-a→qjq P d n le a0 b0 xs (ih0 (ys,(a',(b',(l',(bal',(par',()))))))) ):
  qjq P d n le a0 b0 xs (pdqU d N Fs φ l2 l a b pv ht bal par ih0 zs):=by
 have h1:=hz.la;have h2:=hz.rb;have h3:=hz.ab;have hzc:=hz.seg.ck d h;have e1:qR .i64 b 1=b-1:=qas (by omega) (by omega);have e2:qR .i64 pv a=pv-a:=qas (by omega) (by omega);have e3:qR .i64 (b-1) (pv-a)=b-1-(pv-a):=qas (by omega) (by omega);have key:∀(ws:List α) (p:Int) (t:Bool),Seg d n a b zs ws→a≤p→p<b→qjq P d n le a0 b0 xs
   (bif t then(bif (qx (qcJ d N (ws,(a,(b,(φ,()))))))then(bif (qi (qcJ d N (ws,(a,(b,(φ,()))))) ((false,()),(([]:List α),()))).1.1 then(some ((),((qi (qcJ d N (ws,(a,(b,(φ,()))))) ((false,()),(([]:List α),()))).2.1,())))
    else pdqT d N Fs φ l2 l a b p bal par ih0 (qi (qcJ d N (ws,(a,(b,(φ,()))))) ((false,()),(([]:List α),()))).2.1)else none)
   else pdqT d N Fs φ l2 l a b p bal par ih0 ws):=fun ws p t hs p1 p2=>by
  have hm:=hz.move d h0 hb0 hs;have hwc:=hm.seg.ck d h;cases t with
  |false=>exact qtC d hφ hn hN hF h h0 hb0 hm hM p1 p2 hih
  |true=>
   obtain⟨fl,out,o1,o2,o3⟩:=qsn d (N:=N) hφ hn hN hwc (a:=a) (b:=b) (by omega) (by omega) (by omega) hm.pre;simp only[cond_true,o1,qg,qj];cases fl with
   |true=>exact hm.ends d h0 hb0 o2 (o3 rfl)
   |false=>exact qtC d hφ hn hN hF h h0 hb0 (hm.move d h0 hb0 o2) hM p1 p2 hih
 simp only[pdqU,qJ,e1,e2,e3];by_cases q:ht=2
 ·obtain⟨out,o1,o2⟩:=qts d (N:=N) (φ:=φ) hn (by omega) hzc (a:=a) (b:=b) (by omega) (by omega) (by omega);simp only[eqT q,cond_true,o1,qg,qj];exact key out (b-1-(pv-a)) _ o2 (by omega) (by omega)
 ·simp only[eqF q,cond_true,cond_false];exact key zs pv _ (.refl d _ _ zs) hpa hpb
theorem qvF (hφ:Cmp P φ le) {L:(Int×Unit)→Option ((Int×Unit)×Unit)}(hL:qrS L) (hn:n≤1099511627776) (hN:n+10<N) {M:Int}{Fs} (hF:FsOk P d n le φ M Fs):FsOk P d n le φ (M+1) (pdqS d N L Fs):=by
 intro xs a0 b0 l0 h h0 hab hb0 hM hp;rw[qvz];refine qat (S:=List α×(Int×(Int×(Int×(Bool×(Bool×Unit)))))) (fun p=>(p.2.2.1-p.2.1).toNat) (fun p=>qsg d n le a0 b0 xs p.1 p.2.1 p.2.2.1) (qjq P d n le a0 b0 xs) ?_ N _ ⟨.refl d _ _ xs,za9 _,hab,za9 _,hp,fun i j q1 q2 q3 q4=>by simp only at q2;omega,fun i j q1 q2 q3 q4=>by simp only at q3;omega⟩ (by simp only;omega);rintro ih ⟨ys,a,b,l,bal,par,⟨⟩⟩ hz hih;simp only at hz hih⊢
 have h1:=hz.la;have h2:=hz.rb;have h3:=hz.ab;have hc:=hz.seg.ck d h;have e1:qR .i64 b a=b-a:=qas (by omega) (by omega);simp only[qJ,e1];by_cases q12:b-a≤12
 ·obtain⟨out,o1,o2,o3⟩:=qkc d (N:=N) hφ hn (by omega) hc (a:=a) (b:=b) (by omega) (by omega) (by omega);simp only[leT q12,cond_true,o1,qg,qj];exact hz.ends d h0 hb0 o2 o3
 simp only[leF q12,cond_false];by_cases ql:l=0
 ·obtain⟨out,o1,o2,o3⟩:=qup d (N:=N) hφ hn (by omega) hc (a:=a) (b:=b) (by omega) (by omega) (by omega);simp only[eqT ql,cond_true,o1,qg,qj];exact hz.ends d h0 hb0 o2 o3
 simp only[eqF ql,cond_false];have key:∀(ws:List α) (l1:Int),Seg d n a b ys ws→qjq P d n le a0 b0 xs (bif (qx (qfI d N (ws,(a,(b,(φ,()))))))then pdqU d N Fs φ (b-a) l1 a b (qi (qfI d N (ws,(a,(b,(φ,()))))) ((0,(0,())),(([]:List α),()))).1.1 (qi (qfI d N (ws,(a,(b,(φ,()))))) ((0,(0,())),(([]:List α),()))).1.2.1 bal par ih (qi (qfI d N (ws,(a,(b,(φ,()))))) ((0,(0,())),(([]:List α),()))).2.1 else none):=fun ws l1 hs=>by
  have hm:=hz.move d h0 hb0 hs;obtain⟨m,t,o1,o2,o3⟩:=qsU d (N:=N) hφ hn (hm.seg.ck d h) (a:=a) (b:=b) (by omega) (by omega) (by omega);simp only[o1,qg,qj,cond_true];exact qwo d hφ hn hN hF h h0 hb0 hm (by omega) o2 o3 fun zs a' b' l' bal' par' k1 k2=>hih (zs,(a',(b',(l',(bal',(par',())))))) k1 (by have:=k1.ab;simp only;omega)
 cases bal with
 |true=>
  simp only[zaT,cond_false,cond_true];exact key ys l (.refl d _ _ ys)
 |false=>
  obtain⟨out,o1,o2⟩:=qs2 d (N:=N) (φ:=φ) hL hn hN hc (a:=a) (b:=b) (by omega) (by omega) (by omega);simp only[zaY,cond_true,o1,qg,qj];exact key out _ o2
theorem qs6 (hφ:Cmp P φ le) {L:(Int×Unit)→Option ((Int×Unit)×Unit)}(hL:qrS L) (hn:n≤1099511627776) (hN:n+10<N):∀M:Nat,FsOk P d n le φ (M:Int) (pdqG d N L M)
 |0=>fun xs a b l h h0 hab hb hM hp=>by omega
 |M+1=>by
  have:=qvF d hφ hL hn hN (qs6 hφ hL hn hN M);exact this
theorem qtl (hφ:Cmp P φ le) {L:(Int×Unit)→Option ((Int×Unit)×Unit)}(hL:qrS L) (hn:n≤1099511627776) (hN:n+10<N) {xs:List α}(h:Ck P n xs):qjq P d n le 0 (n:Int) xs (qtp d N L (xs,(φ,()))):=by
 have el:qs xs=(n:Int):=by rw[qp,h.len]
 have eA:qbI .u64 (n:Int)=(n:Int):=by rw[qfP,qfQ (by omega) (by omega)]
 obtain⟨e,l1,-,-⟩:=hL n hn;obtain⟨out,o1,o2,o3⟩:=qs6 d hφ hL hn hN N xs 0 (n:Int) (e:Int) h (za9 0) (by omega) (za9 _) (by omega) (fun w=>by omega);simp only[qtp,qJ,el,eA,l1,o1,qg,qj,zak,cond_true];exact⟨out,rfl,o2,o3⟩
end
end
end Go.Vi
set_option linter.unusedSimpArgs false
set_option maxRecDepth 100000
namespace Go.Vi
noncomputable section
def qeY:List UInt8:=[0,1,2,2,3,3,3,3,4,4,4,4,4,4,4,4,5,5,5,5,5,5,5,5,5,5,5,5,5,5,5,5,6,6,6,6,6,6,6,6,6,6,6,6,6,6,6,6,6,6,6,6,6,6,6,6,6,6,6,6,6,6,6,6,7,7,7,7,7,7,7,7,7,7,7,7,7,7,7,7,7,7,7,7,7,7,7,7,7,7,7,7,7,7,7,7,7,7,7,7,7,7,7,7,7,7,7,7,7,7,7,7,7,7,7,7,7,7,7,7,7,7,7,7,7,7,7,7,8,8,8,8,8,8,8,8,8,8,8,8,8,8,8,8,8,8,8,8,8,8,8,8,8,8,8,8,8,8,8,8,8,8,8,8,8,8,8,8,8,8,8,8,8,8,8,8,8,8,8,8,8,8,8,8,8,8,8,8,8,8,8,8,8,8,8,8,8,8,8,8,8,8,8,8,8,8,8,8,8,8,8,8,8,8,8,8,8,8,8,8,8,8,8,8,8,8,8,8,8,8,8,8,8,8,8,8,8,8,8,8,8,8,8,8,8,8,8,8,8,8,8,8,8,8,8,8]
def qsv (x:(Int×Unit)):Option ((Int×Unit)×Unit):=
 (bif (bif (leI 4294967296 x.1)then(leI 0 32)else true)then(qW (bif (leI 4294967296 x.1)then(qgY .u64 x.1 32)else x.1) (fun y0=>(qW (bif (leI 4294967296 x.1)then 32 else 0) (fun y1=>(bif (bif (leI 65536 y0)then(leI 0 16)else true)then(qW (bif (leI 65536 y0)then(qgY .u64 y0 16)else y0) (fun y2=>(qW (bif (leI 65536 y0)then(qQ .i64 y1 16)else y1) (fun y3=>(bif (bif (leI 256 y2)then(leI 0 8)else true)then(qW (bif (leI 256 y2)then(qgY .u64 y2 8)else y2) (fun y4=>(qW (bif (leI 256 y2)then(qQ .i64 y3 8)else y3) (fun y5=>(bif (inB (qbI .u8 y4) (qs qeY))then(some (((qQ .i64 y5 (qbI .i64 (qm7 (qh qeY (qbI .u8 y4) 0)))),()),()))else none)))))else none)))))else none)))))else none)
theorem qo9:∀m:Fin 256,qeY[m.val]? =some (qeY.getD m.val 0)∧(qeY.getD m.val 0).toNat≤8∧(1≤m.val→2^ (qeY.getD m.val 0).toNat≤2*m.val)∧(m.val=0→(qeY.getD m.val 0).toNat=0):=by decide+kernel
theorem shr_n (x:Int) (n:Nat) (hn:n≤64) (h0:0≤x):qgY .u64 x (n:Int)=x/(2:Int)^n:=by
 rw[qlw];have e:min ((n:Int)).toNat IntKind.u64.bits=n:=by simp[IntKind.bits];omega
 rw[e,Int.fdiv_eq_ediv_of_nonneg _ (by exact Int.le_of_lt (Int.pow_pos (by omega)))]
theorem qqH {y0 s0 k c:Nat}{n:Nat}(hn:n≤64) (hc:c=2^n) (h:y0*2^s0≤k) (hp:1≤k→1≤y0) (hs:s0≤56) (hns:n≤32):∃y1 s1:Nat,(bif (leI (c:Int) (y0:Int))then(qgY .u64 (y0:Int) (n:Int))else(y0:Int))=(y1:Int)∧(bif (leI (c:Int) (y0:Int))then(qQ .i64 (s0:Int) (n:Int))else(s0:Int))=(s1:Int)∧y1*2^s1≤k∧(1≤k→1≤y1)∧s1≤s0+n∧(y1=y0/c∧c≤y0∨y1=y0∧y0<c):=by
 by_cases q:c≤y0
 ·have e1:leI (c:Int) (y0:Int)=true:=leT (by omega);rw[e1,cond_true,cond_true,shr_n _ n hn (by omega),qay (by omega) (by omega)];refine⟨y0/c,s0+n,?_,by omega,?_,fun _=>?_,zay _,.inl ⟨rfl,q⟩⟩
  ·rw[hc];norm_cast
  ·rw[Nat.pow_add,Nat.mul_comm (2^s0),←Nat.mul_assoc,←hc];exact Nat.le_trans (zaq _ (Nat.div_mul_le_self _ _)) h
  ·have:0<c:=by rw[hc];exact Nat.pow_pos (by omega)
   exact Nat.div_pos q this
 ·have e1:leI (c:Int) (y0:Int)=false:=leF (by omega);rw[e1,cond_false,cond_false];exact⟨y0,s0,rfl,rfl,h,hp,by omega,.inr ⟨rfl,by omega⟩⟩
theorem qrw:qs qeY=256:=by rw[qp];decide+kernel
theorem qrZ {m:Nat}(h:m<256):qh qeY (m:Int) 0=qeY.getD m 0:=by
 have:=(qo9 ⟨m,h⟩).1;have hl:m<qeY.length:=(zao.1 this).1;rw[qY _ hl];rw[zaa hl]at this;injection this
theorem qtT:qrS qsv:=fun k hk=>by
 have l0:∀n:Nat,leI 0 (n:Int)=true:=fun n=>leT (by omega);have l32:leI 0 32=true:=leT (by omega);have l16:leI 0 16=true:=leT (by omega);have l8:leI 0 8=true:=leT (by omega);have bt:∀b:Bool,(bif b then true else true)=true:=fun b=>by cases b<;>rfl
 obtain⟨y1,s1,a1,a2,a3,a4,a5,a6⟩:∃y1 s1:Nat,(bif (leI 4294967296 (k:Int))then(qgY .u64 (k:Int) 32)else(k:Int))=(y1:Int)∧(bif (leI 4294967296 (k:Int))then 32 else 0)=(s1:Int)∧y1*2^s1≤k∧(1≤k→1≤y1)∧s1≤32∧y1<4294967296:=by
  by_cases q:4294967296≤k
  ·have e1:leI 4294967296 (k:Int)=true:=leT (by omega);have e2:=shr_n (k:Int) 32 (by omega) (by omega);have e3:qgY .u64 (k:Int) 32=(k:Int)/(2:Int)^32:=e2;rw[e1,cond_true,cond_true,e3];exact⟨k/4294967296,32,by omega,rfl,by omega,by omega,zay _,by omega⟩
  ·have e1:leI 4294967296 (k:Int)=false:=leF (by omega);rw[e1,cond_false,cond_false];exact⟨k,0,rfl,rfl,by omega,id,by omega,by omega⟩
 obtain⟨y2,s2,b1,b2,b3,b4,b5,b6⟩:=qqH (n:=16) (c:=65536) (by omega) (by decide) a3 a4 (by omega) (by omega);obtain⟨y3,s3,c1,c2,c3,c4,c5,c6⟩:=qqH (n:=8) (c:=256) (by omega) (by decide) b3 b4 (by omega) (by omega);have h3:y3<256:=by omega
 have b1':(bif (leI 65536 (y1:Int))then(qgY .u64 (y1:Int) 16)else(y1:Int))=(y2:Int):=b1;have b2':(bif (leI 65536 (y1:Int))then(qQ .i64 (s1:Int) 16)else(s1:Int))=(s2:Int):=b2;have c1':(bif (leI 256 (y2:Int))then(qgY .u64 (y2:Int) 8)else(y2:Int))=(y3:Int):=c1;have c2':(bif (leI 256 (y2:Int))then(qQ .i64 (s2:Int) 8)else(s2:Int))=(s3:Int):=c2;have w8:qbI .u8 (y3:Int)=(y3:Int):=by rw[qfP,qv8];omega
 obtain⟨_,t1,t2,t3⟩:=qo9 ⟨y3,h3⟩;simp only at t1 t2 t3;have ib:inB (y3:Int) 256=true:=by rw[qfH];simp;omega
 have e5:qQ .i64 (s3:Int) (qbI .i64 (qm7 (qh qeY (y3:Int) 0)))=((s3+(qeY.getD y3 0).toNat:Nat):Int):=by
  rw[qrZ h3,qgP,qpL (by omega) (by omega),qay (by omega) (by omega)];omega
 refine⟨s3+(qeY.getD y3 0).toNat,?_,?_⟩
 ·simp only[qsv,qJ,l32,l16,l8,bt,cond_true,a1,a2,b1',b2',c1',c2',w8,qrw,ib,e5]
 ·have hp:1≤k→2^ (s3+(qeY.getD y3 0).toNat)≤2*k:=fun hk1=>by
   have h4:=t2 (c4 hk1);rw[Nat.pow_add];calc 2^s3*2^ (qeY.getD y3 0).toNat≤2^s3*(2*y3):=Nat.mul_le_mul_left _ h4
    _=2*(y3*2^s3):=by rw[Nat.mul_left_comm,Nat.mul_comm (2^s3)]
    _≤2*k:=Nat.mul_le_mul_left _ c3
  refine⟨?_,hp⟩;by_cases hk1:1≤k
  ·have h5:=hp hk1;have h6:2^ (s3+(qeY.getD y3 0).toNat)≤2^41:=by
    have:(2:Nat)^41=2199023255552:=by decide
    omega
   exact(Nat.pow_le_pow_iff_right (by omega)).1 h6
  ·have hk0:k=0:=by omega
   subst hk0;have z1:leI 4294967296 (((0:Nat)):Int)=false:=leF (by omega);rw[z1]at a1 a2;simp only[cond_false]at a1 a2;have y10:y1=0:=by omega
   have s10:s1=0:=by omega
   have y20:y2=0:=by omega
   have z2:leI 65536 (y1:Int)=false:=leF (by omega);have z3:leI 256 (y2:Int)=false:=leF (by omega);rw[z2]at b2';rw[z3]at c2';simp only[cond_false]at b2' c2';have y30:y3=0:=by omega
   have:=t3 y30;omega
end
end Go.Vi
namespace Go.Vi
def dig (b:UInt8):Prop:=b=45∨(48≤b.toNat∧b.toNat≤57)
instance (b:UInt8):Decidable (dig b):=by unfold dig;infer_instance
def stops (P:UInt8→Prop) (r:List UInt8):Prop:=∀b t,r=b::t→¬P b
theorem part {P:UInt8→Prop}:(a b:List UInt8)→{r s:List UInt8}→(∀x∈a,P x)→(∀x∈b,P x)→stops P r→stops P s→a++r=b++s→a=b∧r=s
 |[],[],_,_,_,_,_,_,h=>⟨rfl,h⟩
 |[],y::b,r,s,_,hb,hr,_,h=>absurd (hb y zai) (hr y (b++s) h)
 |x::a,[],r,s,ha,_,_,hs,h=>absurd (ha x zai) (hs x (a++r) h.symm)
 |x::a,y::b,r,s,ha,hb,hr,hs,h=>by
  injection h with h1 h2;obtain⟨h3,h4⟩:=part a b (fun z hz=>ha z (zae _ hz)) (fun z hz=>hb z (zae _ hz)) hr hs h2;exact⟨by rw[h1,h3],h4⟩
abbrev qun:Type:=Int×(Int×(List UInt8×Unit))
theorem qtF {α:Type} [DecidableEq α] {ne:α→α→Bool}(hne:∀a b,ne a b= !decide (a=b)) (xs ys:List α) (d:α) (hl:xs.length=ys.length) (hb:xs.length≤1099511627776) {N:Nat}(hN:xs.length<N):
  qaf (S:=Int×Unit) (R:=(Bool×Unit)×Unit) N (fun ih0=>fun p1=>(bif (ltI p1.1 (qs xs))then(bif ((inB p1.1 (qs xs))&&(inB p1.1 (qs ys)))then(bif (ne (qh xs p1.1 d) (qh ys p1.1 d))then(some ((false,()),()))else(ih0 ((qQ .i64 p1.1 1),())))else none)else(some ((true,()),())))) (0,())=some ((decide (xs=ys),()),()):=by
 refine qfs (S:=Int×Unit) (R:=(Bool×Unit)×Unit) (fun p=>xs.length-p.1.toNat) (fun p=>∃i:Nat,p.1=(i:Int)∧i≤xs.length∧xs.take i=ys.take i) (fun _=>((decide (xs=ys),()),())) ?_ N _ ⟨0,rfl,za6 _,by simp⟩ (by simp;omega);rintro ih ⟨_,_⟩ ⟨i,rfl,h2,h3⟩ hih;simp only[zaJ]at hih⊢
 by_cases hi:i<xs.length
 ·have hj:i<ys.length:=by omega
  rw[qV (qbK hi),qai hi,qai hj,qY d hi,qY d hj,hne];simp only[zak,cond_true];by_cases e:xs[i]=ys[i]
  ·rw[qE (by simp[e]),qan (by omega),hih _ ⟨i+1,rfl,by omega,by rw[qb2 hi,qb2 hj,h3,e]⟩ (by simp only[zaJ];omega)]
  ·rw[qV (by simp[e])];have:xs≠ys:=fun h=>e (by subst h;rfl);simp[this]
 ·rw[qE (qbs hi)];have e1:i=xs.length:=by omega
  subst e1;have:xs=ys:=by
   have:=h3;rwa [za5,hl,za5]at this
  simp[this]
theorem quF (a b:List UInt8):Lib.compareBytes a b= -1∨Lib.compareBytes a b=0∨Lib.compareBytes a b=1:=by
 induction a generalizing b with
 |nil=>cases b<;>simp[Lib.compareBytes]
 |cons x a ih=>cases b with
  |nil=>simp[Lib.compareBytes]
  |cons y b=>
   simp only[Lib.compareBytes];split
   ·simp
   ·split
    ·simp
    ·exact ih b
theorem qvY (a b:List UInt8):Lib.compareBytes b a= - Lib.compareBytes a b:=by
 induction a generalizing b with
 |nil=>cases b<;>simp[Lib.compareBytes]
 |cons x a ih=>cases b with
  |nil=>simp[Lib.compareBytes]
  |cons y b=>
   simp only[Lib.compareBytes];by_cases h1:x<y
   ·have h2:¬y<x:=fun h=>by have:=UInt8.lt_iff_toNat_lt.1 h;have:=UInt8.lt_iff_toNat_lt.1 h1;omega
    simp[h1,h2]
   ·by_cases h2:y<x
    ·simp[h1,h2]
    ·simp[h1,h2,ih b]
theorem qvC (a b:List UInt8):Lib.compareBytes a b=0↔a=b:=by
 induction a generalizing b with
 |nil=>cases b<;>simp[Lib.compareBytes]
 |cons x a ih=>cases b with
  |nil=>simp[Lib.compareBytes]
  |cons y b=>
   simp only[Lib.compareBytes];by_cases h1:x<y
   ·have:x≠y:=fun e=>by subst e;have:=UInt8.lt_iff_toNat_lt.1 h1;omega
    simp[h1,this]
   ·by_cases h2:y<x
    ·have:x≠y:=fun e=>by subst e;have:=UInt8.lt_iff_toNat_lt.1 h2;omega
     simp[h1,h2,this]
    ·have:x=y:=UInt8.toNat_inj.1 (by
      have h1:¬x.toNat<y.toNat:=fun h=>h1 (UInt8.lt_iff_toNat_lt.2 h);have h2:¬y.toNat<x.toNat:=fun h=>h2 (UInt8.lt_iff_toNat_lt.2 h);omega)
     simp[h1,h2,ih b,this]
theorem qus (a b:List UInt8):qpj a b=decide (Lib.compareBytes a b<0):=by
 rw[qpi];induction a generalizing b with
 |nil=>cases b<;>simp[Lib.compareBytes,Op.bytesLess]
 |cons x a ih=>cases b with
  |nil=>simp[Lib.compareBytes,Op.bytesLess]
  |cons y b=>
   simp only[Lib.compareBytes,Op.bytesLess];by_cases h1:x<y
   ·simp[h1]
   ·by_cases h2:y<x
    ·have:x≠y:=fun e=>by subst e;have:=UInt8.lt_iff_toNat_lt.1 h2;omega
     simp[h1,h2,this]
    ·have:x=y:=UInt8.toNat_inj.1 (by
      have h1:¬x.toNat<y.toNat:=fun h=>h1 (UInt8.lt_iff_toNat_lt.2 h);have h2:¬y.toNat<x.toNat:=fun h=>h2 (UInt8.lt_iff_toNat_lt.2 h);omega)
     simp[h1,h2,ih b,this]
end Go.Vi
namespace Go.Vi
noncomputable section
def ic (x y:Int):Int:=if x<y then -1 else if y<x then 1 else 0
def vc (a b:qun):Int:=if ic a.1 b.1≠0 then ic a.1 b.1 else if ic a.2.1 b.2.1≠0 then ic a.2.1 b.2.1 else Lib.compareBytes a.2.2.1 b.2.2.1
theorem qbE (x y:Int):(x<y∧ic x y= -1)∨(x=y∧ic x y=0)∨(y<x∧ic x y=1):=by
 unfold ic;split
 ·simp[*]
 ·split
  ·simp[*]
  ·have:x=y:=by omega
   simp[this]
theorem qu6 (a b:qun):vc a b= -1∨vc a b=0∨vc a b=1:=by
 unfold vc;have h1:=qbE a.1 b.1;have h2:=qbE a.2.1 b.2.1;have h3:=quF a.2.2.1 b.2.2.1;split
 ·omega
 ·split
  ·omega
  ·exact h3
theorem qtr (a b:qun):vc b a= - vc a b:=by
 have s:∀x y,ic y x= - ic x y:=fun x y=>by
  have h1:=qbE x y;have h2:=qbE y x;omega
 unfold vc;rw[s a.1 b.1,s a.2.1 b.2.1,qvY];split<;>split<;>first|omega|(split<;>split<;>omega)
theorem qqk (a b:qun):vc a b=0↔a=b:=by
 obtain⟨k,n,s,_⟩:=a;obtain⟨k',n',s',_⟩:=b;have h1:=qbE k k';have h2:=qbE n n';have h3:=qvC s s';simp only[vc,zbh.injEq,and_true];split
 ·rename_i h;constructor
  ·intro h0;exact absurd h0 h
  ·rintro⟨rfl,_⟩;omega
 ·split
  ·rename_i h;constructor
   ·intro h0;exact absurd h0 h
   ·rintro⟨_,rfl,_⟩;omega
  ·rw[h3];constructor
   ·intro h;exact⟨by omega,by omega,h⟩
   ·exact fun h=>h.2.2
abbrev qba:Type:=List qun
def qaa:qba→qba→Int
 |[],ys=>ic 0 (ys.length:Int)
 |_::xs,[]=>ic ((xs.length:Int)+1) 0
 |x::xs,y::ys=>if vc x y≠0 then vc x y else qaa xs ys
theorem qvv (a b k:Int):ic (a+k) (b+k)=ic a b:=by
 unfold ic;by_cases h1:a<b
 ·rw[if_pos h1,if_pos (by omega)]
 ·rw[if_neg h1,if_neg (by omega)];by_cases h2:b<a
  ·rw[if_pos h2,if_pos (by omega)]
  ·rw[if_neg h2,if_neg (by omega)]
theorem qnB (xs ys:qba) (i:Nat) (h:¬(i<xs.length∧i<ys.length)) (hx:i≤xs.length) (hy:i≤ys.length):qaa (xs.drop i) (ys.drop i)=ic (xs.length:Int) (ys.length:Int):=by
 by_cases h1:i<xs.length
 ·have h2:¬i<ys.length:=fun h2=>h ⟨h1,h2⟩;rw[zaO h1,za1 (l:=ys) (by omega),qaa];have e1:((xs.drop (i+1)).length:Int)+1=(xs.length:Int)+(-(i:Int)):=by rw[zap];omega
  have e2:(0:Int)=(ys.length:Int)+(-(i:Int)):=by omega
  rw[e1,show ic ((xs.length:Int)+ -(i:Int)) 0=ic ((xs.length:Int)+ -(i:Int)) ((ys.length:Int)+ -(i:Int)) by rw[←e2],qvv]
 ·rw[za1 (l:=xs) (by omega)];rw[qaa.eq_def];simp only;have e1:((ys.drop i).length:Int)=(ys.length:Int)+(-(i:Int)):=by rw[zap];omega
  have e2:(0:Int)=(xs.length:Int)+(-(i:Int)):=by omega
  rw[e1,show ic 0 ((ys.length:Int)+ -(i:Int))=ic ((xs.length:Int)+ -(i:Int)) ((ys.length:Int)+ -(i:Int)) by rw[←e2],qvv]
abbrev zV:qun:=(0,(0,(([]:List UInt8),())))
def qsI (row:qba) (i:Int):qun:=if h:0≤i∧i<(row.length:Int)then row[i.toNat]'(by omega)else zV
def qgv (pk:List Int) (row:qba):qba:=pk.map (qsI row)
theorem qqP (pk:List Int) (row:qba):(qgv pk row).length=pk.length:=by simp[qgv]
theorem qqS:(a b c:List UInt8)→Lib.compareBytes a b<0→Lib.compareBytes b c<0→Lib.compareBytes a c<0
 |[],[],_,h,_=>by simp[Lib.compareBytes]at h
 |[],_::_,[],_,h=>by simp[Lib.compareBytes]at h
 |[],_::_,_::_,_,_=>by simp[Lib.compareBytes]
 |_::_,[],_,h,_=>by simp[Lib.compareBytes]at h
 |_::_,_::_,[],_,h=>by simp[Lib.compareBytes]at h
 |x::a,y::b,z::c,h1,h2=>by
  simp only[Lib.compareBytes,UInt8.lt_iff_toNat_lt]at h1 h2⊢
  have ih:=qqS a b c;by_cases e1:x.toNat<y.toNat
  ·by_cases e2:y.toNat<z.toNat
   ·rw[if_pos (by omega)];omega
   ·by_cases e3:z.toNat<y.toNat
    ·rw[if_neg e2,if_pos e3]at h2;omega
    ·rw[if_pos (by omega)];omega
  ·by_cases e4:y.toNat<x.toNat
   ·rw[if_neg e1,if_pos e4]at h1;omega
   ·rw[if_neg e1,if_neg e4]at h1;by_cases e2:y.toNat<z.toNat
    ·rw[if_pos (by omega)];omega
    ·by_cases e3:z.toNat<y.toNat
     ·rw[if_neg e2,if_pos e3]at h2;omega
     ·rw[if_neg e2,if_neg e3]at h2;rw[if_neg (by omega),if_neg (by omega)];exact ih h1 h2
theorem qu2 {a b c:qun}(h1:vc a b<0) (h2:vc b c<0):vc a c<0:=by
 unfold vc at *
 have a1:=qbE a.1 b.1;have a2:=qbE b.1 c.1;have a3:=qbE a.1 c.1;have b1:=qbE a.2.1 b.2.1;have b2:=qbE b.2.1 c.2.1;have b3:=qbE a.2.1 c.2.1;have tr:=qqS a.2.2.1 b.2.2.1 c.2.2.1;generalize Lib.compareBytes a.2.2.1 b.2.2.1=s1 at *
 generalize Lib.compareBytes b.2.2.1 c.2.2.1=s2 at *
 generalize Lib.compareBytes a.2.2.1 c.2.2.1=s3 at *
 generalize ic a.1 b.1=i1 at *
 generalize ic b.1 c.1=i2 at *
 generalize ic a.1 c.1=i3 at *
 generalize ic a.2.1 b.2.1=j1 at *
 generalize ic b.2.1 c.2.1=j2 at *
 generalize ic a.2.1 c.2.1=j3 at *
 have k1:i1= -1∨(i1=0∧(j1= -1∨(j1=0∧s1<0))):=by
  split at h1
  ·omega
  ·split at h1<;>omega
 have k2:i2= -1∨(i2=0∧(j2= -1∨(j2=0∧s2<0))):=by
  split at h2
  ·omega
  ·split at h2<;>omega
 have k3:i3= -1∨(i3=0∧(j3= -1∨(j3=0∧s3<0))):=by
  rcases k1 with k1|⟨k1,k1'|⟨k1',k1''⟩⟩<;>rcases k2 with k2|⟨k2,k2'|⟨k2',k2''⟩⟩<;>first|omega|exact .inr ⟨by omega,.inr ⟨by omega,tr k1'' k2''⟩⟩
 split
 ·omega
 ·split<;>omega
theorem qtj (x y:Int):ic y x= - ic x y:=by
 have h1:=qbE x y;have h2:=qbE y x;omega
theorem qfk:(a b:qba)→qaa b a= - qaa a b
 |[],[]=>by simp[qaa,ic]
 |[],y::ys=>by simp only[qaa,zba];rw[qtj];simp
 |x::xs,[]=>by simp only[qaa,zba];rw[qtj];simp
 |x::xs,y::ys=>by
  simp only[qaa,qtr x y,qfk xs ys];by_cases h:vc x y=0
  ·simp[h]
  ·have:¬(-vc x y=0):=by omega
   simp[h,this]
theorem qb6:(a b:qba)→(qaa a b=0↔a=b)
 |[],[]=>by simp[qaa,ic]
 |[],y::ys=>by
  have:=qbE 0 (((y::ys).length:Nat):Int);simp only[qaa,zba]at this⊢
  constructor
  ·intro h;omega
  ·intro h;cases h
 |x::xs,[]=>by
  have:=qbE ((xs.length:Int)+1) 0;simp only[qaa];constructor
  ·intro h;omega
  ·intro h;cases h
 |x::xs,y::ys=>by
  simp only[qaa,List.cons.injEq,←qqk x y,←qb6 xs ys];by_cases h:vc x y=0
  ·simp[h]
  ·simp[h]
theorem qew:(a b c:qba)→qaa a b<0→qaa b c<0→qaa a c<0
 |[],[],_,h,_=>by simp[qaa,ic]at h
 |[],y::ys,[],_,h=>by
  have:=qbE ((ys.length:Int)+1) 0;simp only[qaa]at h;omega
 |[],_::_,z::zs,_,_=>by
  have:=qbE 0 (((z::zs).length:Nat):Int);simp only[qaa,zba]at this⊢
  omega
 |x::xs,[],_,h,_=>by
  have:=qbE ((xs.length:Int)+1) 0;simp only[qaa]at h;omega
 |_::_,y::ys,[],_,h=>by
  have:=qbE ((ys.length:Int)+1) 0;simp only[qaa]at h;omega
 |x::xs,y::ys,z::zs,h1,h2=>by
  simp only[qaa]at h1 h2⊢
  have ih:=qew xs ys zs;by_cases e1:vc x y=0
  ·have e1':=(qqk x y).1 e1;subst e1';simp only[e1,ne_eq,not_true_eq_false,if_false]at h1;by_cases e2:vc x z=0
   ·simp only[e2,ne_eq,not_true_eq_false,if_false]at h2⊢
    exact ih h1 h2
   ·simp only[e2,ne_eq,not_false_eq_true,if_true]at h2⊢
    exact h2
  ·simp only[e1,ne_eq,not_false_eq_true,if_true]at h1;by_cases e2:vc y z=0
   ·have e2':=(qqk y z).1 e2;subst e2';simp only[e1,ne_eq,not_false_eq_true,if_true];exact h1
   ·simp only[e2,ne_eq,not_false_eq_true,if_true]at h2;have:=qu2 h1 h2;have e3:¬vc x z=0:=by omega
    simp only[e3,ne_eq,not_false_eq_true,if_true];exact this
theorem qs3 {α:Type}(R:α→α→Prop) (tr:∀a b c,R a b→R b c→R a c) (l:List α) (h:∀i (hi:i+1<l.length),R (l[i]'(by omega)) l[i+1]):∀(k i:Nat) (hk:i+1+k<l.length),R (l[i]'(by omega)) (l[i+1+k]'hk)
 |0,i,hk=>h i hk
 |k+1,i,hk=>tr _ _ _ (qs3 R tr l h k i (by omega)) (h (i+1+k) (by omega))
theorem qhb {α:Type}(R:α→α→Prop) (tr:∀a b c,R a b→R b c→R a c) (l:List α) (h:∀i (hi:i+1<l.length),R (l[i]'(by omega)) l[i+1]):l.Pairwise R:=
 zaQ.2 fun i j hi hj hij=>by
  have:=qs3 R tr l h (j-(i+1)) i (by omega);have e:i+1+(j-(i+1))=j:=by omega
  simpa only[e]using this
end
end Go.Vi
set_option linter.unusedSimpArgs false
set_option linter.unusedVariables false
set_option maxRecDepth 100000
namespace Go.Vi
noncomputable section
section
variable {α:Type}{P:α→Prop}{n:Nat}(d:α) {φ:(α×(α×Unit))→Option (Int×Unit)}{le:α→α→Prop}{N:Nat}
theorem qku (hn:n≤1099511627776) (hN:n+1<N) {xs:List α}(h:Ck P n xs) {a b m:Int}(ha:0≤a) (hab:a+m≤b) (hm:0≤m) (hb2:b+m≤(n:Int)):
  ∃out,qiD d N (xs,(a,(b,(m,(φ,())))))=some ((),(out,()))∧Seg d n a (b+m) xs out∧∀k,0≤k→k<(n:Int)→qh out k d=if a≤k∧k<a+m then qh xs (k+(b-a)) d else if b≤k∧k<b+m then qh xs (k-(b-a)) d else qh xs k d:=by
 simp only[qiD];refine qat (S:=List α×(Int×Unit)) (fun p=>(m-p.2.1).toNat) (fun p=>Seg d n a (b+m) xs p.1∧0≤p.2.1∧p.2.1≤m∧∀k,0≤k→k<(n:Int)→qh p.1 k d=if a≤k∧k<a+p.2.1 then qh xs (k+(b-a)) d else if b≤k∧k<b+p.2.1 then qh xs (k-(b-a)) d else qh xs k d)
  (fun r=>∃out,r=some ((),(out,()))∧Seg d n a (b+m) xs out∧∀k,0≤k→k<(n:Int)→qh out k d=if a≤k∧k<a+m then qh xs (k+(b-a)) d else if b≤k∧k<b+m then qh xs (k-(b-a)) d else qh xs k d) ?_ N _
  ⟨.refl d _ _ xs,by simp only;omega,by simp only;omega,fun k k0 k1=>by simp only;rw[if_neg (by omega),if_neg (by omega)]⟩ (by simp only;omega)
 rintro ih ⟨ys,i,⟨⟩⟩ ⟨hs,hi0,him,hg⟩ hih;simp only at hs hi0 him hg hih⊢
 have hc:=hs.ck d h;by_cases q:i<m
 ·have e1:qQ .i64 a i=a+i:=qay (by omega) (by omega);have e2:qQ .i64 b i=b+i:=qay (by omega) (by omega);have e3:qQ .i64 i 1=i+1:=qay (by omega) (by omega);simp only[ltT q,cond_true,e1,e2,e3,hc.inB (i:=a+i) (by omega) (by omega),hc.inB (i:=b+i) (by omega) (by omega),qdo,zak];have g:=qex d hc.len (i:=a+i) (j:=b+i) (by omega) (by omega) (by omega) (by omega);refine hih (swp d ys (a+i) (b+i),(i+1,())) ⟨hs.trans d (qdF d hc.len ha (by omega) (by omega) (by omega) (by omega) (by omega)),by simp only;omega,by simp only;omega,fun k k0 k1=>?_⟩ (by simp only;omega);simp only;rw[g k k0];by_cases w1:k=b+i
  ·rw[if_pos w1,if_neg (by omega),if_pos (by omega),hg (a+i) (by omega) (by omega),if_neg (by omega),if_neg (by omega),w1,show b+i-(b-a)=a+i by omega]
  rw[if_neg w1];by_cases w2:k=a+i
  ·rw[if_pos w2,if_pos (by omega),hg (b+i) (by omega) (by omega),if_neg (by omega),if_neg (by omega),w2,show a+i+(b-a)=b+i by omega]
  rw[if_neg w2,hg k k0 k1];by_cases w3:a≤k∧k<a+i
  ·rw[if_pos w3,if_pos (by omega)]
  rw[if_neg w3];by_cases w4:b≤k∧k<b+i
  ·rw[if_pos w4,if_neg (by omega),if_pos (by omega)]
  rw[if_neg w4,if_neg (by omega),if_neg (by omega)]
 ·have:i=m:=by omega
  subst this;simp only[ltF q,cond_false];exact⟨ys,rfl,hs,hg⟩
def qtg (d:α) (xs:List α) (a m b k:Int):α:=if a≤k∧k<a+(b-m)then qh xs (k+(m-a)) d else if a+(b-m)≤k∧k<b then qh xs (k-(b-m)) d else qh xs k d
theorem qg0 (xs:List α) {a m b k:Int}(h1:a≤k) (h2:k<a+(b-m)):qtg d xs a m b k=qh xs (k+(m-a)) d:=by rw[qtg,if_pos ⟨h1,h2⟩]
theorem qg7 (xs:List α) {a m b k:Int}(h1:a+(b-m)≤k) (h2:k<b):qtg d xs a m b k=qh xs (k-(b-m)) d:=by rw[qtg,if_neg (by omega),if_pos ⟨h1,h2⟩]
theorem qf3 (xs:List α) {a m b k:Int}(h1:m≤b) (h2:a≤m) (h3:k<a∨b≤k):qtg d xs a m b k=qh xs k d:=by rw[qtg,if_neg (by omega),if_neg (by omega)]
theorem qr7 (hn:n≤1099511627776) (hN:2*n+1<N) {xs:List α}(h:Ck P n xs) {a m b:Int}(ha:0≤a) (h1:a<m) (h2:m<b) (hb:b≤(n:Int)):
  ∃out,qfh d N (xs,(a,(m,(b,(φ,())))))=some ((),(out,()))∧Seg d n a b xs out∧∀k,0≤k→k<(n:Int)→qh out k d=qtg d xs a m b k:=by
 have e1:qR .i64 m a=m-a:=qas (by omega) (by omega);have e2:qR .i64 b m=b-m:=qas (by omega) (by omega);simp only[qfh,qJ,e1,e2];refine qat (S:=List α×(Int×(Int×Unit))) (fun p=>(p.2.1+p.2.2.1).toNat) (fun p=>Seg d n a b xs p.1∧0<p.2.1∧p.2.1≤m-a∧0<p.2.2.1∧p.2.2.1≤b-m∧∀k,0≤k→k<(n:Int)→qtg d p.1 (m-p.2.1) m (m+p.2.2.1) k=qtg d xs a m b k)
  (fun r=>∃out,r=some ((),(out,()))∧Seg d n a b xs out∧∀k,0≤k→k<(n:Int)→qh out k d=qtg d xs a m b k) ?_ N _
  ⟨.refl d _ _ xs,by simp only;omega,by simp only;omega,by simp only;omega,by simp only;omega,fun k k0 k1=>by simp only;rw[show m-(m-a)=a by omega,show m+(b-m)=b by omega]⟩ (by simp only;omega)
 rintro ih ⟨ys,i,j,⟨⟩⟩ ⟨hs,hi0,him,hj0,hjm,hg⟩ hih;simp only at hs hi0 him hj0 hjm hg hih⊢
 have hc:=hs.ck d h;have s1:qR .i64 m i=m-i:=qas (by omega) (by omega);by_cases q:i=j
 ·obtain⟨out,o1,o2,o3⟩:=qku (φ:=φ) (P:=P) d hn (by omega:n+1<N) hc (a:=m-i) (b:=m) (m:=i) (by omega) (by omega) (by omega) (by omega);simp only[neF q,cond_false,s1,o1,qg,qj,cond_true];refine⟨out,rfl,hs.trans d (o2.mono d ha hb (by omega) (by omega)),fun k k0 k1=>?_⟩;rw[←hg k k0 k1,o3 k k0 k1];subst q;by_cases w1:m-i≤k∧k<m
  ·rw[if_pos (by omega),qg0 d ys (by omega) (by omega)]
  ·rw[if_neg (by omega)];by_cases w2:m≤k∧k<m+i
   ·rw[if_pos (by omega),qg7 d ys (by omega) (by omega)];congr 1;omega
   ·rw[if_neg (by omega),qf3 d ys (by omega) (by omega) (by omega)]
 simp only[neT q,cond_true];by_cases q2:j<i
 ·obtain⟨out,o1,o2,o3⟩:=qku (φ:=φ) (P:=P) d hn (by omega:n+1<N) hc (a:=m-i) (b:=m) (m:=j) (by omega) (by omega) (by omega) (by omega);have s2:qR .i64 i j=i-j:=qas (by omega) (by omega);simp only[ltT q2,cond_true,s1,s2,o1,qg,qj];refine hih (out,(i-j,(j,()))) ⟨hs.trans d (o2.mono d ha hb (by omega) (by omega)),by simp only;omega,by simp only;omega,hj0,hjm,fun k k0 k1=>?_⟩ (by simp only;omega);simp only;rw[←hg k k0 k1];by_cases w0:k<m-i+j∨m+j≤k
  ·rw[qf3 d out (by omega) (by omega) (by omega),o3 k k0 k1];by_cases w1:m-i≤k∧k<m+j
   ·rw[if_pos (by omega),qg0 d ys (by omega) (by omega)]
   ·rw[if_neg (by omega),if_neg (by omega),qf3 d ys (by omega) (by omega) (by omega)]
  ·rw[qg7 d ys (by omega) (by omega)];by_cases w1:k-(m-i+j)<j
   ·rw[qg0 d out (by omega) (by omega),o3 _ (by omega) (by omega),if_neg (by omega),if_pos (by omega)];congr 1;omega
   ·rw[qg7 d out (by omega) (by omega),o3 _ (by omega) (by omega),if_neg (by omega),if_neg (by omega)]
 ·obtain⟨out,o1,o2,o3⟩:=qku (φ:=φ) (P:=P) d hn (by omega:n+1<N) hc (a:=m-i) (b:=m+j-i) (m:=i) (by omega) (by omega) (by omega) (by omega);have s2:qR .i64 j i=j-i:=qas (by omega) (by omega);have s3:qQ .i64 m j=m+j:=qay (by omega) (by omega);have s4:qR .i64 (m+j) i=m+j-i:=qas (by omega) (by omega);simp only[ltF q2,cond_false,s1,s2,s3,s4,o1,qg,qj,cond_true];refine hih (out,(i,(j-i,()))) ⟨hs.trans d (o2.mono d ha hb (by omega) (by omega)),hi0,him,by simp only;omega,by simp only;omega,fun k k0 k1=>?_⟩ (by simp only;omega);simp only;rw[←hg k k0 k1];by_cases w0:k<m-i∨m+(j-i)≤k
  ·rw[qf3 d out (by omega) (by omega) (by omega),o3 k k0 k1];by_cases w1:m-i≤k∧k<m+j
   ·rw[if_neg (by omega),if_pos (by omega),qg7 d ys (by omega) (by omega)];congr 1;omega
   ·rw[if_neg (by omega),if_neg (by omega),qf3 d ys (by omega) (by omega) (by omega)]
  ·rw[qg0 d ys (by omega) (by omega)];by_cases w1:k-(m-i)<j-i
   ·rw[qg0 d out (by omega) (by omega),o3 _ (by omega) (by omega),if_neg (by omega),if_neg (by omega)]
   ·rw[qg7 d out (by omega) (by omega),o3 _ (by omega) (by omega),if_pos (by omega)];congr 1;omega
def qvW (P:α→Prop) (d:α) (n:Nat) (le:α→α→Prop) (φ:(α×(α×Unit))→Option (Int×Unit)) (M:Nat) (Fs:((List α)×(Int×(Int×(Int×(((α×(α×Unit))→(Option (Int×Unit)))×Unit)))))→(Option (Unit×((List α)×Unit)))):Prop:=
 ∀(xs:List α),Ck P n xs→∀(a m b:Int),0≤a→a<m→m<b→b≤(n:Int)→(b-a).toNat<M→Srt d le a m xs→Srt d le m b xs→qjq P d n le a b xs (Fs (xs,(a,(m,(b,(φ,()))))))
set_option maxHeartbeats 2000000 in
theorem qr4 (hφ:Cmp P φ le) (hn:n≤1099511627776) (hN:2*n+1<N) {M:Nat}{Fs} (ih:qvW P d n le φ M Fs):qvW P d n le φ (M+1) (qma d N Fs):=by
 intro xs h a m b ha h1 h2 hb hM sl sr;have e1:qR .i64 m a=m-a:=qas (by omega) (by omega);have e2:qR .i64 b m=b-m:=qas (by omega) (by omega);have l01:leI 0 1=true:=leT (by omega);simp only[qma,qJ,e1,e2,l01,cond_true];by_cases q1:m-a=1
 ·simp only[eqT q1,cond_true];refine qat (S:=List α×(Int×(Int×Unit))) (fun p=>(p.2.2.1-p.2.1).toNat) (fun p=>p.1=xs∧m≤p.2.1∧p.2.1≤p.2.2.1∧p.2.2.1≤b∧(∀k,m≤k→k<p.2.1→le (qh xs k d) (qh xs a d))∧∀k,p.2.2.1≤k→k<b→le (qh xs a d) (qh xs k d)) (qjq P d n le a b xs) ?_ N _ ⟨rfl,by simp only;omega,by simp only;omega,by simp only;omega,fun k k1 k2=>by simp only at k2;omega,fun k k1 k2=>by simp only at k1;omega⟩ (by simp only;omega);rintro ih1 ⟨ys,i,j,⟨⟩⟩ ⟨hy,hi,hij,hj,lo,hi'⟩ hih;simp only at hy hi hij hj lo hi' hih⊢
  subst hy;have pa:=h.get d (i:=a) (by omega) (by omega);by_cases hc:i<j
  ·have em:=qjo (x:=i) (y:=j) (by omega) (by omega) (by omega);have em1:qQ .i64 ((i+j)/2) 1=(i+j)/2+1:=qay (by omega) (by omega);have pm:=h.get d (i:=(i+j)/2) (by omega) (by omega);obtain⟨c,e3,e4⟩:=qiW hφ pm pa;simp only[ltT hc,cond_true,em,em1,h.inB (i:=(i+j)/2) (by omega) (by omega),h.inB (i:=a) (by omega) (by omega),e3,qg,qj,zak];rcases e4 with⟨c0,-,c2⟩|⟨c0,c1⟩
   ·simp only[ltT c0,cond_true];refine hih _ ⟨rfl,by simp only;omega,by simp only;omega,hj,fun k k1 k2=>?_,hi'⟩ (by simp only;omega);simp only at k2;exact hφ.trans _ _ _ (h.get d (by omega) (by omega)) pm pa (sr k ((i+j)/2) k1 (by omega) (by omega)) c2
   ·simp only[ltF c0,cond_false];refine hih _ ⟨rfl,hi,by simp only;omega,by simp only;omega,lo,fun k k1 k2=>?_⟩ (by simp only;omega);simp only at k1;exact hφ.trans _ _ _ pa pm (h.get d (by omega) (by omega)) c1 (sr ((i+j)/2) k (by omega) k1 k2)
  ·have:i=j:=by omega
   subst this;simp only[ltF hc,cond_false];have ei:qR .i64 i 1=i-1:=qas (by omega) (by omega);rw[ei];refine qat (S:=List α×(Int×Unit)) (fun p=>(i-p.2.1).toNat) (fun p=>Seg d n a b ys p.1∧a≤p.2.1∧p.2.1≤i-1∧∀k,0≤k→k<(n:Int)→qh p.1 k d=if a≤k∧k<p.2.1 then qh ys (k+1) d else if k=p.2.1 then qh ys a d else qh ys k d) (qjq P d n le a b ys) ?_ N _ ⟨.refl d _ _ ys,by simp only;omega,by simp only;omega,fun k k0 k1=>by
    simp only;rw[if_neg (by omega)];by_cases w:k=a
    ·rw[if_pos w,w]
    ·rw[if_neg w]⟩ (by simp only;omega)
   rintro jh ⟨zs,k,⟨⟩⟩ ⟨hz,hk,hki,hg⟩ hjh;simp only at hz hk hki hg hjh⊢
   have hzc:=hz.ck d h;by_cases hk2:k<i-1
   ·have s1:qQ .i64 k 1=k+1:=qay (by omega) (by omega);simp only[ltT hk2,s1,hzc.inB (i:=k) (by omega) (by omega),hzc.inB (i:=k+1) (by omega) (by omega),qdo,zak,cond_true];have g:=qex d hzc.len (i:=k) (j:=k+1) (by omega) (by omega) (by omega) (by omega);refine hjh (swp d zs k (k+1),(k+1,())) ⟨hz.trans d (qdF d hzc.len ha hb (by omega) (by omega) (by omega) (by omega)),by simp only;omega,by simp only;omega,fun x x0 x1=>?_⟩ (by simp only;omega);simp only;rw[g x x0];by_cases w1:x=k+1
    ·rw[if_pos w1,if_neg (by omega),if_pos w1,hg k (by omega) (by omega),if_neg (by omega),if_pos rfl]
    rw[if_neg w1];by_cases w2:x=k
    ·rw[if_pos w2,if_pos (by omega),hg (k+1) (by omega) (by omega),if_neg (by omega),if_neg (by omega),w2]
    rw[if_neg w2,hg x x0 x1];by_cases w3:a≤x∧x<k
    ·rw[if_pos w3,if_pos (by omega)]
    ·rw[if_neg w3,if_neg w2,if_neg (by omega),if_neg w1]
   ·have:k=i-1:=by omega
    subst this;simp only[ltF hk2,cond_false];refine⟨zs,rfl,hz,fun x y x1 x2 x3=>?_⟩;rw[hg x (by omega) (by omega),hg y (by omega) (by omega)];by_cases w1:a≤x∧x<i-1
    ·rw[if_pos w1];by_cases w2:a≤y∧y<i-1
     ·rw[if_pos w2];exact sr (x+1) (y+1) (by omega) (by omega) (by omega)
     ·rw[if_neg w2];by_cases w3:y=i-1
      ·rw[if_pos w3];exact lo (x+1) (by omega) (by omega)
      ·rw[if_neg w3];exact sr (x+1) y (by omega) (by omega) (by omega)
    ·rw[if_neg w1,if_neg (by omega:¬(a≤y∧y<i-1))];by_cases w2:x=i-1
     ·rw[if_pos w2];by_cases w3:y=i-1
      ·rw[if_pos w3];exact hφ.refl pa
      ·rw[if_neg w3];exact hi' y (by omega) (by omega)
     ·rw[if_neg w2,if_neg (by omega:¬y=i-1)];exact sr x y (by omega) x2 (by omega)
 simp only[eqF q1,cond_false];by_cases q2:b-m=1
 ·simp only[eqT q2,cond_true];refine qat (S:=List α×(Int×(Int×Unit))) (fun p=>(p.2.2.1-p.2.1).toNat) (fun p=>p.1=xs∧a≤p.2.1∧p.2.1≤p.2.2.1∧p.2.2.1≤m∧(∀k,a≤k→k<p.2.1→le (qh xs k d) (qh xs m d))∧∀k,p.2.2.1≤k→k<m→le (qh xs m d) (qh xs k d)) (qjq P d n le a b xs) ?_ N _ ⟨rfl,by simp only;omega,by simp only;omega,by simp only;omega,fun k k1 k2=>by simp only at k2;omega,fun k k1 k2=>by simp only at k1;omega⟩ (by simp only;omega);rintro ih1 ⟨ys,i,j,⟨⟩⟩ ⟨hy,hi,hij,hj,lo,hi'⟩ hih;simp only at hy hi hij hj lo hi' hih⊢
  subst hy;have pm:=h.get d (i:=m) (by omega) (by omega);by_cases hc:i<j
  ·have em:=qjo (x:=i) (y:=j) (by omega) (by omega) (by omega);have em1:qQ .i64 ((i+j)/2) 1=(i+j)/2+1:=qay (by omega) (by omega);have ph:=h.get d (i:=(i+j)/2) (by omega) (by omega);obtain⟨c,e3,e4⟩:=qiW hφ pm ph;simp only[ltT hc,cond_true,em,em1,h.inB (i:=(i+j)/2) (by omega) (by omega),h.inB (i:=m) (by omega) (by omega),e3,qg,qj,zak];rcases e4 with⟨c0,-,c2⟩|⟨c0,c1⟩
   ·simp only[ltT c0,zaT,cond_false];refine hih _ ⟨rfl,hi,by simp only;omega,by simp only;omega,lo,fun k k1 k2=>?_⟩ (by simp only;omega);simp only at k1;exact hφ.trans _ _ _ pm ph (h.get d (by omega) (by omega)) c2 (sl ((i+j)/2) k (by omega) k1 k2)
   ·simp only[ltF c0,zaY,cond_true];refine hih _ ⟨rfl,by simp only;omega,by simp only;omega,hj,fun k k1 k2=>?_,hi'⟩ (by simp only;omega);simp only at k2;exact hφ.trans _ _ _ (h.get d (by omega) (by omega)) ph pm (sl k ((i+j)/2) k1 (by omega) (by omega)) c1
  ·have:i=j:=by omega
   subst this;simp only[ltF hc,cond_false];refine qat (S:=List α×(Int×Unit)) (fun p=>(p.2.1-i).toNat) (fun p=>Seg d n a b ys p.1∧i≤p.2.1∧p.2.1≤m∧∀k,0≤k→k<(n:Int)→qh p.1 k d=if p.2.1<k∧k≤m then qh ys (k-1) d else if k=p.2.1 then qh ys m d else qh ys k d) (qjq P d n le a b ys) ?_ N _ ⟨.refl d _ _ ys,by simp only;omega,by simp only;omega,fun k k0 k1=>by
    simp only;rw[if_neg (by omega)];by_cases w:k=m
    ·rw[if_pos w,w]
    ·rw[if_neg w]⟩ (by simp only;omega)
   rintro jh ⟨zs,k,⟨⟩⟩ ⟨hz,hk,hki,hg⟩ hjh;simp only at hz hk hki hg hjh⊢
   have hzc:=hz.ck d h;by_cases hk2:i<k
   ·have s1:qR .i64 k 1=k-1:=qas (by omega) (by omega);simp only[ltT hk2,s1,hzc.inB (i:=k) (by omega) (by omega),hzc.inB (i:=k-1) (by omega) (by omega),qdo,zak,cond_true];have g:=qex d hzc.len (i:=k) (j:=k-1) (by omega) (by omega) (by omega) (by omega);refine hjh (swp d zs k (k-1),(k-1,())) ⟨hz.trans d (qdF d hzc.len ha hb (by omega) (by omega) (by omega) (by omega)),by simp only;omega,by simp only;omega,fun x x0 x1=>?_⟩ (by simp only;omega);simp only;rw[g x x0];by_cases w1:x=k-1
    ·rw[if_pos w1,if_neg (by omega),if_pos w1,hg k (by omega) (by omega),if_neg (by omega),if_pos rfl]
    rw[if_neg w1];by_cases w2:x=k
    ·rw[if_pos w2,if_pos (by omega),hg (k-1) (by omega) (by omega),if_neg (by omega),if_neg (by omega),w2]
    rw[if_neg w2,hg x x0 x1];by_cases w3:k<x∧x≤m
    ·rw[if_pos w3,if_pos (by omega)]
    ·rw[if_neg w3,if_neg w2,if_neg (by omega),if_neg w1]
   ·have:k=i:=by omega
    subst this;simp only[ltF hk2,cond_false];refine⟨zs,rfl,hz,fun x y x1 x2 x3=>?_⟩;rw[hg x (by omega) (by omega),hg y (by omega) (by omega)];by_cases w1:k<x∧x≤m
    ·rw[if_pos w1,if_pos (by omega:k<y∧y≤m)];exact sl (x-1) (y-1) (by omega) (by omega) (by omega)
    ·rw[if_neg w1];by_cases w2:x=k
     ·rw[if_pos w2];by_cases w3:k<y∧y≤m
      ·rw[if_pos w3];exact hi' (y-1) (by omega) (by omega)
      ·rw[if_neg w3,if_pos (by omega:y=k)];exact hφ.refl pm
     ·rw[if_neg w2];by_cases w3:k<y∧y≤m
      ·rw[if_pos w3];exact sl x (y-1) (by omega) (by omega) (by omega)
      ·rw[if_neg w3];by_cases w4:y=k
       ·rw[if_pos w4];exact lo x (by omega) (by omega)
       ·rw[if_neg w4];exact sl x y (by omega) x2 (by omega)
 simp only[eqF q2,cond_false];have em:=qjo (x:=a) (y:=b) (by omega) (by omega) (by omega);rw[em];generalize hmid:(a+b)/2=mid;have hm1:a<mid:=by omega
 have hm2:mid<b:=by omega
 have en:qQ .i64 mid m=mid+m:=qay (by omega) (by omega);have en2:qR .i64 (mid+m) b=mid+m-b:=qas (by omega) (by omega);have en3:qR .i64 (mid+m) 1=mid+m-1:=qas (by omega) (by omega);simp only[en,en2,en3];obtain⟨st,r,hst,hr,g1,g2,g3,g4,g5,g6,g7⟩:∃st r:Int,(bif ltI mid m then mid+m-b else a)=st∧(bif ltI mid m then mid else m)=r∧a≤st∧st≤r∧r≤mid∧r≤m∧mid+m-st≤b∧(st=a∨mid+m-st=b)∧(r=mid∨r=m):=by
  by_cases hq:mid<m
  ·exact⟨_,_,rfl,rfl,by rw[ltT hq];simp only[cond_true];exact⟨by omega,by omega,by omega,by omega,by omega,.inr (by omega),.inl trivial⟩⟩
  ·exact⟨_,_,rfl,rfl,by rw[ltF hq];simp only[cond_false];exact⟨by omega,by omega,by omega,by omega,by omega,.inl trivial,.inr trivial⟩⟩
 simp only[hst,hr];refine qat (S:=List α×(Int×(Int×Unit))) (fun p=>(p.2.2.1-p.2.1).toNat) (fun p=>p.1=xs∧st≤p.2.1∧p.2.1≤p.2.2.1∧p.2.2.1≤r∧(st<p.2.1→le (qh xs (p.2.1-1) d) (qh xs (mid+m-p.2.1) d))∧(p.2.2.1<r→le (qh xs (mid+m-1-p.2.2.1) d) (qh xs p.2.2.1 d))) (qjq P d n le a b xs) ?_ N _ ⟨rfl,by simp only;omega,by simp only;omega,by simp only;omega,fun w=>by simp only at w;omega,fun w=>by simp only at w;omega⟩ (by simp only;omega);rintro ih1 ⟨ys,i,j,⟨⟩⟩ ⟨hy,hi,hij,hj,lo,hi'⟩ hih;simp only at hy hi hij hj lo hi' hih⊢
 subst hy;by_cases hc:i<j
 ·have em:=qjo (x:=i) (y:=j) (by omega) (by omega) (by omega);have em1:qQ .i64 ((i+j)/2) 1=(i+j)/2+1:=qay (by omega) (by omega);have em2:qR .i64 (mid+m-1) ((i+j)/2)=mid+m-1-(i+j)/2:=qas (by omega) (by omega);obtain⟨c,e3,e4⟩:=qiW hφ (h.get d (i:=mid+m-1-(i+j)/2) (by omega) (by omega)) (h.get d (i:=(i+j)/2) (by omega) (by omega));simp only[ltT hc,cond_true,em,em1,em2,h.inB (i:=mid+m-1-(i+j)/2) (by omega) (by omega),h.inB (i:=(i+j)/2) (by omega) (by omega),e3,qg,qj,zak];rcases e4 with⟨c0,-,c2⟩|⟨c0,c1⟩
  ·simp only[ltT c0,zaT,cond_false];exact hih _ ⟨rfl,hi,by simp only;omega,by simp only;omega,lo,fun _=>c2⟩ (by simp only;omega)
  ·simp only[ltF c0,zaY,cond_true];refine hih _ ⟨rfl,by simp only;omega,by simp only;omega,hj,fun _=>?_,hi'⟩ (by simp only;omega);simp only;rw[show(i+j)/2+1-1=(i+j)/2 by omega,show mid+m-((i+j)/2+1)=mid+m-1-(i+j)/2 by omega];exact c1
 ·have hijq:i=j:=by omega
  subst hijq;have ee:qR .i64 (mid+m) i=mid+m-i:=qas (by omega) (by omega);simp only[ltF hc,cond_false,ee];generalize hen:mid+m-i=en at *
  obtain⟨zs,z1,z2,z3,z4⟩:∃zs,Seg d n a b ys zs∧(bif (ltI i m&&ltI m en)then qx (qfh d N (ys,(i,(m,(en,(φ,()))))))else true)=true∧(bif (ltI i m&&ltI m en)then(qi (qfh d N (ys,(i,(m,(en,(φ,())))))) ((),(([]:List α),()))).2.1 else ys)=zs∧∀k,0≤k→k<(n:Int)→qh zs k d=qtg d ys i m en k:=by
   by_cases hq:i<m∧m<en
   ·obtain⟨out,k1,k2,k3⟩:=qr7 (φ:=φ) (P:=P) d hn hN h (a:=i) (m:=m) (b:=en) (by omega) hq.1 hq.2 (by omega);exact⟨out,k2.mono d ha hb (by omega) (by omega),by simp only[ltT hq.1,ltT hq.2,zak,cond_true,k1,qg],by simp only[ltT hq.1,ltT hq.2,zak,cond_true,k1,qj],k3⟩
   ·have e:(ltI i m&&ltI m en)=false:=by
     by_cases hq1:i<m
     ·rw[ltF (fun hq2=>hq ⟨hq1,hq2⟩),Bool.and_false]
     ·rw[ltF hq1,za7]
    refine⟨ys,.refl d _ _ ys,by simp only[e,cond_false],by simp only[e,cond_false],fun k k0 k1=>?_⟩;by_cases w0:i≤k∧k<en
    ·by_cases w1:i=m
     ·rw[qg0 d ys (by omega) (by omega)];congr 1;omega
     ·rw[qg7 d ys (by omega) (by omega)];congr 1;omega
    ·rw[qf3 d ys (by omega) (by omega) (by omega)]
  have zc:=z1.ck d h;simp only[z2,z3,cond_true];have hL1:∀k,a≤k→k<i→qh zs k d=qh ys k d:=fun k k1 k2=>by rw[z4 k (by omega) (by omega),qf3 d ys (by omega) (by omega) (by omega)]
  have hL2:∀k,i≤k→k<mid→qh zs k d=qh ys (k+(m-i)) d:=fun k k1 k2=>by rw[z4 k (by omega) (by omega),qg0 d ys (by omega) (by omega)]
  have hR1:∀k,mid≤k→k<en→qh zs k d=qh ys (k-(en-m)) d:=fun k k1 k2=>by rw[z4 k (by omega) (by omega),qg7 d ys (by omega) (by omega)]
  have hR2:∀k,en≤k→k<b→qh zs k d=qh ys k d:=fun k k1 k2=>by rw[z4 k (by omega) (by omega),qf3 d ys (by omega) (by omega) (by omega)]
  have cross:∀x y,a≤x→x<mid→mid≤y→y<b→le (qh zs x d) (qh zs y d):=fun x y x1 x2 y1 y2=>by
   by_cases wx:x<i
   ·rw[hL1 x x1 wx];by_cases wy:y<en
    ·rw[hR1 y y1 wy];exact sl x _ x1 (by omega) (by omega)
    ·rw[hR2 y (by omega) y2];have:=lo (by omega);refine hφ.trans _ _ _ (h.get d (by omega) (by omega)) (h.get d (i:=i-1) (by omega) (by omega)) (h.get d (by omega) (by omega)) (sl x (i-1) x1 (by omega) (by omega)) (hφ.trans _ _ _ (h.get d (i:=i-1) (by omega) (by omega)) (h.get d (i:=en) (by omega) (by omega)) (h.get d (by omega) (by omega)) this (sr en y (by omega) (by omega) y2))
   ·rw[hL2 x (by omega) x2];by_cases wy:y<en
    ·rw[hR1 y y1 wy];have:=hi' (by omega);rw[show mid+m-1-i=en-1 by omega]at this;refine hφ.trans _ _ _ (h.get d (by omega) (by omega)) (h.get d (i:=en-1) (by omega) (by omega)) (h.get d (by omega) (by omega)) (sr _ (en-1) (by omega) (by omega) (by omega)) (hφ.trans _ _ _ (h.get d (i:=en-1) (by omega) (by omega)) (h.get d (i:=i) (by omega) (by omega)) (h.get d (by omega) (by omega)) this (sl i _ (by omega) (by omega) (by omega)))
    ·rw[hR2 y (by omega) y2];exact sr _ y (by omega) (by omega) y2
  have s1:Srt d le a i zs:=fun x y x1 x2 x3=>by rw[hL1 x x1 (by omega),hL1 y (by omega) x3];exact sl x y x1 x2 (by omega)
  have s2:Srt d le i mid zs:=fun x y x1 x2 x3=>by rw[hL2 x x1 (by omega),hL2 y (by omega) x3];exact sr _ _ (by omega) (by omega) (by omega)
  have s3:Srt d le mid en zs:=fun x y x1 x2 x3=>by rw[hR1 x x1 (by omega),hR1 y (by omega) x3];exact sl _ _ (by omega) (by omega) (by omega)
  have s4:Srt d le en b zs:=fun x y x1 x2 x3=>by rw[hR2 x x1 (by omega),hR2 y (by omega) x3];exact sr x y (by omega) x2 x3
  obtain⟨ws,w1,w2,w3,w4⟩:∃ws,Seg d n a mid zs ws∧(bif (ltI a i&&ltI i mid)then qx (Fs (zs,(a,(i,(mid,(φ,()))))))else true)=true∧(bif (ltI a i&&ltI i mid)then(qi (Fs (zs,(a,(i,(mid,(φ,())))))) ((),(([]:List α),()))).2.1 else zs)=ws∧Srt d le a mid ws:=by
   by_cases hq:a<i∧i<mid
   ·obtain⟨out,k1,k2,k3⟩:=ih zs zc a i mid ha hq.1 hq.2 (by omega) (by omega) s1 s2;exact⟨out,k2,by simp only[ltT hq.1,ltT hq.2,zak,cond_true,k1,qg],by simp only[ltT hq.1,ltT hq.2,zak,cond_true,k1,qj],k3⟩
   ·have e:(ltI a i&&ltI i mid)=false:=by
     by_cases hq1:a<i
     ·rw[ltF (fun hq2=>hq ⟨hq1,hq2⟩),Bool.and_false]
     ·rw[ltF hq1,za7]
    refine⟨zs,.refl d _ _ zs,by simp only[e,cond_false],by simp only[e,cond_false],?_⟩;by_cases hq1:a<i
    ·rw[show mid=i by omega];exact s1
    ·rw[show a=i by omega];exact s2
  have wc:=w1.ck d zc;simp only[w2,w3,cond_true];have s3':Srt d le mid en ws:=fun x y x1 x2 x3=>by rw[w1.out x (by omega) (by omega) (by omega),w1.out y (by omega) (by omega) (by omega)];exact s3 x y x1 x2 x3
  have s4':Srt d le en b ws:=fun x y x1 x2 x3=>by rw[w1.out x (by omega) (by omega) (by omega),w1.out y (by omega) (by omega) (by omega)];exact s4 x y x1 x2 x3
  have cross':∀x y,a≤x→x<mid→mid≤y→y<b→le (qh ws x d) (qh ws y d):=fun x y x1 x2 y1 y2=>by
   obtain⟨k,k1,k2,k3⟩:=w1.inn x x1 x2;rw[k3,w1.out y (by omega) (by omega) (by omega)];exact cross k y k1 k2 y1 y2
  have last:∀out,Seg d n mid b ws out→Srt d le mid b out→qjq P d n le a b ys (some ((),(out,()))):=fun out o1 o2=>by
   refine⟨out,rfl,z1.trans d ((w1.mono d ha hb (by omega) (by omega)).trans d (o1.mono d ha hb (by omega) (by omega))),fun x y x1 x2 x3=>?_⟩;by_cases wy:y<mid
   ·rw[o1.out x (by omega) (by omega) (by omega),o1.out y (by omega) (by omega) (by omega)];exact w4 x y x1 x2 wy
   ·by_cases wx:x<mid
    ·obtain⟨k,k1,k2,k3⟩:=o1.inn y (by omega) x3;rw[k3,o1.out x (by omega) (by omega) (by omega)];exact cross' x k x1 wx k1 k2
    ·exact o2 x y (by omega) x2 x3
  by_cases hq:mid<en∧en<b
  ·obtain⟨out,k1,k2,k3⟩:=ih ws wc mid en b (by omega) hq.1 hq.2 hb (by omega) s3' s4';simp only[ltT hq.1,ltT hq.2,zak,cond_true,k1,qg,qj];exact last out k2 k3
  ·have e:(ltI mid en&&ltI en b)=false:=by
    by_cases hq1:mid<en
    ·rw[ltF (fun hq2=>hq ⟨hq1,hq2⟩),Bool.and_false]
    ·rw[ltF hq1,za7]
   simp only[e,cond_false,cond_true];refine last ws (.refl d _ _ ws) ?_;by_cases hq1:mid<en
   ·have:en=b:=by omega
    rw[←this];exact s3'
   ·have:mid=en:=by omega
    rw[this];exact s4'
theorem qji (hφ:Cmp P φ le) (hn:n≤1099511627776) (hN:2*n+1<N):∀M:Nat,qvW P d n le φ M (qje d N M)
 |0=>fun xs h a m b ha h1 h2 hb hM=>by omega
 |M+1=>qr4 d hφ hn hN (qji hφ hn hN M)
inductive Bk (d:α) (le:α→α→Prop) (n:Nat) (s:Int) (xs:List α):Int→Prop where
 |last {a:Int}:a≤(n:Int)→(n:Int)≤a+s→Srt d le a (n:Int) xs→Bk d le n s xs a
 |step {a:Int}:a+s≤(n:Int)→Srt d le a (a+s) xs→Bk d le n s xs (a+s)→Bk d le n s xs a
inductive Pf (d:α) (le:α→α→Prop) (s:Int) (xs:List α):Int→Prop where
 |zero:Pf d le s xs 0
 |step {a:Int}:0≤a→Pf d le s xs a→Srt d le a (a+s) xs→Pf d le s xs (a+s)
theorem Pf.bk {s:Int}{xs:List α}:∀ {a:Int},Pf d le s xs a→a≤(n:Int)→0≤s→Bk d le n s xs a→Bk d le n s xs 0
 |_,.zero,_,_,h=>h
 |_,.step h0 hp hs,hn,h0s,h=>hp.bk (by omega) h0s (.step (by omega) hs h)
theorem Srt.same {a b:Int}{xs ys:List α}(h:Srt d le a b xs) (he:∀k,a≤k→k<b→qh ys k d=qh xs k d):Srt d le a b ys:=fun x y x1 x2 x3=>by
 rw[he x x1 (by omega),he y (by omega) x3];exact h x y x1 x2 x3
theorem Pf.same {s:Int}{xs ys:List α}(h0s:0≤s):∀ {a:Int},Pf d le s xs a→(∀k,0≤k→k<a→qh ys k d=qh xs k d)→Pf d le s ys a
 |_,.zero,_=>.zero
 |_,.step h0 hp hs,he=>.step h0 (hp.same h0s fun k k0 k1=>he k k0 (by omega)) (hs.same d fun k k0 k1=>he k (by omega) (by omega))
theorem Bk.same {s:Int}{xs ys:List α}(h0s:0≤s):∀ {a:Int},Bk d le n s xs a→(∀k,a≤k→k<(n:Int)→qh ys k d=qh xs k d)→Bk d le n s ys a
 |_,.last h1 h2 hs,he=>.last h1 h2 (hs.same d fun k k0 k1=>he k k0 k1)
 |_,.step h1 hs hb,he=>.step h1 (hs.same d fun k k0 k1=>he k k0 (by omega)) (hb.same h0s fun k k0 k1=>he k (by omega) k1)
theorem Bk.two {s a:Int}{xs:List α}(h:Bk d le n s xs a) (hs:1≤s) (hb:a+2*s≤(n:Int)):Srt d le a (a+s) xs∧Srt d le (a+s) (a+2*s) xs∧Bk d le n s xs (a+2*s):=by
 cases h with
 |last h1 h2 h3=>omega
 |step h1 h2 h3=>
  refine⟨h2,?_⟩;generalize hq:a+s=q at *
  rw[show a+2*s=q+s by omega];cases h3 with
  |last k1 k2 k3=>
   have:(n:Int)=q+s:=by omega
   exact⟨by rw[←this];exact k3,by rw[←this];exact .last (za9 _) (by omega) fun x y x1 x2 x3=>by omega⟩
  |step k1 k2 k3=>exact⟨k2,k3⟩
theorem Bk.one {s a:Int}{xs:List α}(h:Bk d le n s xs a) (hs:1≤s) (hb:(n:Int)<a+2*s) (hm:a+s<(n:Int)):Srt d le a (a+s) xs∧Srt d le (a+s) (n:Int) xs:=by
 cases h with
 |last h1 h2 h3=>omega
 |step h1 h2 h3=>
  refine⟨h2,?_⟩;generalize hq:a+s=q at *
  cases h3 with
  |last k1 k2 k3=>exact k3
  |step k1 k2 k3=>omega
theorem Bk.nil {s a:Int}{xs:List α}(h:Bk d le n s xs a) (hm:(n:Int)≤a+s):Srt d le a (n:Int) xs:=by
 cases h with
 |last h1 h2 h3=>exact h3
 |step h1 h2 h3=>
  have:(n:Int)=a+s:=by omega
  rw[this];exact h2
theorem qrT (hφ:Cmp P φ le) (hn:n≤1099511627776) (hN:2*n+100<N) {xs:List α}(h:Ck P n xs):qjq P d n le 0 (n:Int) xs (qq7 d N (xs,((n:Int),(φ,())))):=by
 simp only[qq7,qJ];refine qat (S:=List α×(Int×(Int×Unit))) (fun p=>((n:Int)+20-p.2.2.1).toNat) (fun p=>Seg d n 0 (n:Int) xs p.1∧0≤p.2.1∧p.2.1≤(n:Int)∧p.2.2.1=p.2.1+20∧Pf d le 20 p.1 p.2.1) (qjq P d n le 0 (n:Int) xs) ?_ N _ ⟨.refl d _ _ xs,by simp only;omega,by simp only;omega,by simp only;omega,.zero⟩ (by simp only;omega);rintro ih ⟨ys,a,b,⟨⟩⟩ ⟨hs,ha,ha2,hb,hp⟩ hih;simp only at hs ha ha2 hb hp hih⊢
 have hc:=hs.ck d h;by_cases q:b≤(n:Int)
 ·obtain⟨out,o1,o2,o3⟩:=qkc d (N:=N) hφ hn (by omega) hc (a:=a) (b:=b) ha ha2 q;have e1:qQ .i64 b 20=b+20:=qay (by omega) (by omega);simp only[leT q,cond_true,o1,qg,qj,e1];subst hb;exact hih _ ⟨hs.trans d (o2.mono d (za9 0) (za9 _) ha q),by simp only;omega,by simp only;omega,by simp only,.step ha (hp.same d (by omega) fun k k0 k1=>o2.out k k0 (by omega) (by omega)) o3⟩ (by simp only;omega)
 ·obtain⟨out,o1,o2,o3⟩:=qkc d (N:=N) hφ hn (by omega) hc (a:=a) (b:=(n:Int)) ha ha2 (za9 _);simp only[leF q,cond_false,o1,qg,qj,cond_true];have hbk:Bk d le n 20 out 0:=(hp.same d (by omega) fun k k0 k1=>o2.out k k0 (by omega) (by omega)).bk d ha2 (by omega) (.last ha2 (by omega) o3);refine qat (S:=List α×(Int×Unit)) (fun p=>((n:Int)-p.2.1).toNat) (fun p=>Seg d n 0 (n:Int) xs p.1∧1≤p.2.1∧p.2.1≤2*(n:Int)+20∧Bk d le n p.2.1 p.1 0) (qjq P d n le 0 (n:Int) xs) ?_ N _ ⟨hs.trans d (o2.mono d (za9 0) (za9 _) ha (za9 _)),by simp only;omega,by simp only;omega,hbk⟩ (by simp only;omega);rintro jh ⟨ys,s,⟨⟩⟩ ⟨hs,hs1,hs2,hk⟩ hjh;simp only at hs hs1 hs2 hk hjh⊢
  have hc:=hs.ck d h;by_cases hsn:s<(n:Int)
  ·have e1:qj4 .i64 2 s=2*s:=by rw[qer,qfe (by omega) (by omega)]
   have e2:qj4 .i64 s 2=2*s:=by rw[qer,qfe (by omega) (by omega)];omega
   simp only[ltT hsn,cond_true,e1,e2];refine qat (S:=List α×(Int×(Int×Unit))) (fun p=>((n:Int)+2*s-p.2.2.1).toNat) (fun p=>Seg d n 0 (n:Int) xs p.1∧0≤p.2.1∧p.2.1≤(n:Int)∧p.2.2.1=p.2.1+2*s∧Pf d le (2*s) p.1 p.2.1∧Bk d le n s p.1 p.2.1) (qjq P d n le 0 (n:Int) xs) ?_ N _ ⟨hs,by simp only;omega,by simp only;omega,by simp only;omega,.zero,hk⟩ (by simp only;omega);rintro kh ⟨zs,a,b,⟨⟩⟩ ⟨hz,ha,ha2,hb,hp,hk⟩ hkh;simp only at hz ha ha2 hb hp hk hkh⊢
   have hzc:=hz.ck d h;have e3:qQ .i64 a s=a+s:=qay (by omega) (by omega);by_cases q:b≤(n:Int)
   ·subst hb;obtain⟨b1,b2,b3⟩:=hk.two d hs1 q;obtain⟨out,o1,o2,o3⟩:=qji d hφ hn (by omega:2*n+1<N) N zs hzc a (a+s) (a+2*s) ha (by omega) (by omega) q (by omega) b1 b2;have e4:qQ .i64 (a+2*s) (2*s)=a+2*s+2*s:=qay (by omega) (by omega);have o1':qlV d N (zs,(a,(a+s,(a+2*s,(φ,())))))=some ((),(out,())):=o1;simp only[leT q,cond_true,e3,o1',qg,qj,e4];exact hkh _ ⟨hz.trans d (o2.mono d (za9 0) (za9 _) ha q),by simp only;omega,by simp only;omega,by simp only,.step ha (hp.same d (by omega) fun k k0 k1=>o2.out k k0 (by omega) (by omega)) o3,b3.same d (by omega) fun k k0 k1=>o2.out k (by omega) k1 (by omega)⟩ (by simp only;omega)
   ·simp only[leF q,cond_false,e3];have fin:∀out,Seg d n a (n:Int) zs out→Srt d le a (n:Int) out→qjq P d n le 0 (n:Int) xs (jh (out,(2*s,()))):=fun out o1 o2=>
     hjh _ ⟨hz.trans d (o1.mono d (za9 0) (za9 _) ha (za9 _)),by simp only;omega,by simp only;omega,(hp.same d (by omega) fun k k0 k1=>o1.out k k0 (by omega) (by omega)).bk d ha2 (by omega) (.last ha2 (by omega) o2)⟩ (by simp only;omega)
    by_cases hq:a+s<(n:Int)
    ·obtain⟨b1,b2⟩:=hk.one d hs1 (by omega) hq;obtain⟨out,o1,o2,o3⟩:=qji d hφ hn (by omega:2*n+1<N) N zs hzc a (a+s) (n:Int) ha (by omega) hq (za9 _) (by omega) b1 b2;have o1':qlV d N (zs,(a,(a+s,((n:Int),(φ,())))))=some ((),(out,())):=o1;simp only[ltT hq,cond_true,o1',qg,qj];exact fin out o2 o3
    ·simp only[ltF hq,cond_false,cond_true];exact fin zs (.refl d _ _ zs) (hk.nil d (by omega))
  ·simp only[ltF hsn,cond_false];exact⟨ys,rfl,hs,hk.nil d (by omega)⟩
end
end
end Go.Vi
set_option linter.unusedSimpArgs false
set_option linter.unusedVariables false
set_option maxRecDepth 100000
namespace Go.Vi
noncomputable section
def qkR {α:Type}(N:Nat) (x:((List α×(List α→Int→Int→Option Bool))×(Int×(Int×Unit)))):Option (Unit×(List α×Unit)):=
 (qaf (S:=((List α)×(Int×Unit))) (R:=(Unit×((List α)×Unit))) N (fun ih0=>(fun p1=>(bif (ltI p1.2.1 x.2.2.1)then(qaf (S:=((List α)×(Int×Unit))) (R:=(Unit×((List α)×Unit))) N (fun ih2=>(fun p3=>(bif ((!(ltI x.2.1 p3.2.1))||(qx (x.1.2 p3.1 p3.2.1 (qR .i64 p3.2.1 1))))then(bif ((ltI x.2.1 p3.2.1)&&(qi (x.1.2 p3.1 p3.2.1 (qR .i64 p3.2.1 1)) false))then(bif ((inB p3.2.1 (qs p3.1))&&(inB (qR .i64 p3.2.1 1) (qs p3.1)))then(ih2 ((qmO p3.1 p3.2.1 (qR .i64 p3.2.1 1)),((qR .i64 p3.2.1 1),())))else none)else(ih0 (p3.1,((qQ .i64 p1.2.1 1),()))))else none))) (p1.1,(p1.2.1,())))else(some ((),(p1.1,())))))) (x.1.1,((qQ .i64 x.2.1 1),())))
def qk2 {α:Type}(N:Nat) (x:((List α×(List α→Int→Int→Option Bool))×(Int×(Int×(Int×Unit))))):Option (Unit×(List α×Unit)):=
 (qaf (S:=((List α)×(Int×Unit))) (R:=(Unit×((List α)×Unit))) N (fun ih0=>(fun p1=>(bif (ltI p1.2.1 x.2.2.2.1)then(bif ((inB (qQ .i64 x.2.1 p1.2.1) (qs p1.1))&&(inB (qQ .i64 x.2.2.1 p1.2.1) (qs p1.1)))then(ih0 ((qmO p1.1 (qQ .i64 x.2.1 p1.2.1) (qQ .i64 x.2.2.1 p1.2.1)),((qQ .i64 p1.2.1 1),())))else none)else(some ((),(p1.1,())))))) (x.1.1,(0,())))
def qhv {α:Type}(N:Nat) (x:((List α×(List α→Int→Int→Option Bool))×(Int×(Int×(Int×Unit))))):Option (Unit×(List α×Unit)):=
 (qW (qR .i64 x.2.2.1 x.2.1) (fun y0=>(qaf (S:=((List α)×(Int×(Int×Unit)))) (R:=(Unit×((List α)×Unit))) N (fun ih1=>(fun p2=>(bif (neI p2.2.1 p2.2.2.1)then(bif (bif (ltI p2.2.2.1 p2.2.1)then(qx (qk2 N ((p2.1,x.1.2),((qR .i64 x.2.2.1 p2.2.1),(x.2.2.1,(p2.2.2.1,()))))))else(qx (qk2 N ((p2.1,x.1.2),((qR .i64 x.2.2.1 p2.2.1),((qR .i64 (qQ .i64 x.2.2.1 p2.2.2.1) p2.2.1),(p2.2.1,())))))))then(ih1 ((bif (ltI p2.2.2.1 p2.2.1)then(qi (qk2 N ((p2.1,x.1.2),((qR .i64 x.2.2.1 p2.2.1),(x.2.2.1,(p2.2.2.1,()))))) ((),(([]:List α),()))).2.1 else(qi (qk2 N ((p2.1,x.1.2),((qR .i64 x.2.2.1 p2.2.1),((qR .i64 (qQ .i64 x.2.2.1 p2.2.2.1) p2.2.1),(p2.2.1,()))))) ((),(([]:List α),()))).2.1),((bif (ltI p2.2.2.1 p2.2.1)then(qR .i64 p2.2.1 p2.2.2.1)else p2.2.1),((bif (ltI p2.2.2.1 p2.2.1)then p2.2.2.1 else(qR .i64 p2.2.2.1 p2.2.1)),()))))else none)else(bif (qx (qk2 N ((p2.1,x.1.2),((qR .i64 x.2.2.1 p2.2.1),(x.2.2.1,(p2.2.1,()))))))then(some ((),((qi (qk2 N ((p2.1,x.1.2),((qR .i64 x.2.2.1 p2.2.1),(x.2.2.1,(p2.2.1,()))))) ((),(([]:List α),()))).2.1,())))else none)))) (x.1.1,(y0,((qR .i64 x.2.2.2.1 x.2.2.1),()))))))
def qpR {α:Type}(N:Nat) (Fs:((List α×(List α→Int→Int→Option Bool))×(Int×(Int×(Int×Unit))))→Option (Unit×(List α×Unit))) (x:((List α×(List α→Int→Int→Option Bool))×(Int×(Int×(Int×Unit))))):Option (Unit×(List α×Unit)):=
 (bif (eqI (qR .i64 x.2.2.1 x.2.1) 1)then(qaf (S:=((List α)×(Int×(Int×Unit)))) (R:=(Unit×((List α)×Unit))) N (fun ih0=>(fun p1=>(bif (ltI p1.2.1 p1.2.2.1)then(bif (leI 0 1)then(qW (qbI .i64 (qgY .u64 (qbI .u64 (qQ .i64 p1.2.1 p1.2.2.1)) 1)) (fun y2=>(bif (qx (x.1.2 p1.1 y2 x.2.1))then(qW (qi (x.1.2 p1.1 y2 x.2.1) false) (fun y3=>(ih0 (p1.1,((bif y3 then(qQ .i64 y2 1)else p1.2.1),((bif y3 then p1.2.2.1 else y2),()))))))else none)))else none)else(qaf (S:=((List α)×(Int×Unit))) (R:=(Unit×((List α)×Unit))) N (fun ih2=>(fun p3=>(bif (ltI p3.2.1 (qR .i64 p1.2.1 1))then(bif ((inB p3.2.1 (qs p3.1))&&(inB (qQ .i64 p3.2.1 1) (qs p3.1)))then(ih2 ((qmO p3.1 p3.2.1 (qQ .i64 p3.2.1 1)),((qQ .i64 p3.2.1 1),())))else none)else(some ((),(p3.1,())))))) (p1.1,(x.2.1,())))))) (x.1.1,(x.2.2.1,(x.2.2.2.1,()))))else(bif (eqI (qR .i64 x.2.2.2.1 x.2.2.1) 1)then(qaf (S:=((List α)×(Int×(Int×Unit)))) (R:=(Unit×((List α)×Unit))) N (fun ih0=>(fun p1=>(bif (ltI p1.2.1 p1.2.2.1)then(bif (leI 0 1)then(qW (qbI .i64 (qgY .u64 (qbI .u64 (qQ .i64 p1.2.1 p1.2.2.1)) 1)) (fun y2=>(bif (qx (x.1.2 p1.1 x.2.2.1 y2))then(ih0 (p1.1,((bif (!(qi (x.1.2 p1.1 x.2.2.1 y2) false))then(qQ .i64 y2 1)else p1.2.1),((bif (!(qi (x.1.2 p1.1 x.2.2.1 y2) false))then p1.2.2.1 else y2),()))))else none)))else none)else(qaf (S:=((List α)×(Int×Unit))) (R:=(Unit×((List α)×Unit))) N (fun ih2=>(fun p3=>(bif (ltI p1.2.1 p3.2.1)then(bif ((inB p3.2.1 (qs p3.1))&&(inB (qR .i64 p3.2.1 1) (qs p3.1)))then(ih2 ((qmO p3.1 p3.2.1 (qR .i64 p3.2.1 1)),((qR .i64 p3.2.1 1),())))else none)else(some ((),(p3.1,())))))) (p1.1,(x.2.2.1,())))))) (x.1.1,(x.2.1,(x.2.2.1,()))))else(bif (leI 0 1)then(qW (qbI .i64 (qgY .u64 (qbI .u64 (qQ .i64 x.2.1 x.2.2.2.1)) 1)) (fun y0=>(qW (qQ .i64 y0 x.2.2.1) (fun y1=>(qW (bif (ltI y0 x.2.2.1)then(qR .i64 y1 x.2.2.2.1)else x.2.1) (fun y2=>(qW (bif (ltI y0 x.2.2.1)then y0 else x.2.2.1) (fun y3=>(qaf (S:=((List α)×(Int×(Int×Unit)))) (R:=(Unit×((List α)×Unit))) N (fun ih4=>(fun p5=>(bif (ltI p5.2.1 p5.2.2.1)then(bif (leI 0 1)then(qW (qbI .i64 (qgY .u64 (qbI .u64 (qQ .i64 p5.2.1 p5.2.2.1)) 1)) (fun y6=>(bif (qx (x.1.2 p5.1 (qR .i64 (qR .i64 y1 1) y6) y6))then(ih4 (p5.1,((bif (!(qi (x.1.2 p5.1 (qR .i64 (qR .i64 y1 1) y6) y6) false))then(qQ .i64 y6 1)else p5.2.1),((bif (!(qi (x.1.2 p5.1 (qR .i64 (qR .i64 y1 1) y6) y6) false))then p5.2.2.1 else y6),()))))else none)))else none)else(qW (qR .i64 y1 p5.2.1) (fun y6=>(qW ((ltI p5.2.1 x.2.2.1)&&(ltI x.2.2.1 y6)) (fun y7=>(bif (bif y7 then(qx (qhv N ((p5.1,x.1.2),(p5.2.1,(x.2.2.1,(y6,()))))))else true)then(qW ((ltI x.2.1 p5.2.1)&&(ltI p5.2.1 y0)) (fun y8=>(bif (bif y8 then(qx (Fs (((bif y7 then(qi (qhv N ((p5.1,x.1.2),(p5.2.1,(x.2.2.1,(y6,()))))) ((),(([]:List α),()))).2.1 else p5.1),x.1.2),(x.2.1,(p5.2.1,(y0,()))))))else true)then(qW ((ltI y0 y6)&&(ltI y6 x.2.2.2.1)) (fun y9=>(bif (bif y9 then(qx (Fs (((bif y8 then(qi (Fs (((bif y7 then(qi (qhv N ((p5.1,x.1.2),(p5.2.1,(x.2.2.1,(y6,()))))) ((),(([]:List α),()))).2.1 else p5.1),x.1.2),(x.2.1,(p5.2.1,(y0,()))))) ((),(([]:List α),()))).2.1 else(bif y7 then(qi (qhv N ((p5.1,x.1.2),(p5.2.1,(x.2.2.1,(y6,()))))) ((),(([]:List α),()))).2.1 else p5.1)),x.1.2),(y0,(y6,(x.2.2.2.1,()))))))else true)then(some ((),((bif y9 then(qi (Fs (((bif y8 then(qi (Fs (((bif y7 then(qi (qhv N ((p5.1,x.1.2),(p5.2.1,(x.2.2.1,(y6,()))))) ((),(([]:List α),()))).2.1 else p5.1),x.1.2),(x.2.1,(p5.2.1,(y0,()))))) ((),(([]:List α),()))).2.1 else(bif y7 then(qi (qhv N ((p5.1,x.1.2),(p5.2.1,(x.2.2.1,(y6,()))))) ((),(([]:List α),()))).2.1 else p5.1)),x.1.2),(y0,(y6,(x.2.2.2.1,()))))) ((),(([]:List α),()))).2.1 else(bif y8 then(qi (Fs (((bif y7 then(qi (qhv N ((p5.1,x.1.2),(p5.2.1,(x.2.2.1,(y6,()))))) ((),(([]:List α),()))).2.1 else p5.1),x.1.2),(x.2.1,(p5.2.1,(y0,()))))) ((),(([]:List α),()))).2.1 else(bif y7 then(qi (qhv N ((p5.1,x.1.2),(p5.2.1,(x.2.2.1,(y6,()))))) ((),(([]:List α),()))).2.1 else p5.1))),())))else none)))else none)))else none)))))))) (x.1.1,(y2,(y3,()))))))))))))else none)))
def qkd {α:Type}(N M:Nat):((List α×(List α→Int→Int→Option Bool))×(Int×(Int×(Int×Unit))))→Option (Unit×(List α×Unit)):=
 Nat.rec (motive:=fun _=>((List α×(List α→Int→Int→Option Bool))×(Int×(Int×(Int×Unit))))→Option (Unit×(List α×Unit))) (fun _=>none) (fun _ Fs=>qpR N Fs) M
def qpc {α:Type}(N:Nat):((List α×(List α→Int→Int→Option Bool))×(Int×(Int×(Int×Unit))))→Option (Unit×(List α×Unit)):=qkd N N
def qnq {α:Type}(N:Nat) (x:((List α×(List α→Int→Int→Option Bool))×(Int×Unit))):Option (Unit×(List α×Unit)):=
 (qaf (S:=((List α)×(Int×(Int×Unit)))) (R:=(Unit×((List α)×Unit))) N (fun ih0=>(fun p1=>(bif (leI p1.2.2.1 x.2.1)then(bif (qx (qkR N ((p1.1,x.1.2),(p1.2.1,(p1.2.2.1,())))))then(qW p1.2.2.1 (fun y2=>(ih0 ((qi (qkR N ((p1.1,x.1.2),(p1.2.1,(p1.2.2.1,())))) ((),(([]:List α),()))).2.1,(y2,((qQ .i64 y2 20),()))))))else none)else(bif (qx (qkR N ((p1.1,x.1.2),(p1.2.1,(x.2.1,())))))then(qaf (S:=((List α)×(Int×Unit))) (R:=(Unit×((List α)×Unit))) N (fun ih2=>(fun p3=>(bif (ltI p3.2.1 x.2.1)then(qaf (S:=((List α)×(Int×(Int×Unit)))) (R:=(Unit×((List α)×Unit))) N (fun ih4=>(fun p5=>(bif (leI p5.2.2.1 x.2.1)then(bif (qx (qpc N ((p5.1,x.1.2),(p5.2.1,((qQ .i64 p5.2.1 p3.2.1),(p5.2.2.1,()))))))then(qW p5.2.2.1 (fun y6=>(ih4 ((qi (qpc N ((p5.1,x.1.2),(p5.2.1,((qQ .i64 p5.2.1 p3.2.1),(p5.2.2.1,()))))) ((),(([]:List α),()))).2.1,(y6,((qQ .i64 y6 (qj4 .i64 2 p3.2.1)),()))))))else none)else(qW (qQ .i64 p5.2.1 p3.2.1) (fun y6=>(bif (bif (ltI y6 x.2.1)then(qx (qpc N ((p5.1,x.1.2),(p5.2.1,(y6,(x.2.1,()))))))else true)then(ih2 ((bif (ltI y6 x.2.1)then(qi (qpc N ((p5.1,x.1.2),(p5.2.1,(y6,(x.2.1,()))))) ((),(([]:List α),()))).2.1 else p5.1),((qj4 .i64 p3.2.1 2),())))else none)))))) (p3.1,(0,((qj4 .i64 2 p3.2.1),()))))else(some ((),(p3.1,())))))) ((qi (qkR N ((p1.1,x.1.2),(p1.2.1,(x.2.1,())))) ((),(([]:List α),()))).2.1,(20,())))else none)))) (x.1.1,(0,(20,()))))
def qni {α:Type}(P:α→Prop) (n:Nat) (d:α) (φ:List α→Int→Int→Option Bool) (ψ:(α×(α×Unit))→Option (Int×Unit)):Prop:=
 ∀ys,Ck P n ys→∀i j:Int,0≤i→i<(n:Int)→0≤j→j<(n:Int)→∃e,φ ys i j=some (decide (e<0))∧ψ (qh ys i d,(qh ys j d,()))=some (e,())
section
variable {α:Type}{P:α→Prop}{n:Nat}(d:α) {φ:List α→Int→Int→Option Bool}{ψ:(α×(α×Unit))→Option (Int×Unit)}{N:Nat}
theorem qof {ys:List α}(h:Ck P n ys) {i j:Int}(i0:0≤i) (i1:i<(n:Int)) (j0:0≤j) (j1:j<(n:Int)):qmO ys i j=qbh (qbh ys i (qh ys j d)) j (qh ys i d):=by
 obtain⟨a,rfl⟩:∃a:Nat,i=(a:Int):=⟨i.toNat,by omega⟩;obtain⟨b,rfl⟩:∃b:Nat,j=(b:Int):=⟨j.toNat,by omega⟩;have ha:a<ys.length:=by rw[h.len];omega
 have hb:b<ys.length:=by rw[h.len];omega
 rw[qqA,qY d ha,qY d hb,qbL,qbL];simp only[zaJ,zaa ha,zaa hb]
theorem qpo (hφ:qni P n d φ ψ) (hn:n≤1099511627776) (hN:n+1<N) {ys:List α}(h:Ck P n ys) {a b:Int}(ha:0≤a) (ha2:a≤(n:Int)) (hb:b≤(n:Int)):Res P n (qkR N ((ys,φ),(a,(b,())))) (qgx d N (ys,(a,(b,(ψ,()))))):=by
 simp only[qkR,qgx];have ea:qQ .i64 a 1=a+1:=qay (by omega) (by omega);rw[ea];refine qcA (S:=List α×(Int×Unit)) (fun p=>(b-p.2.1).toNat) (fun p=>Ck P n p.1∧a+1≤p.2.1∧p.2.1≤(n:Int)+1) (Res P n) ?_ N _ ⟨h,by simp only;omega,by simp only;omega⟩ (by simp only;omega);rintro ih1 ih2 ⟨ys,i,⟨⟩⟩ ⟨h,hi,hi2⟩ hih;simp only at h hi hi2 hih⊢
 by_cases hc:i<b
 ·simp only[ltT hc,cond_true];refine qcA (S:=List α×(Int×Unit)) (fun p=>(p.2.1-a).toNat) (fun p=>Ck P n p.1∧a≤p.2.1∧p.2.1≤i) (Res P n) ?_ N _ ⟨h,by simp only;omega,by simp only;omega⟩ (by simp only;omega);rintro jh1 jh2 ⟨zs,j,⟨⟩⟩ ⟨hz,hj1,hj2⟩ hjh;simp only at hz hj1 hj2 hjh⊢
  have ei:qQ .i64 i 1=i+1:=qay (by omega) (by omega);by_cases hja:a<j
  ·have s1:qR .i64 j 1=j-1:=qas (by omega) (by omega);obtain⟨e,e1,e2⟩:=hφ zs hz j (j-1) (by omega) (by omega) (by omega) (by omega);have b1:=hz.inB (i:=j) (by omega) (by omega);have b2:=hz.inB (i:=j-1) (by omega) (by omega);have k1:=hz.set j (hz.get d (i:=j-1) (by omega) (by omega));have b3:=k1.inB (i:=j-1) (by omega) (by omega);have k2:=k1.set (j-1) (hz.get d (i:=j) (by omega) (by omega));have sw:=qof d hz (i:=j) (j:=j-1) (by omega) (by omega) (by omega) (by omega);simp only[ltT hja,s1,b1,b2,e1,e2,qg,qj,zaT,Bool.false_or,zak,cond_true,zbd,sw];by_cases hc0:e<0
   ·simp only[ltT hc0,decide_eq_true hc0,b3,cond_true];exact hjh _ ⟨k2,by simp only;omega,by simp only;omega⟩ (by simp only;omega)
   ·simp only[ltF hc0,decide_eq_false hc0,cond_false,ei];exact hih _ ⟨hz,by simp only;omega,by simp only;omega⟩ (by simp only;omega)
  ·simp only[ltF hja,zaY,Bool.true_or,zak,cond_true,za7,cond_false,ei];exact hih _ ⟨hz,by simp only;omega,by simp only;omega⟩ (by simp only;omega)
 ·simp only[ltF hc,cond_false];exact⟨ys,h,rfl,rfl⟩
theorem qlM (hn:n≤1099511627776) (hN:n+1<N) {ys:List α}(h:Ck P n ys) {a b m:Int}(ha:0≤a) (hb:0≤b) (hm:0≤m) (ha2:a+m≤(n:Int)) (hb2:b+m≤(n:Int)):Res P n (qk2 N ((ys,φ),(a,(b,(m,()))))) (qiD d N (ys,(a,(b,(m,(ψ,())))))):=by
 simp only[qk2,qiD];refine qcA (S:=List α×(Int×Unit)) (fun p=>(m-p.2.1).toNat) (fun p=>Ck P n p.1∧0≤p.2.1) (Res P n) ?_ N _ ⟨h,by simp only;omega⟩ (by simp only;omega);rintro ih1 ih2 ⟨ys,i,⟨⟩⟩ ⟨h,hi⟩ hih;simp only at h hi hih⊢
 by_cases hc:i<m
 ·have e1:qQ .i64 a i=a+i:=qay (by omega) (by omega);have e2:qQ .i64 b i=b+i:=qay (by omega) (by omega);have e3:qQ .i64 i 1=i+1:=qay (by omega) (by omega);have b1:=h.inB (i:=a+i) (by omega) (by omega);have b2:=h.inB (i:=b+i) (by omega) (by omega);have k1:=h.set (a+i) (h.get d (i:=b+i) (by omega) (by omega));have b3:=k1.inB (i:=b+i) (by omega) (by omega);have k2:=k1.set (b+i) (h.get d (i:=a+i) (by omega) (by omega));have sw:=qof d h (i:=a+i) (j:=b+i) (by omega) (by omega) (by omega) (by omega);simp only[ltT hc,e1,e2,e3,b1,b2,b3,zak,cond_true,sw];exact hih _ ⟨k2,by simp only;omega⟩ (by simp only;omega)
 ·simp only[ltF hc,cond_false];exact⟨ys,h,rfl,rfl⟩
theorem qtU (hn:n≤1099511627776) (hN:2*n+1<N) {ys:List α}(h:Ck P n ys) {a m b:Int}(ha:0≤a) (h1:a<m) (h2:m<b) (hb:b≤(n:Int)):Res P n (qhv N ((ys,φ),(a,(m,(b,()))))) (qfh d N (ys,(a,(m,(b,(ψ,())))))):=by
 have e1:qR .i64 m a=m-a:=qas (by omega) (by omega);have e2:qR .i64 b m=b-m:=qas (by omega) (by omega);simp only[qhv,qfh,qJ,e1,e2];refine qcA (S:=List α×(Int×(Int×Unit))) (fun p=>(p.2.1+p.2.2.1).toNat) (fun p=>Ck P n p.1∧1≤p.2.1∧p.2.1≤m-a∧1≤p.2.2.1∧p.2.2.1≤b-m) (Res P n) ?_ N _ ⟨h,by simp only;omega,by simp only;omega,by simp only;omega,by simp only;omega⟩ (by simp only;omega);rintro ih1 ih2 ⟨ys,i,j,⟨⟩⟩ ⟨h,hi,hi2,hj,hj2⟩ hih;simp only at h hi hi2 hj hj2 hih⊢
 have s1:qR .i64 m i=m-i:=qas (by omega) (by omega);by_cases hc:i=j
 ·obtain⟨out,k1,k2,k3⟩:=qlM (φ:=φ) (ψ:=ψ) d hn (by omega:n+1<N) h (a:=m-i) (b:=m) (m:=i) (by omega) (by omega) (by omega) (by omega) (by omega);simp only[neF hc,cond_false,s1,k2,k3,qg,qj,cond_true];exact⟨out,k1,rfl,rfl⟩
 ·have s2:qQ .i64 m j=m+j:=qay (by omega) (by omega);have s3:qR .i64 (m+j) i=m+j-i:=qas (by omega) (by omega);have s4:qR .i64 i j=i-j:=qas (by omega) (by omega);have s5:qR .i64 j i=j-i:=qas (by omega) (by omega);by_cases hq:j<i
  ·obtain⟨out,k1,k2,k3⟩:=qlM (φ:=φ) (ψ:=ψ) d hn (by omega:n+1<N) h (a:=m-i) (b:=m) (m:=j) (by omega) (by omega) (by omega) (by omega) (by omega);simp only[neT hc,ltT hq,cond_true,s1,s4,k2,k3,qg,qj];exact hih _ ⟨k1,by simp only;omega,by simp only;omega,by simp only;omega,by simp only;omega⟩ (by simp only;omega)
  ·obtain⟨out,k1,k2,k3⟩:=qlM (φ:=φ) (ψ:=ψ) d hn (by omega:n+1<N) h (a:=m-i) (b:=m+j-i) (m:=i) (by omega) (by omega) (by omega) (by omega) (by omega);simp only[neT hc,ltF hq,cond_true,cond_false,s1,s2,s3,s5,k2,k3,qg,qj];exact hih _ ⟨k1,by simp only;omega,by simp only;omega,by simp only;omega,by simp only;omega⟩ (by simp only;omega)
theorem qnI (hφ:qni P n d φ ψ) (hn:n≤1099511627776) (hN:2*n+1<N):∀(M:Nat) (ys:List α),Ck P n ys→∀(a m b:Int),0≤a→a<m→m<b→b≤(n:Int)→(b-a).toNat<M→Res P n (qkd N M ((ys,φ),(a,(m,(b,()))))) (qje d N M (ys,(a,(m,(b,(ψ,()))))))
 |0,_,_,_,_,_,_,_,_,_,h=>by omega
 |M+1,ys,h,a,m,b,ha,h1,h2,hb,hM=>by
  have ih:=qnI hφ hn hN M;have unf:qje d N (M+1) (ys,(a,(m,(b,(ψ,())))))=qma d N (qje d N M) (ys,(a,(m,(b,(ψ,()))))):=rfl;have unf2:qkd N (M+1) ((ys,φ),(a,(m,(b,()))))=qpR N (qkd N M) ((ys,φ),(a,(m,(b,())))):=rfl;rw[unf,unf2];have e1:qR .i64 m a=m-a:=qas (by omega) (by omega);have e2:qR .i64 b m=b-m:=qas (by omega) (by omega);have l01:leI 0 1=true:=leT (by omega);simp only[qpR,qma,qJ,e1,e2,l01,cond_true];by_cases q1:m-a=1
  ·simp only[eqT q1,cond_true];refine qcA (S:=List α×(Int×(Int×Unit))) (fun p=>(p.2.2.1-p.2.1).toNat) (fun p=>Ck P n p.1∧m≤p.2.1∧p.2.1≤b∧p.2.2.1≤b) (Res P n) ?_ N _ ⟨h,by simp only;omega,by simp only;omega,by simp only;omega⟩ (by simp only;omega);rintro ih1 ih2 ⟨ys,i,j,⟨⟩⟩ ⟨h,hi,hi2,hj⟩ hih;simp only at h hi hi2 hj hih⊢
   by_cases hc:i<j
   ·have em:=qjo (x:=i) (y:=j) (by omega) (by omega) (by omega);have em1:qQ .i64 ((i+j)/2) 1=(i+j)/2+1:=qay (by omega) (by omega);obtain⟨e,e3,e4⟩:=hφ ys h ((i+j)/2) a (by omega) (by omega) (by omega) (by omega);simp only[ltT hc,cond_true,em,em1,h.inB (i:=(i+j)/2) (by omega) (by omega),h.inB (i:=a) (by omega) (by omega),e3,e4,qg,qj,zak];by_cases hc0:e<0
    ·simp only[ltT hc0,decide_eq_true hc0,cond_true];exact hih _ ⟨h,by simp only;omega,by simp only;omega,by simp only;omega⟩ (by simp only;omega)
    ·simp only[ltF hc0,decide_eq_false hc0,cond_false];exact hih _ ⟨h,by simp only;omega,by simp only;omega,by simp only;omega⟩ (by simp only;omega)
   ·simp only[ltF hc,cond_false];have ei:qR .i64 i 1=i-1:=qas (by omega) (by omega);rw[ei];refine qcA (S:=List α×(Int×Unit)) (fun p=>(i-p.2.1).toNat) (fun p=>Ck P n p.1∧a≤p.2.1) (Res P n) ?_ N _ ⟨h,by simp only;omega⟩ (by simp only;omega);rintro jh1 jh2 ⟨zs,k,⟨⟩⟩ ⟨hz,hk⟩ hjh;simp only at hz hk hjh⊢
    by_cases hk2:k<i-1
    ·have s1:qQ .i64 k 1=k+1:=qay (by omega) (by omega);have k1:=hz.set k (hz.get d (i:=k+1) (by omega) (by omega));have k2:=k1.set (k+1) (hz.get d (i:=k) (by omega) (by omega));have sw:=qof d hz (i:=k) (j:=k+1) (by omega) (by omega) (by omega) (by omega);simp only[ltT hk2,s1,hz.inB (i:=k) (by omega) (by omega),hz.inB (i:=k+1) (by omega) (by omega),k1.inB (i:=k+1) (by omega) (by omega),zak,cond_true,sw];exact hjh _ ⟨k2,by simp only;omega⟩ (by simp only;omega)
    ·simp only[ltF hk2,cond_false];exact⟨zs,hz,rfl,rfl⟩
  simp only[eqF q1,cond_false];by_cases q2:b-m=1
  ·simp only[eqT q2,cond_true];refine qcA (S:=List α×(Int×(Int×Unit))) (fun p=>(p.2.2.1-p.2.1).toNat) (fun p=>Ck P n p.1∧a≤p.2.1∧p.2.1≤m∧p.2.2.1≤m) (Res P n) ?_ N _ ⟨h,by simp only;omega,by simp only;omega,by simp only;omega⟩ (by simp only;omega);rintro ih1 ih2 ⟨ys,i,j,⟨⟩⟩ ⟨h,hi,hi2,hj⟩ hih;simp only at h hi hi2 hj hih⊢
   by_cases hc:i<j
   ·have em:=qjo (x:=i) (y:=j) (by omega) (by omega) (by omega);have em1:qQ .i64 ((i+j)/2) 1=(i+j)/2+1:=qay (by omega) (by omega);obtain⟨e,e3,e4⟩:=hφ ys h m ((i+j)/2) (by omega) (by omega) (by omega) (by omega);simp only[ltT hc,cond_true,em,em1,h.inB (i:=(i+j)/2) (by omega) (by omega),h.inB (i:=m) (by omega) (by omega),e3,e4,qg,qj,zak];by_cases hc0:e<0
    ·simp only[ltT hc0,decide_eq_true hc0,zaT,cond_false];exact hih _ ⟨h,by simp only;omega,by simp only;omega,by simp only;omega⟩ (by simp only;omega)
    ·simp only[ltF hc0,decide_eq_false hc0,zaY,cond_true];exact hih _ ⟨h,by simp only;omega,by simp only;omega,by simp only;omega⟩ (by simp only;omega)
   ·simp only[ltF hc,cond_false];refine qcA (S:=List α×(Int×Unit)) (fun p=>(p.2.1-i).toNat) (fun p=>Ck P n p.1∧p.2.1≤m) (Res P n) ?_ N _ ⟨h,by simp only;omega⟩ (by simp only;omega);rintro jh1 jh2 ⟨zs,k,⟨⟩⟩ ⟨hz,hk⟩ hjh;simp only at hz hk hjh⊢
    by_cases hk2:i<k
    ·have s1:qR .i64 k 1=k-1:=qas (by omega) (by omega);have k1:=hz.set k (hz.get d (i:=k-1) (by omega) (by omega));have k2:=k1.set (k-1) (hz.get d (i:=k) (by omega) (by omega));have sw:=qof d hz (i:=k) (j:=k-1) (by omega) (by omega) (by omega) (by omega);simp only[ltT hk2,s1,hz.inB (i:=k) (by omega) (by omega),hz.inB (i:=k-1) (by omega) (by omega),k1.inB (i:=k-1) (by omega) (by omega),zak,cond_true,sw];exact hjh _ ⟨k2,by simp only;omega⟩ (by simp only;omega)
    ·simp only[ltF hk2,cond_false];exact⟨zs,hz,rfl,rfl⟩
  simp only[eqF q2,cond_false];have em:=qjo (x:=a) (y:=b) (by omega) (by omega) (by omega);rw[em];generalize hmid:(a+b)/2=mid;have hm1:a<mid:=by omega
  have hm2:mid<b:=by omega
  have en:qQ .i64 mid m=mid+m:=qay (by omega) (by omega);have en2:qR .i64 (mid+m) b=mid+m-b:=qas (by omega) (by omega);have en3:qR .i64 (mid+m) 1=mid+m-1:=qas (by omega) (by omega);simp only[en,en2,en3];obtain⟨st,r,hst,hr,g1,g2,g3,g4⟩:∃st r:Int,(bif ltI mid m then mid+m-b else a)=st∧(bif ltI mid m then mid else m)=r∧a≤st∧st≤r∧r≤mid∧r≤m∧mid+m-st≤b:=by
   by_cases hq:mid<m
   ·exact⟨_,_,rfl,rfl,by rw[ltT hq];simp only[cond_true];omega⟩
   ·exact⟨_,_,rfl,rfl,by rw[ltF hq];simp only[cond_false];omega⟩
  obtain⟨g4,g5⟩:=g4;simp only[hst,hr];refine qcA (S:=List α×(Int×(Int×Unit))) (fun p=>(p.2.2.1-p.2.1).toNat) (fun p=>Ck P n p.1∧st≤p.2.1∧p.2.1≤r∧p.2.2.1≤r) (Res P n) ?_ N _ ⟨h,by simp only;omega,by simp only;omega,by simp only;omega⟩ (by simp only;omega);rintro ih1 ih2 ⟨ys,i,j,⟨⟩⟩ ⟨h,hi,hi2,hj⟩ hih;simp only at h hi hi2 hj hih⊢
  by_cases hc:i<j
  ·have em:=qjo (x:=i) (y:=j) (by omega) (by omega) (by omega);have em1:qQ .i64 ((i+j)/2) 1=(i+j)/2+1:=qay (by omega) (by omega);have em2:qR .i64 (mid+m-1) ((i+j)/2)=mid+m-1-(i+j)/2:=qas (by omega) (by omega);obtain⟨e,e3,e4⟩:=hφ ys h (mid+m-1-(i+j)/2) ((i+j)/2) (by omega) (by omega) (by omega) (by omega);simp only[ltT hc,cond_true,em,em1,em2,h.inB (i:=mid+m-1-(i+j)/2) (by omega) (by omega),h.inB (i:=(i+j)/2) (by omega) (by omega),e3,e4,qg,qj,zak];by_cases hc0:e<0
   ·simp only[ltT hc0,decide_eq_true hc0,zaT,cond_false];exact hih _ ⟨h,by simp only;omega,by simp only;omega,by simp only;omega⟩ (by simp only;omega)
   ·simp only[ltF hc0,decide_eq_false hc0,zaY,cond_true];exact hih _ ⟨h,by simp only;omega,by simp only;omega,by simp only;omega⟩ (by simp only;omega)
  ·have ee:qR .i64 (mid+m) i=mid+m-i:=qas (by omega) (by omega);simp only[ltF hc,cond_false,ee];obtain⟨zs,z1,z2,z3,z4⟩:∃zs,Ck P n zs∧(bif (ltI i m&&ltI m (mid+m-i))then qx (qhv N ((ys,φ),(i,(m,(mid+m-i,())))))else true)=true∧(bif (ltI i m&&ltI m (mid+m-i))then qx (qfh d N (ys,(i,(m,(mid+m-i,(ψ,()))))))else true)=true∧(bif (ltI i m&&ltI m (mid+m-i))then(qi (qhv N ((ys,φ),(i,(m,(mid+m-i,()))))) ((),(([]:List α),()))).2.1 else ys)=zs∧(bif (ltI i m&&ltI m (mid+m-i))then(qi (qfh d N (ys,(i,(m,(mid+m-i,(ψ,())))))) ((),(([]:List α),()))).2.1 else ys)=zs:=by
    by_cases hq:i<m∧m<mid+m-i
    ·obtain⟨out,k1,k2,k3⟩:=qtU (φ:=φ) (ψ:=ψ) d hn hN h (a:=i) (m:=m) (b:=mid+m-i) (by omega) hq.1 hq.2 (by omega);exact⟨out,k1,by simp only[ltT hq.1,ltT hq.2,zak,cond_true,k2,k3,qg,qj,and_self]⟩
    ·have e:(ltI i m&&ltI m (mid+m-i))=false:=by
      by_cases hq1:i<m
      ·rw[ltF (fun hq2=>hq ⟨hq1,hq2⟩),Bool.and_false]
      ·rw[ltF hq1,za7]
     exact⟨ys,h,by simp only[e,cond_false,and_self]⟩
   obtain⟨z4,z5⟩:=z4;simp only[z2,z3,z4,z5,cond_true];obtain⟨ws,w1,w2,w3,w4,w5⟩:∃ws,Ck P n ws∧(bif (ltI a i&&ltI i mid)then qx (qkd N M ((zs,φ),(a,(i,(mid,())))))else true)=true∧(bif (ltI a i&&ltI i mid)then qx (qje d N M (zs,(a,(i,(mid,(ψ,()))))))else true)=true∧(bif (ltI a i&&ltI i mid)then(qi (qkd N M ((zs,φ),(a,(i,(mid,()))))) ((),(([]:List α),()))).2.1 else zs)=ws∧(bif (ltI a i&&ltI i mid)then(qi (qje d N M (zs,(a,(i,(mid,(ψ,())))))) ((),(([]:List α),()))).2.1 else zs)=ws:=by
    by_cases hq:a<i∧i<mid
    ·obtain⟨out,k1,k2,k3⟩:=ih zs z1 a i mid ha hq.1 hq.2 (by omega) (by omega);exact⟨out,k1,by simp only[ltT hq.1,ltT hq.2,zak,cond_true,k2,k3,qg,qj,and_self]⟩
    ·have e:(ltI a i&&ltI i mid)=false:=by
      by_cases hq1:a<i
      ·rw[ltF (fun hq2=>hq ⟨hq1,hq2⟩),Bool.and_false]
      ·rw[ltF hq1,za7]
     exact⟨zs,z1,by simp only[e,cond_false,and_self]⟩
   simp only[w2,w3,w4,w5,cond_true];by_cases hq:mid<mid+m-i∧mid+m-i<b
   ·obtain⟨out,k1,k2,k3⟩:=ih ws w1 mid (mid+m-i) b (by omega) hq.1 hq.2 hb (by omega);simp only[ltT hq.1,ltT hq.2,zak,cond_true,k2,k3,qg,qj];exact⟨out,k1,rfl,rfl⟩
   ·have e:(ltI mid (mid+m-i)&&ltI (mid+m-i) b)=false:=by
     by_cases hq1:mid<mid+m-i
     ·rw[ltF (fun hq2=>hq ⟨hq1,hq2⟩),Bool.and_false]
     ·rw[ltF hq1,za7]
    simp only[e,cond_false,cond_true];exact⟨ws,w1,rfl,rfl⟩
theorem qps (hφ:qni P n d φ ψ) (hn:n≤1099511627776) (hN:2*n+1<N) {ys:List α}(h:Ck P n ys) {a m b:Int}(ha:0≤a) (h1:a<m) (h2:m<b) (hb:b≤(n:Int)):Res P n (qpc N ((ys,φ),(a,(m,(b,()))))) (qlV d N (ys,(a,(m,(b,(ψ,())))))):=
 qnI d hφ hn hN N ys h a m b ha h1 h2 hb (by omega)
theorem qtk (hφ:qni P n d φ ψ) (hn:n≤1099511627776) (hN:2*n+100<N) {ys:List α}(h:Ck P n ys):Res P n (qnq N ((ys,φ),((n:Int),()))) (qq7 d N (ys,((n:Int),(ψ,())))):=by
 simp only[qnq,qq7,qJ];refine qcA (S:=List α×(Int×(Int×Unit))) (fun p=>((n:Int)+20-p.2.2.1).toNat) (fun p=>Ck P n p.1∧0≤p.2.1∧p.2.1≤(n:Int)∧p.2.2.1=p.2.1+20) (Res P n) ?_ N _ ⟨h,by simp only;omega,by simp only;omega,by simp only;omega⟩ (by simp only;omega);rintro ih1 ih2 ⟨ys,a,b,⟨⟩⟩ ⟨h,ha,ha2,hb⟩ hih;simp only at h ha ha2 hb hih⊢
 by_cases hc:b≤(n:Int)
 ·obtain⟨out,k1,k2,k3⟩:=qpo d hφ hn (by omega:n+1<N) h ha ha2 hc;have e1:qQ .i64 b 20=b+20:=qay (by omega) (by omega);simp only[leT hc,cond_true,k2,k3,qg,qj,e1];exact hih _ ⟨k1,by simp only;omega,by simp only;omega,by simp only⟩ (by simp only;omega)
 ·obtain⟨out,k1,k2,k3⟩:=qpo d hφ hn (by omega:n+1<N) h ha ha2 (za9 (n:Int));simp only[leF hc,cond_false,k2,k3,qg,qj,cond_true];refine qcA (S:=List α×(Int×Unit)) (fun p=>((n:Int)-p.2.1).toNat) (fun p=>Ck P n p.1∧1≤p.2.1∧p.2.1≤2*(n:Int)+20) (Res P n) ?_ N _ ⟨k1,by simp only;omega,by simp only;omega⟩ (by simp only;omega);rintro jh1 jh2 ⟨ys,s,⟨⟩⟩ ⟨h,hs,hs2⟩ hjh;simp only at h hs hs2 hjh⊢
  by_cases hsn:s<(n:Int)
  ·have e1:qj4 .i64 2 s=2*s:=by rw[qer,qfe (by omega) (by omega)]
   have e2:qj4 .i64 s 2=2*s:=by rw[qer,qfe (by omega) (by omega)];omega
   simp only[ltT hsn,cond_true,e1,e2];refine qcA (S:=List α×(Int×(Int×Unit))) (fun p=>((n:Int)+2*s-p.2.2.1).toNat) (fun p=>Ck P n p.1∧0≤p.2.1∧p.2.1≤(n:Int)∧p.2.2.1=p.2.1+2*s) (Res P n) ?_ N _ ⟨h,by simp only;omega,by simp only;omega,by simp only;omega⟩ (by simp only;omega);rintro kh1 kh2 ⟨ys,a,b,⟨⟩⟩ ⟨h,ha,ha2,hb⟩ hkh;simp only at h ha ha2 hb hkh⊢
   have e3:qQ .i64 a s=a+s:=qay (by omega) (by omega);by_cases hc:b≤(n:Int)
   ·obtain⟨out,k1,k2,k3⟩:=qps d hφ hn (by omega:2*n+1<N) h (a:=a) (m:=a+s) (b:=b) ha (by omega) (by omega) hc;have e4:qQ .i64 b (2*s)=b+2*s:=qay (by omega) (by omega);simp only[leT hc,cond_true,e3,k2,k3,qg,qj,e4];exact hkh _ ⟨k1,by simp only;omega,by simp only;omega,by simp only⟩ (by simp only;omega)
   ·simp only[leF hc,cond_false,e3];by_cases hq:a+s<(n:Int)
    ·obtain⟨out,k1,k2,k3⟩:=qps d hφ hn (by omega:2*n+1<N) h (a:=a) (m:=a+s) (b:=(n:Int)) ha (by omega) hq (za9 _);simp only[ltT hq,cond_true,k2,k3,qg,qj];exact hjh _ ⟨k1,by simp only;omega,by simp only;omega⟩ (by simp only;omega)
    ·simp only[ltF hq,cond_false,cond_true];exact hjh _ ⟨h,by simp only;omega,by simp only;omega⟩ (by simp only;omega)
  ·simp only[ltF hsn,cond_false];exact⟨ys,h,rfl,rfl⟩
theorem qrt {le:α→α→Prop}(hφ:qni P n d φ ψ) (hψ:Cmp P ψ le) (hn:n≤1099511627776) (hN:2*n+100<N) {ys:List α}(h:Ck P n ys):qjq P d n le 0 (n:Int) ys (qnq N ((ys,φ),((n:Int),()))):=by
 obtain⟨out,k1,k2,k3⟩:=qtk d hφ hn hN h;obtain⟨out2,j1,j2⟩:=qrT d hψ hn hN h;rw[k3]at j1;injection j1 with j1;simp only[zbh.injEq,true_and,and_true]at j1;subst j1;exact⟨out,k2,j2⟩
end
end
end Go.Vi
