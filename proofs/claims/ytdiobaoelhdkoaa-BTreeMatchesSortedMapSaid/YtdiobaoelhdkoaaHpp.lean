/- Functions over pools, side P: what they compute, and that they do. -/
import Derived.Test.YtdiobaoelhdkoaaFns
import Derived.Test.YtdiobaoelhdkoaaHss
import Derived.Test.YtdiobaoelhdkoaaInsRow
import Derived.Test.YtdiobaoelhdkoaaInsnode
import Derived.Test.YtdiobaoelhdkoaaInsEntry
set_option linter.unusedVariables false
set_option linter.unusedSimpArgs false
set_option linter.unnecessarySimpa false
set_option linter.unusedSectionVars false
set_option maxRecDepth 100000
set_option maxHeartbeats 0
namespace Go.Proofs.Ytdiobaoelhdkoaa
open Go.Vi
abbrev EP0:Type:=(Int×((Int×Int)×(Int×Unit)))
abbrev EP3:Type:=(List qi)
abbrev EP1:Type:=((Int×(Int×Int))×((Int×(Int×Int))×((Int×(Int×Int))×Unit)))
abbrev HpP:Type:=((List (Option (List EP0)))×((List (Option (List EP1)))×((List (Option (List qA)))×((List (Option (List EP3)))×((List (Option (List (Int×Int))))×((List (Option (List (Int×(Int×Int)))))×((List (Option (List Int)))×((List (Option (List (Int×(Int×Int)))))×((List (Option (List (Int×Int))))×Unit)))))))))
abbrev zP1:EP1:=(((-1),(0,0)),(((-1),(0,0)),(((-1),(0,0)),())))
abbrev zP2:qA:=(([]:List qi),(0,()))
abbrev zP3:EP3:=([]:List qi)
abbrev zP0:EP0:=(0,(((-1),0),(0,())))
abbrev bfP (c:Bool) (a b:HpP):HpP:=(bif c then a.1 else b.1,bif c then a.2.1 else b.2.1,bif c then a.2.2.1 else b.2.2.1,bif c then a.2.2.2.1 else b.2.2.2.1,bif c then a.2.2.2.2.1 else b.2.2.2.2.1,bif c then a.2.2.2.2.2.1 else b.2.2.2.2.2.1,bif c then a.2.2.2.2.2.2.1 else b.2.2.2.2.2.2.1,bif c then a.2.2.2.2.2.2.2.1 else b.2.2.2.2.2.2.2.1,bif c then a.2.2.2.2.2.2.2.2.1 else b.2.2.2.2.2.2.2.2.1,())
def HpP.q0 (p:HpP):List (Option (List EP0)):=p.1
def HpP.u0 (p:HpP) (v:List (Option (List EP0))):HpP:=(v,p.2)
def HpP.q1 (p:HpP):List (Option (List EP1)):=p.2.1
def HpP.u1 (p:HpP) (v:List (Option (List EP1))):HpP:=(p.1,v,p.2.2)
def HpP.q2 (p:HpP):List (Option (List qA)):=p.2.2.1
def HpP.u2 (p:HpP) (v:List (Option (List qA))):HpP:=(p.1,p.2.1,v,p.2.2.2)
def HpP.q3 (p:HpP):List (Option (List EP3)):=p.2.2.2.1
def HpP.u3 (p:HpP) (v:List (Option (List EP3))):HpP:=(p.1,p.2.1,p.2.2.1,v,p.2.2.2.2)
def HpP.q4 (p:HpP):List (Option (List (Int×Int))):=p.2.2.2.2.1
def HpP.u4 (p:HpP) (v:List (Option (List (Int×Int)))):HpP:=(p.1,p.2.1,p.2.2.1,p.2.2.2.1,v,p.2.2.2.2.2)
def HpP.q5 (p:HpP):List (Option (List (Int×(Int×Int)))):=p.2.2.2.2.2.1
def HpP.u5 (p:HpP) (v:List (Option (List (Int×(Int×Int))))):HpP:=(p.1,p.2.1,p.2.2.1,p.2.2.2.1,p.2.2.2.2.1,v,p.2.2.2.2.2.2)
def HpP.q6 (p:HpP):List (Option (List Int)):=p.2.2.2.2.2.2.1
def HpP.u6 (p:HpP) (v:List (Option (List Int))):HpP:=(p.1,p.2.1,p.2.2.1,p.2.2.2.1,p.2.2.2.2.1,p.2.2.2.2.2.1,v,p.2.2.2.2.2.2.2)
def HpP.q7 (p:HpP):List (Option (List (Int×(Int×Int)))):=p.2.2.2.2.2.2.2.1
def HpP.u7 (p:HpP) (v:List (Option (List (Int×(Int×Int))))):HpP:=(p.1,p.2.1,p.2.2.1,p.2.2.2.1,p.2.2.2.2.1,p.2.2.2.2.2.1,p.2.2.2.2.2.2.1,v,p.2.2.2.2.2.2.2.2)
def HpP.q8 (p:HpP):List (Option (List (Int×Int))):=p.2.2.2.2.2.2.2.2.1
def HpP.u8 (p:HpP) (v:List (Option (List (Int×Int)))):HpP:=(p.1,p.2.1,p.2.2.1,p.2.2.2.1,p.2.2.2.2.1,p.2.2.2.2.2.1,p.2.2.2.2.2.2.1,p.2.2.2.2.2.2.2.1,v,p.2.2.2.2.2.2.2.2.2)
noncomputable def HpP.g0 (p:HpP) (i j:Int):EP0:=qJ (qy (qN p.q0 i) ([]:List EP0)) j zP0
noncomputable def HpP.s0 (p:HpP) (i:Int):Bool:=qp (qN p.q0 i)
noncomputable def HpP.w0 (p:HpP) (i j:Int) (v:EP0):HpP:=p.u0 (qdD p.q0 i (qdz (qy (qN p.q0 i) ([]:List EP0)) j v))
noncomputable def HpP.a0 (p:HpP) (r:List EP0):HpP:=p.u0 (qdc p.q0 r)
noncomputable def HpP.g1 (p:HpP) (i j:Int):EP1:=qJ (qy (qN p.q1 i) ([]:List EP1)) j zP1
noncomputable def HpP.s1 (p:HpP) (i:Int):Bool:=qp (qN p.q1 i)
noncomputable def HpP.w1 (p:HpP) (i j:Int) (v:EP1):HpP:=p.u1 (qdD p.q1 i (qdz (qy (qN p.q1 i) ([]:List EP1)) j v))
noncomputable def HpP.a1 (p:HpP) (r:List EP1):HpP:=p.u1 (qdc p.q1 r)
noncomputable def HpP.g2 (p:HpP) (i j:Int):qA:=qJ (qy (qN p.q2 i) ([]:List qA)) j zP2
noncomputable def HpP.s2 (p:HpP) (i:Int):Bool:=qp (qN p.q2 i)
noncomputable def HpP.w2 (p:HpP) (i j:Int) (v:qA):HpP:=p.u2 (qdD p.q2 i (qdz (qy (qN p.q2 i) ([]:List qA)) j v))
noncomputable def HpP.a2 (p:HpP) (r:List qA):HpP:=p.u2 (qdc p.q2 r)
noncomputable def HpP.g3 (p:HpP) (i j:Int):EP3:=qJ (qy (qN p.q3 i) ([]:List EP3)) j zP3
noncomputable def HpP.s3 (p:HpP) (i:Int):Bool:=qp (qN p.q3 i)
noncomputable def HpP.a3 (p:HpP) (r:List EP3):HpP:=p.u3 (qdc p.q3 r)
noncomputable def HpP.g4 (p:HpP) (i j:Int):(Int×Int):=qJ (qy (qN p.q4 i) ([]:List (Int×Int))) j ((-1),0)
noncomputable def HpP.s4 (p:HpP) (i:Int):Bool:=qp (qN p.q4 i)
noncomputable def HpP.a4 (p:HpP) (r:List (Int×Int)):HpP:=p.u4 (qdc p.q4 r)
noncomputable def HpP.g5 (p:HpP) (i j:Int):(Int×(Int×Int)):=qJ (qy (qN p.q5 i) ([]:List (Int×(Int×Int)))) j ((-1),(0,0))
noncomputable def HpP.s5 (p:HpP) (i:Int):Bool:=qp (qN p.q5 i)
noncomputable def HpP.a5 (p:HpP) (r:List (Int×(Int×Int))):HpP:=p.u5 (qdc p.q5 r)
noncomputable def HpP.g6 (p:HpP) (i j:Int):Int:=qJ (qy (qN p.q6 i) ([]:List Int)) j 0
noncomputable def HpP.s6 (p:HpP) (i:Int):Bool:=qp (qN p.q6 i)
noncomputable def HpP.g7 (p:HpP) (i j:Int):(Int×(Int×Int)):=qJ (qy (qN p.q7 i) ([]:List (Int×(Int×Int)))) j ((-1),(0,0))
noncomputable def HpP.s7 (p:HpP) (i:Int):Bool:=qp (qN p.q7 i)
noncomputable def HpP.a7 (p:HpP) (r:List (Int×(Int×Int))):HpP:=p.u7 (qdc p.q7 r)
noncomputable def HpP.g8 (p:HpP) (i j:Int):(Int×Int):=qJ (qy (qN p.q8 i) ([]:List (Int×Int))) j ((-1),0)
noncomputable def HpP.s8 (p:HpP) (i:Int):Bool:=qp (qN p.q8 i)
noncomputable def HpP.a8 (p:HpP) (r:List (Int×Int)):HpP:=p.u8 (qdc p.q8 r)
@[reducible] def ksP:List (Nat×Nat×Ty):=[(0,54,(.pair (.int .i64) (.pair (.ptr 1 3) (.pair (.int .i64) .unit)))),(1,52,(.pair (.sl 2 2) (.pair (.sl 3 1) (.pair (.sl 4 1) .unit)))),(2,45,qz),(3,24,(.slice ql)),(4,48,(.ptr 1 3)),(5,29,(.sl 2 2)),(6,3,(.int .i64)),(7,31,(.sl 2 2)),(8,35,(.ptr 7 1))]
def htyP:List (Nat×Ty):=[(3,(.int .i64)),(24,(.slice ql)),(25,(.ptr 0 3)),(29,(.sl 2 2)),(31,(.sl 2 2)),(35,(.ptr 7 1)),(45,qz),(48,(.ptr 1 3)),(49,(.sl 3 1)),(50,(.sl 4 1)),(52,(.pair (.sl 2 2) (.pair (.sl 3 1) (.pair (.sl 4 1) .unit)))),(54,(.pair (.int .i64) (.pair (.ptr 1 3) (.pair (.int .i64) .unit))))]
theorem qpi (fs:List (Nat×qH)):htyP.all (hiOk Try.prog (Env.tab qrf fs))=true:=by kernel_rfl
abbrev OkP (f:Nat) (ms:List HM) (rs:List Ty) (sem:hden ksP→HMs.den ksP ms→Option (hden ksP×denL rs)):Prop:=qaX.okT Try.prog (fun _=>none) f ⟨ksP,ms,rs,sem⟩
theorem kpP {fs:List (Nat×qH)}(hF:qdr (Env.tab qrf fs) Try.prog) (hs:Nat) (ob:List (Nat×Nat)) (xs:List Nat) {hfs:List (Nat×qaX)}(hH:HOk Try.prog (fun _=>none) hfs) (N:Nat) (anns:qog) {f:Nat}{fn:Func}(hf:Try.prog.funcs[f]? =some fn) (hb:fn.body.isSome=true) (hn:(fn.name== "runtime.NumGoroutine")=false) {ms:List HM}{rs:List Ty}{sem:hden ksP→HMs.den ksP ms→Option (hden ksP×denL rs)}(hrun:∀p x,runH (Env.hp (Env.tab qrf fs) ksP hs htyP ob xs hfs) N anns fn ksP ms rs p x=sem p x):OkP f ms rs sem:=quA (qrT (qiD qnj _) (qpi _)) hF hH hf hb hn hrun
theorem klP {fs:List (Nat×qH)}(hF:qdr (Env.tab qrf fs) Try.prog) (hs:Nat) (ob:List (Nat×Nat)) (xs:List Nat) {hfs:List (Nat×qaX)}(hH:HOk Try.prog (fun _=>none) hfs) (N:Nat) (anns:qog) {f:Nat}{fn:Func}(hf:Try.prog.funcs[f]? =some fn) (hb:fn.body.isSome=true) (hn:(fn.name== "runtime.NumGoroutine")=false) {ms:List HM}{rs:List Ty}{sem:hden ksP→HMs.den ksP ms→Option (hden ksP×denL rs)}(hrun:∀p x,runH ((Env.hp (Env.tab qrf fs) ksP hs htyP ob xs hfs).withLs (101,80,97)) N anns fn ksP ms rs p x=sem p x):OkP f ms rs sem:=quA (qad.withLs (qrT (qiD qnj _) (qpi _)) (by kernel_rfl)) hF hH hf hb hn hrun
theorem ktP {fs:List (Nat×qH)}(hF:qdr (Env.tab qrf fs) Try.prog) (hs:Nat) (ob:List (Nat×Nat)) (xs:List Nat) {hfs:List (Nat×qaX)}(hH:HOk Try.prog (fun _=>none) hfs) (N:Nat) (anns:qog) {f:Nat}{fn:Func}(hf:Try.prog.funcs[f]? =some fn) (hb:fn.body.isSome=true) (hn:(fn.name== "runtime.NumGoroutine")=false) {ts us:List Ty}{F:denL ts→Option (denL us)}(hrun:∀x,Go.Vi.runT (Env.hp (Env.tab qrf fs) ksP hs htyP ob xs hfs) N anns fn ksP ts us x=F x):Ok f ⟨valPs ts,valRs us,semT ts us F⟩:=keepsT (qrT (qiD qnj _) (qpi _)) hF hH hf hb hn (by decide:((ksP:List (Nat×Nat×Ty)).map (·.1)).Nodup) hrun
noncomputable def qaZ (N:Nat) (p:HpP) (x:(Int×Unit)):Option (HpP×((Int×Int)×(Int×Unit))):=
 (qT ((ltI x.1 3)||(ltI 16 x.1)) (fun y0=>(bif y0 then(some (p,(((-1),0),(1,()))))else(some (((p.a0 ([(x.1,(((qn p.q1),0),(0,())))]:List EP0)).u1 (qdc p.q1 ([zP1]:List EP1))),(((qn p.q0),0),(0,())))))))
theorem qmS (N:Nat):OkP 4 [.v (.int .i64)] [(.ptr 0 3),(.int .i64)] (qaZ N):=kpP nl 1 [(12,1),(14,0)] [] HOk.nil N ⟨[],[(1000002,[9])],[]⟩ Try.func4 (by kernel_rfl) (by kernel_rfl) (fun p x=>by kernel_rfl)
noncomputable def qr (N:Nat) (p:HpP) (x:((Int×Int)×Unit)):Option (HpP×(Bool×Unit)):=
 (bif ((leI 0 x.1.1)&&((leI 0 x.1.1)&&(p.s1 x.1.1)))then(some (p,((eqI (qaS (p.g1 x.1.1 x.1.2).2.2.1.2.2 (p.g1 x.1.1 x.1.2).2.2.1.2.1) 0),())))else none)
theorem qbE (N:Nat):OkP 30 [.v (.ptr 1 3)] [.bool] (qr N):=kpP nl 1 [] [] HOk.nil N ⟨[],[],[]⟩ Try.func30 (by kernel_rfl) (by kernel_rfl) (fun p x=>by kernel_rfl)
noncomputable def qbr (N:Nat) (p:HpP) (x:((Int×Int)×(EP3×Unit))):Option (HpP×(Int×(Bool×Unit))):=
 let c0:=(qfS (qR ksP p) (.slice qz) (.sl 2 2) (p.g1 x.1.1 x.1.2).1)
 let c1:=(qbc N ((qy c0 ([]:List (EP3×(Int×Unit)))),(x.2.1,((fun x0=>(qkj (fun y1=>y1.1) (qcX N x0))),()))))
 (bif ((leI 0 x.1.1)&&((leI 0 x.1.1)&&((p.s1 x.1.1)&&((qp c0)&&(qp c1)))))then(some (p,(qy c1 ((0,(false,())),())).1))else none)
theorem qdK (N:Nat):OkP 31 [.v (.ptr 1 3),.v (.slice ql)] [(.int .i64),.bool] (qbr N):=kpP (cn (qdy N) (cn (qjG N) nl)) 2 [] [] HOk.nil N ⟨[],[],[]⟩ Try.func31 (by kernel_rfl) (by kernel_rfl) (fun p x=>by kernel_rfl)
noncomputable def qbg (N:Nat) (p:HpP) (x:((Int×Int)×(EP3×Unit))):Option (HpP×(Int×Unit)):=
 let c0:=(qfS (qR ksP p) (.slice (.slice ql)) (.sl 3 1) (p.g1 x.1.1 x.1.2).2.1)
 let c1:=(qy c0 ([]:List EP3))
 (bif ((leI 0 x.1.1)&&((leI 0 x.1.1)&&((p.s1 x.1.1)&&((qp c0)&&(qp (qU N (c1,(x.2.1,((fun x0=>(qkj (fun y1=>y1.1) (qY N x0))),())))))))))then(qT x.2.1 (fun y0=>(qT (qy (qU N (c1,(x.2.1,((fun x1=>(qkj (fun y2=>y2.1) (qY N x1))),())))) ((0,(false,())),())).1.1 (fun y1=>(qT (qy (qU N (c1,(x.2.1,((fun x2=>(qkj (fun y3=>y3.1) (qY N x2))),())))) ((0,(false,())),())).1.2.1 (fun y2=>(qT (bif y2 then(qaj .i64 y1 1)else y1) (fun y3=>(some (p,(y3,())))))))))))else none)
theorem qcp (N:Nat):OkP 32 [.v (.ptr 1 3),.v (.slice ql)] [(.int .i64)] (qbg N):=kpP (cn (qdf N) (cn (qc9 N) nl)) 2 [] [] HOk.nil N ⟨[],[(2,[1,5,6]),(4,[5])],[]⟩ Try.func32 (by kernel_rfl) (by kernel_rfl) (fun p x=>by kernel_rfl)
noncomputable def qbw (N:Nat) (M:Nat):HpP→((Int×Int)×(EP3×((HpP→((EP3×(Int×Unit))×Unit)→Option (HpP×(Bool×Unit)))×Unit)))→Option (HpP×(Bool×Unit)):=
 Nat.rec (motive:=fun _=>HpP→((Int×Int)×(EP3×((HpP→((EP3×(Int×Unit))×Unit)→Option (HpP×(Bool×Unit)))×Unit)))→Option (HpP×(Bool×Unit))) (fun _ _=>none) (fun _ g_=>fun p x=>
 let c0:=(qy (qr N p (x.1,())) (p,(false,())))
 (bif (qp (qr N p (x.1,())))then(qT x.1 (fun y0=>(qT c0.2.1 (fun y1=>(bif y1 then(qbl 290 c0.1 (fun h2=>let c1:=(qbr N h2 (y0,(x.2.1,())))
 let c2:=(qy c1 (h2,(0,(false,()))))
 (bif (qp c1)then(qT y0 (fun y3=>(qT x.2.1 (fun y4=>(qT c2.2.1 (fun y5=>(qbl 390 c2.1 (fun h6=>let c3:=(qaS (h6.g1 y3.1 y3.2).1.2.2 (h6.g1 y3.1 y3.2).1.2.1)
 let c4:=(qaS (qX (h6.g1 y3.1 y3.2).1.2.1 c3) (qX (h6.g1 y3.1 y3.2).1.2.1 y5))
 (bif ((leI 0 y3.1)&&((leI 0 y3.1)&&((h6.s1 y3.1)&&(inS y5 c3 c3))))then(qaE (S:=(HpP×(Int×Unit))) (R:=(HpP×(Bool×Unit))) N (fun ih7=>(fun s1=>let c5:=(x.2.2.1 s1.1 ((s1.1.g2 (h6.g1 y3.1 y3.2).1.1 (qX (qX (h6.g1 y3.1 y3.2).1.2.1 y5) s1.2.1)),()))
 let c6:=(qy c5 (s1.1,(false,())))
 (bif (ltI s1.2.1 c4)then(bif ((inB s1.2.1 c4)&&(s1.1.s2 (h6.g1 y3.1 y3.2).1.1))then(bif (qp c5)then(bif (! c6.2.1)then(qbl 790 c6.1 (fun h9=>(some (h9,(false,())))))else(qbl 890 c6.1 (fun h9=>(ih7 (h9,((qaj .i64 s1.2.1 1),()))))))else none)else none)else(some (s1.1,(true,())))))) (h6,(0,())))else none)))))))))else none)))else(qbl 1090 c0.1 (fun h2=>let c7:=(qbg N h2 (y0,(x.2.1,())))
 let c8:=(qy c7 (h2,(0,())))
 let c9:=(qaS (h2.g1 y0.1 y0.2).2.2.1.2.2 (h2.g1 y0.1 y0.2).2.2.1.2.1)
 let c10:=(qX (h2.g1 y0.1 y0.2).2.2.1.2.1 c8.2.1)
 let c11:=(qaS (qX (h2.g1 y0.1 y0.2).2.2.1.2.1 c9) c10)
 (bif ((leI 0 y0.1)&&((leI 0 y0.1)&&((h2.s1 y0.1)&&((qp c7)&&((inS c8.2.1 c9 c9)&&(qmF (qN h2.q1 y0.1) (qN c8.1.q1 y0.1)))))))then(qaE (S:=(HpP×(Int×Unit))) (R:=(HpP×(Bool×Unit))) N (fun ih3=>(fun s2=>let c12:=(g_ s2.1 ((s2.1.g4 (h2.g1 y0.1 y0.2).2.2.1.1 (qX c10 s2.2.1)),x.2))
 let c13:=(qy c12 (s2.1,(false,())))
 (bif (ltI s2.2.1 c11)then(bif ((inB s2.2.1 c11)&&(s2.1.s4 (h2.g1 y0.1 y0.2).2.2.1.1))then(bif (qp c12)then(qT x.2.1 (fun y5=>(bif (! c13.2.1)then(qbl 1490 c13.1 (fun h6=>(some (h6,(false,())))))else(qbl 1590 c13.1 (fun h6=>(ih3 (h6,((qaj .i64 s2.2.1 1),()))))))))else none)else none)else(some (s2.1,(true,())))))) (c8.1,(0,())))else none))))))))else none)) M
noncomputable def qcB (N:Nat):HpP→((Int×Int)×(EP3×((HpP→((EP3×(Int×Unit))×Unit)→Option (HpP×(Bool×Unit)))×Unit)))→Option (HpP×(Bool×Unit)):=qbw N N
theorem qjD (N:Nat) (M:Nat):OkP 12 [.v (.ptr 1 3),.v (.slice ql),.hfn [qz] [.bool]] [.bool] (qbw N M):=
 Nat.rec (motive:=fun M=>OkP 12 [.v (.ptr 1 3),.v (.slice ql),.hfn [qz] [.bool]] [.bool] (qbw N M)) (qnO Try.func12 (by kernel_rfl) (by kernel_rfl)) (fun M ih=>kpP nl 3 [] [] (HOk.cons ih (HOk.cons (qbE N) (HOk.cons (qdK N) (HOk.cons (qcp N) HOk.nil)))) N ⟨[⟨11,[3,6,12,46,47,48,49,50,51,52,53,54,55],[(3,(.heap ksP)),(46,(.val (.int .i64)))]⟩,⟨4,[3,6,10,28,29,30,31,32,33,34,35,36,53],[(3,(.heap ksP)),(28,(.val (.int .i64)))]⟩],[(1000002,[0,14]),(1000014,[1,2]),(2,[90000003]),(3,[0,1,7,90000003]),(7,[90000003]),(8,[90000003]),(10,[90000003]),(14,[90000003]),(15,[90000003])],[]⟩ Try.func12 (by kernel_rfl) (by kernel_rfl) (fun p x=>by kernel_rfl)) M
theorem qgG (N:Nat):OkP 12 [.v (.ptr 1 3),.v (.slice ql),.hfn [qz] [.bool]] [.bool] (qcB N):=qjD N N
noncomputable def qc2 (N:Nat) (p:HpP) (x:((EP3×(Int×Unit))×((Int×Int)×Unit))):Option (HpP×(Bool×Unit)):=
 let c0:=(qaD N (x.1.1,()))
 let c1:=(qfF p.q2 (p.g5 x.2.1.1 x.2.1.2) ([((qy c0 ((([]:List qi),()),())).1.1,x.1.2)]:List (EP3×(Int×Unit))))
 let c2:=(qy c1 (p.q2,(p.g5 x.2.1.1 x.2.1.2)))
 (bif ((p.s5 x.2.1.1)&&((qp c0)&&((qp c1)&&((leI (p.g5 x.2.1.1 x.2.1.2).2.1 0)&&((qc1 (p.g5 x.2.1.1 x.2.1.2).2.2 (qn ([((qy c0 ((([]:List qi),()),())).1.1,x.1.2)]:List (EP3×(Int×Unit)))) 32)&&(p.s5 x.2.1.1))))))then(qbl 290 ((p.u2 (c2.1)).u5 (qdD p.q5 x.2.1.1 (qdz (qy (qN p.q5 x.2.1.1) ([]:List (Int×(Int×Int)))) x.2.1.2 c2.2))) (fun h0=>(some (h0,(true,())))))else none)
theorem qia (N:Nat):OkP 13 [.v qz,.v (.ptr 5 1)] [.bool] (qc2 N):=kpP (cn (qbZ N) nl) 0 [] [] HOk.nil N ⟨[],[(2,[90000000])],[]⟩ Try.func13 (by kernel_rfl) (by kernel_rfl) (fun p x=>by kernel_rfl)
noncomputable def qbd (N:Nat) (p:HpP) (x:((Int×Int)×Unit)):Option (HpP×((Int×(Int×Int))×Unit)):=
 (qbl 290 (p.a5 ([((-1),(0,0))]:List (Int×(Int×Int)))) (fun h0=>let c0:=(qcB N h0 ((h0.g0 x.1.1 x.1.2).2.1,(([]:List qi),((fun p1=>(fun x2=>(qc2 N p1 (x2.1,(((qn p.q5),0),()))))),()))))
 (bif ((leI 0 x.1.1)&&((leI 0 x.1.1)&&((h0.s0 x.1.1)&&(qp c0))))then(qbl 390 (qy c0 (h0,(false,()))).1 (fun h1=>(bif (h1.s5 (qn p.q5))then(some (h1,((h1.g5 (qn p.q5) 0),())))else none)))else none)))
theorem qjE (N:Nat):OkP 5 [.v (.ptr 0 3)] [(.sl 2 2)] (qbd N):=kpP nl 1 [(3,5)] [] (HOk.cons (qgG N) (HOk.cons (qia N) HOk.nil)) N ⟨[],[(2,[90000001]),(3,[90000001])],[]⟩ Try.func5 (by kernel_rfl) (by kernel_rfl) (fun p x=>by kernel_rfl)
noncomputable def qbF (N:Nat) (p:HpP) (x:((Int×(Int×Int))×(Int×((Int×(Int×Int))×Unit)))):Option (HpP×((Int×(Int×Int))×Unit)):=(qkm 32 p.q2 x.1 x.2.1 x.2.2.1).map fun r=>(p.u2 r.1,(r.2,()))
theorem qes (N:Nat):OkP 45 [.v (.sl 2 2),.v (.int .i64),.v (.sl 2 2)] [(.sl 2 2)] (qbF N):=qi2 (k:=2) (e:=qz) (q:=HpP.q2) (u:=HpP.u2) (fun p=>by kernel_rfl) (fun p v=>by kernel_rfl) (by decide:ksP.all (fun r=>decide (r.1<100))=true) Try.func45 (by kernel_rfl) (by kernel_rfl) Ins_Entry.insert_walk (by decide)
noncomputable def qV (N:Nat) (p:HpP) (x:((Int×Int)×Unit)):Option (HpP×(Int×Unit)):=
 let c0:=(qy (qr N p x) (p,(false,())))
 (bif (qp (qr N p x))then(qT x.1 (fun y0=>(qT c0.2.1 (fun y1=>(bif y1 then(qbl 290 c0.1 (fun h2=>(bif ((leI 0 y0.1)&&((leI 0 y0.1)&&(h2.s1 y0.1)))then(some (h2,((qaS (h2.g1 y0.1 y0.2).1.2.2 (h2.g1 y0.1 y0.2).1.2.1),())))else none)))else(qbl 390 c0.1 (fun h2=>(bif ((leI 0 y0.1)&&((leI 0 y0.1)&&(h2.s1 y0.1)))then(some (h2,((qaS (h2.g1 y0.1 y0.2).2.2.1.2.2 (h2.g1 y0.1 y0.2).2.2.1.2.1),())))else none))))))))else none)
theorem qdP (N:Nat):OkP 34 [.v (.ptr 1 3)] [(.int .i64)] (qV N):=kpP nl 1 [] [] (HOk.cons (qbE N) HOk.nil) N ⟨[],[(1000002,[0,4]),(2,[90000001]),(3,[90000001])],[]⟩ Try.func34 (by kernel_rfl) (by kernel_rfl) (fun p x=>by kernel_rfl)
noncomputable def qal (N:Nat) (p:HpP) (x:((Int×(Int×Int))×Unit)):Option (HpP×((Int×(Int×Int))×Unit)):=
 let c0:=(qdc p.q2 ([]:List (EP3×(Int×Unit))))
 let c1:=(qcJ c0 x.1)
 let c2:=(qn ([]:List (EP3×(Int×Unit))))
 let c3:=(qy c1 ([]:List (EP3×(Int×Unit))))
 let c4:=(qfF c0 ((qn p.q2),(0,c2)) c3)
 let c5:=(qy c4 (c0,((qn p.q2),(0,c2))))
 (bif ((eqI x.1.1 (-1))||((ltI x.1.2.1 x.1.2.2)||(ltI 0 x.1.2.1)))then(bif (eqI x.1.1 (-1))then(some (p,(((-1),(0,0)),())))else(bif ((qp c1)&&((qp c4)&&((leI 0 0)&&(qc1 c2 (qn c3) 32))))then(some ((p.u2 (c5.1)),(c5.2,())))else none))else none)
theorem qeF (N:Nat):OkP 47 [.v (.sl 2 2)] [(.sl 2 2)] (qal N):=kpP nl 1 [] [] HOk.nil N ⟨[],[],[]⟩ Try.func47 (by kernel_rfl) (by kernel_rfl) (fun p x=>by kernel_rfl)
noncomputable def qaq (N:Nat) (p:HpP) (x:((Int×(Int×Int))×Unit)):Option (HpP×((Int×(Int×Int))×Unit)):=
 let c0:=(qcJ (qdc p.q4 ([]:List (Int×Int))) x.1)
 let c1:=(qy c0 ([]:List (Int×Int)))
 let c2:=(qfF (qdc p.q4 ([]:List (Int×Int))) ((qn p.q4),(0,(qn ([]:List (Int×Int))))) c1)
 let c3:=(qy c2 ((qdc p.q4 ([]:List (Int×Int))),((qn p.q4),(0,(qn ([]:List (Int×Int)))))))
 (bif ((eqI x.1.1 (-1))||((ltI x.1.2.1 x.1.2.2)||(ltI 0 x.1.2.1)))then(bif (eqI x.1.1 (-1))then(some (p,(((-1),(0,0)),())))else(bif ((qp c0)&&((qp c2)&&((leI 0 0)&&(qc1 (qn ([]:List (Int×Int))) (qn c1) 8))))then(some ((p.u4 (c3.1)),(c3.2,())))else none))else none)
theorem qeZ (N:Nat):OkP 48 [.v (.sl 4 1)] [(.sl 4 1)] (qaq N):=kpP nl 1 [] [] HOk.nil N ⟨[],[],[]⟩ Try.func48 (by kernel_rfl) (by kernel_rfl) (fun p x=>by kernel_rfl)
noncomputable def qaf (N:Nat) (p:HpP) (x:((Int×(Int×Int))×Unit)):Option (HpP×((Int×(Int×Int))×Unit)):=
 let c0:=(qcJ (qdc p.q3 ([]:List EP3)) x.1)
 let c1:=(qy c0 ([]:List EP3))
 let c2:=(qfF (qdc p.q3 ([]:List EP3)) ((qn p.q3),(0,(qn ([]:List EP3)))) c1)
 let c3:=(qy c2 ((qdc p.q3 ([]:List EP3)),((qn p.q3),(0,(qn ([]:List EP3))))))
 (bif ((eqI x.1.1 (-1))||((ltI x.1.2.1 x.1.2.2)||(ltI 0 x.1.2.1)))then(bif (eqI x.1.1 (-1))then(some (p,(((-1),(0,0)),())))else(bif ((qp c0)&&((qp c2)&&((leI 0 0)&&(qc1 (qn ([]:List EP3)) (qn c1) 24))))then(some ((p.u3 (c3.1)),(c3.2,())))else none))else none)
theorem qfO (N:Nat):OkP 49 [.v (.sl 3 1)] [(.sl 3 1)] (qaf N):=kpP nl 1 [] [] HOk.nil N ⟨[],[],[]⟩ Try.func49 (by kernel_rfl) (by kernel_rfl) (fun p x=>by kernel_rfl)
noncomputable def qaO (N:Nat) (p:HpP) (x:((Int×Int)×Unit)):Option (HpP×((Int×Int)×(EP3×Unit))):=
 let c0:=(qy (qV N p x) (p,(0,())))
 (bif ((qp (qV N p x))&&(neI 2 0))then(qT x.1 (fun y0=>(qT (qth .i64 c0.2.1 2) (fun y1=>(qbl 290 c0.1 (fun h2=>(qbl 390 (h2.a1 ([zP1]:List EP1)) (fun h3=>let c1:=(qy (qr N h3 (y0,())) (h3,(false,())))
 (bif (qp (qr N h3 (y0,())))then(qT y0 (fun y4=>(qT c1.2.1 (fun y5=>(bif y5 then(qbl 490 c1.1 (fun h6=>let c2:=(qaS (h6.g1 y4.1 y4.2).1.2.2 (h6.g1 y4.1 y4.2).1.2.1)
 let c3:=(qal N h6 (((h6.g1 y4.1 y4.2).1.1,((qX (h6.g1 y4.1 y4.2).1.2.1 y1),(qX (h6.g1 y4.1 y4.2).1.2.1 c2))),()))
 let c4:=(qy c3 (h6,(((-1),(0,0)),())))
 (bif ((leI 0 y4.1)&&((leI 0 y4.1)&&((h6.s1 y4.1)&&((inS y1 c2 c2)&&((qp c3)&&((leI 0 (qn h2.q1))&&((leI 0 (qn h2.q1))&&(c4.1.s1 (qn h2.q1)))))))))then(qbl 590 (c4.1.w1 (qn h2.q1) 0 (c4.2.1,(c4.1.g1 (qn h2.q1) 0).2)) (fun h7=>let c5:=(qal N h7 (((h7.g1 y4.1 y4.2).1.1,((qX (h7.g1 y4.1 y4.2).1.2.1 0),(qX (h7.g1 y4.1 y4.2).1.2.1 y1))),()))
 let c6:=(qy c5 (h7,(((-1),(0,0)),())))
 (bif ((leI 0 y4.1)&&((leI 0 y4.1)&&((h7.s1 y4.1)&&((inS 0 y1 (qaS (h7.g1 y4.1 y4.2).1.2.2 (h7.g1 y4.1 y4.2).1.2.1))&&((qp c5)&&((leI 0 y4.1)&&((leI 0 y4.1)&&(c6.1.s1 y4.1))))))))then(qbl 690 (c6.1.w1 y4.1 y4.2 (c6.2.1,(c6.1.g1 y4.1 y4.2).2)) (fun h8=>(bif ((leI 0 (qn h2.q1))&&((leI 0 (qn h2.q1))&&((h8.s1 (qn h2.q1))&&((inB 0 (qaS (h8.g1 (qn h2.q1) 0).1.2.2 (h8.g1 (qn h2.q1) 0).1.2.1))&&((leI 0 (h8.g1 (qn h2.q1) 0).1.1)&&(h8.s2 (h8.g1 (qn h2.q1) 0).1.1))))))then(some (h8,(((qn h2.q1),0),((h8.g2 (h8.g1 (qn h2.q1) 0).1.1 (qX (h8.g1 (qn h2.q1) 0).1.2.1 0)).1,()))))else none)))else none)))else none)))else(qbl 790 c1.1 (fun h6=>let c7:=(qaS (h6.g1 y4.1 y4.2).2.2.1.2.2 (h6.g1 y4.1 y4.2).2.2.1.2.1)
 let c8:=(qaq N h6 (((h6.g1 y4.1 y4.2).2.2.1.1,((qX (h6.g1 y4.1 y4.2).2.2.1.2.1 y1),(qX (h6.g1 y4.1 y4.2).2.2.1.2.1 c7))),()))
 let c9:=(qy c8 (h6,(((-1),(0,0)),())))
 let c10:=(qaS (c9.1.g1 y4.1 y4.2).2.1.2.2 (c9.1.g1 y4.1 y4.2).2.1.2.1)
 let c11:=(qaf N c9.1 (((c9.1.g1 y4.1 y4.2).2.1.1,((qX (c9.1.g1 y4.1 y4.2).2.1.2.1 y1),(qX (c9.1.g1 y4.1 y4.2).2.1.2.1 c10))),()))
 let c12:=(qy c11 (c9.1,(((-1),(0,0)),())))
 let c13:=(qdD c12.1.q1 (qn h2.q1) (qdz (qy (qN c12.1.q1 (qn h2.q1)) ([]:List EP1)) 0 ((c12.1.g1 (qn h2.q1) 0).1,((c12.1.g1 (qn h2.q1) 0).2.1,(c9.2.1,(c12.1.g1 (qn h2.q1) 0).2.2.2)))))
 let c14:=(qN c13 (qn h2.q1))
 let c15:=(qy c14 ([]:List EP1))
 let c16:=(qJ c15 0 zP1)
 (bif ((leI 0 y4.1)&&((leI 0 y4.1)&&((h6.s1 y4.1)&&((inB (qaF .i64 y1 1) (qaS (h6.g1 y4.1 y4.2).2.1.2.2 (h6.g1 y4.1 y4.2).2.1.2.1))&&(h6.s3 (h6.g1 y4.1 y4.2).2.1.1)))))then(bif ((leI 0 y4.1)&&((leI 0 y4.1)&&((h6.s1 y4.1)&&((inS y1 c7 c7)&&((qp c8)&&((leI 0 y4.1)&&((leI 0 y4.1)&&((c9.1.s1 y4.1)&&((inS y1 c10 c10)&&((qp c11)&&((leI 0 (qn h2.q1))&&((leI 0 (qn h2.q1))&&((c12.1.s1 (qn h2.q1))&&((leI 0 (qn h2.q1))&&((leI 0 (qn h2.q1))&&((qp c14)&&(qmF (qN h6.q1 y4.1) (qN c9.1.q1 y4.1))))))))))))))))))then(qbl 990 (c12.1.u1 (qdD c13 (qn h2.q1) (qdz c15 0 (c16.1,(c12.2.1,c16.2.2))))) (fun h7=>let c17:=(qaq N h7 (((h7.g1 y4.1 y4.2).2.2.1.1,((qX (h7.g1 y4.1 y4.2).2.2.1.2.1 0),(qX (h7.g1 y4.1 y4.2).2.2.1.2.1 y1))),()))
 let c18:=(qy c17 (h7,(((-1),(0,0)),())))
 let c19:=(qaf N c18.1 (((c18.1.g1 y4.1 y4.2).2.1.1,((qX (c18.1.g1 y4.1 y4.2).2.1.2.1 0),(qX (c18.1.g1 y4.1 y4.2).2.1.2.1 (qaF .i64 y1 1)))),()))
 let c20:=(qy c19 (c18.1,(((-1),(0,0)),())))
 let c21:=(qdD c20.1.q1 y4.1 (qdz (qy (qN c20.1.q1 y4.1) ([]:List EP1)) y4.2 ((c20.1.g1 y4.1 y4.2).1,((c20.1.g1 y4.1 y4.2).2.1,(c18.2.1,(c20.1.g1 y4.1 y4.2).2.2.2)))))
 let c22:=(qN c21 y4.1)
 let c23:=(qy c22 ([]:List EP1))
 let c24:=(qJ c23 y4.2 zP1)
 (bif ((leI 0 y4.1)&&((leI 0 y4.1)&&((h7.s1 y4.1)&&((inS 0 y1 (qaS (h7.g1 y4.1 y4.2).2.2.1.2.2 (h7.g1 y4.1 y4.2).2.2.1.2.1))&&((qp c17)&&((leI 0 y4.1)&&((leI 0 y4.1)&&((c18.1.s1 y4.1)&&((inS 0 (qaF .i64 y1 1) (qaS (c18.1.g1 y4.1 y4.2).2.1.2.2 (c18.1.g1 y4.1 y4.2).2.1.2.1))&&((qp c19)&&((leI 0 y4.1)&&((leI 0 y4.1)&&((c20.1.s1 y4.1)&&((leI 0 y4.1)&&((leI 0 y4.1)&&((qp c22)&&(qmF (qN h7.q1 y4.1) (qN c18.1.q1 y4.1))))))))))))))))))then(qbl 1090 (c20.1.u1 (qdD c21 y4.1 (qdz c23 y4.2 (c24.1,(c20.2.1,c24.2.2))))) (fun h8=>(some (h8,(((qn h2.q1),0),((h6.g3 (h6.g1 y4.1 y4.2).2.1.1 (qX (h6.g1 y4.1 y4.2).2.1.2.1 (qaF .i64 y1 1))),()))))))else none)))else none)else none))))))))else none)))))))))else none)
theorem qhC (N:Nat):OkP 35 [.v (.ptr 1 3)] [(.ptr 1 3),(.slice ql)] (qaO N):=kpP nl 1 [(11,1)] [] (HOk.cons (qbE N) (HOk.cons (qdP N) (HOk.cons (qeF N) (HOk.cons (qeZ N) (HOk.cons (qfO N) HOk.nil))))) N ⟨[],[(1000004,[0,13]),(2,[0,4,90000001]),(3,[90000001]),(4,[90000001]),(5,[90000001]),(6,[90000001]),(7,[90000001]),(9,[90000001]),(10,[90000001])],[]⟩ Try.func35 (by kernel_rfl) (by kernel_rfl) (fun p x=>by kernel_rfl)
noncomputable def qbM (N:Nat) (p:HpP) (x:((Int×(Int×Int))×(Int×((Int×(Int×Int))×Unit)))):Option (HpP×((Int×(Int×Int))×Unit)):=(qkm 8 p.q4 x.1 x.2.1 x.2.2.1).map fun r=>(p.u4 r.1,(r.2,()))
theorem qeD (N:Nat):OkP 59 [.v (.sl 4 1),.v (.int .i64),.v (.sl 4 1)] [(.sl 4 1)] (qbM N):=qi2 (k:=4) (e:=(.ptr 1 3)) (q:=HpP.q4) (u:=HpP.u4) (fun p=>by kernel_rfl) (fun p v=>by kernel_rfl) (by decide:ksP.all (fun r=>decide (r.1<100))=true) Try.func59 (by kernel_rfl) (by kernel_rfl) Ins_node.insert_walk (by decide)
noncomputable def qcd (N:Nat) (p:HpP) (x:((Int×(Int×Int))×(Int×((Int×(Int×Int))×Unit)))):Option (HpP×((Int×(Int×Int))×Unit)):=(qkm 24 p.q3 x.1 x.2.1 x.2.2.1).map fun r=>(p.u3 r.1,(r.2,()))
theorem qfj (N:Nat):OkP 60 [.v (.sl 3 1),.v (.int .i64),.v (.sl 3 1)] [(.sl 3 1)] (qcd N):=qi2 (k:=3) (e:=(.slice ql)) (q:=HpP.q3) (u:=HpP.u3) (fun p=>by kernel_rfl) (fun p v=>by kernel_rfl) (by decide:ksP.all (fun r=>decide (r.1<100))=true) Try.func60 (by kernel_rfl) (by kernel_rfl) Ins_Row.insert_walk (by decide)
noncomputable def qa8 (N:Nat) (p:HpP) (x:((Int×Int)×((Int×Int)×(Int×Unit)))):Option (HpP×Unit):=
 let c0:=(qV N p ((p.g4 (p.g1 x.2.1.1 x.2.1.2).2.2.1.1 (qX (p.g1 x.2.1.1 x.2.1.2).2.2.1.2.1 x.2.2.1)),()))
 let c1:=(qy c0 (p,(0,())))
 (bif ((leI 0 x.2.1.1)&&((leI 0 x.2.1.1)&&((p.s1 x.2.1.1)&&((inB x.2.2.1 (qaS (p.g1 x.2.1.1 x.2.1.2).2.2.1.2.2 (p.g1 x.2.1.1 x.2.1.2).2.2.1.2.1))&&((p.s4 (p.g1 x.2.1.1 x.2.1.2).2.2.1.1)&&((qp c0)&&((leI 0 x.1.1)&&((leI 0 x.1.1)&&((c1.1.s0 x.1.1)&&(qmF (qN p.q0 x.1.1) (qN c1.1.q0 x.1.1)))))))))))then(bif (leI c1.2.1 (c1.1.g0 x.1.1 x.1.2).1)then(some (c1.1,()))else(qbl 190 c1.1 (fun h0=>let c2:=(qaO N h0 ((h0.g4 (h0.g1 x.2.1.1 x.2.1.2).2.2.1.1 (qX (h0.g1 x.2.1.1 x.2.1.2).2.2.1.2.1 x.2.2.1)),()))
 let c3:=(qy c2 (h0,(((-1),0),(([]:List qi),()))))
 (bif ((leI 0 x.2.1.1)&&((leI 0 x.2.1.1)&&((h0.s1 x.2.1.1)&&((inB x.2.2.1 (qaS (h0.g1 x.2.1.1 x.2.1.2).2.2.1.2.2 (h0.g1 x.2.1.1 x.2.1.2).2.2.1.2.1))&&((h0.s4 (h0.g1 x.2.1.1 x.2.1.2).2.2.1.1)&&(qp c2))))))then(qT c3.2.1 (fun y1=>(qT c3.2.2.1 (fun y2=>(qbl 290 c3.1 (fun h3=>let c4:=(qbM N (h3.a4 ([y1]:List (Int×Int))) ((h3.g1 x.2.1.1 x.2.1.2).2.2.1,((qaj .i64 x.2.2.1 1),(((qn h3.q4),(0,(qn ([y1]:List (Int×Int))))),()))))
 let c5:=(qy c4 ((h3.a4 ([y1]:List (Int×Int))),(((-1),(0,0)),())))
 (bif ((leI 0 x.2.1.1)&&((leI 0 x.2.1.1)&&((h3.s1 x.2.1.1)&&((qp c4)&&((leI 0 x.2.1.1)&&((leI 0 x.2.1.1)&&(c5.1.s1 x.2.1.1)))))))then(qbl 390 (c5.1.w1 x.2.1.1 x.2.1.2 ((c5.1.g1 x.2.1.1 x.2.1.2).1,((c5.1.g1 x.2.1.1 x.2.1.2).2.1,(c5.2.1,(c5.1.g1 x.2.1.1 x.2.1.2).2.2.2)))) (fun h4=>let c6:=(qcd N (h4.a3 ([y2]:List EP3)) ((h4.g1 x.2.1.1 x.2.1.2).2.1,(x.2.2.1,(((qn h4.q3),(0,(qn ([y2]:List EP3)))),()))))
 let c7:=(qy c6 ((h4.a3 ([y2]:List EP3)),(((-1),(0,0)),())))
 (bif ((leI 0 x.2.1.1)&&((leI 0 x.2.1.1)&&((h4.s1 x.2.1.1)&&((qp c6)&&((leI 0 x.2.1.1)&&((leI 0 x.2.1.1)&&(c7.1.s1 x.2.1.1)))))))then(some ((c7.1.w1 x.2.1.1 x.2.1.2 ((c7.1.g1 x.2.1.1 x.2.1.2).1,(c7.2.1,(c7.1.g1 x.2.1.1 x.2.1.2).2.2))),()))else none)))else none)))))))else none))))else none)
theorem qeX (N:Nat):OkP 46 [.v (.ptr 0 3),.v (.ptr 1 3),.v (.int .i64)] [] (qa8 N):=kpP nl 3 [] [] (HOk.cons (qdP N) (HOk.cons (qhC N) (HOk.cons (qeD N) (HOk.cons (qfj N) HOk.nil)))) N ⟨[],[(1,[90000003]),(2,[6,7,90000003]),(3,[90000003])],[]⟩ Try.func46 (by kernel_rfl) (by kernel_rfl) (fun p x=>by kernel_rfl)
noncomputable def qbs (N:Nat) (M:Nat):HpP→((Int×Int)×((Int×Int)×((EP3×(Int×Unit))×Unit)))→Option (HpP×(Bool×Unit)):=
 Nat.rec (motive:=fun _=>HpP→((Int×Int)×((Int×Int)×((EP3×(Int×Unit))×Unit)))→Option (HpP×(Bool×Unit))) (fun _ _=>none) (fun _ g_=>fun p x=>
 let c0:=(qy (qr N p (x.2.1,())) (p,(false,())))
 (bif (qp (qr N p (x.2.1,())))then(qT x.2.1 (fun y0=>(qT c0.2.1 (fun y1=>(bif y1 then(qbl 290 c0.1 (fun h2=>let c1:=(qbr N h2 (y0,(x.2.2.1.1,())))
 let c2:=(qy c1 (h2,(0,(false,()))))
 (bif (qp c1)then(qT y0 (fun y3=>(qT c2.2.1 (fun y4=>(qT c2.2.2.1 (fun y5=>(qbl 390 c2.1 (fun h6=>let c3:=(h6.a2 ([x.2.2.1]:List (EP3×(Int×Unit))))
 let c4:=(qbF N c3 ((h6.g1 y3.1 y3.2).1,(y4,(((qn h6.q2),(0,(qn ([x.2.2.1]:List (EP3×(Int×Unit)))))),()))))
 let c5:=(qy c4 (c3,(((-1),(0,0)),())))
 let c6:=(h6.g2 (h6.g1 y3.1 y3.2).1.1 (qX (h6.g1 y3.1 y3.2).1.2.1 y4))
 (bif (bif y5 then((leI 0 y3.1)&&((leI 0 y3.1)&&((h6.s1 y3.1)&&((inB y4 (qaS (h6.g1 y3.1 y3.2).1.2.2 (h6.g1 y3.1 y3.2).1.2.1))&&((leI 0 (h6.g1 y3.1 y3.2).1.1)&&(h6.s2 (h6.g1 y3.1 y3.2).1.1))))))else((leI 0 y3.1)&&((leI 0 y3.1)&&((h6.s1 y3.1)&&((qp c4)&&((leI 0 y3.1)&&((leI 0 y3.1)&&(c5.1.s1 y3.1))))))))then(qbl 690 (bfP y5 (h6.w2 (h6.g1 y3.1 y3.2).1.1 (qX (h6.g1 y3.1 y3.2).1.2.1 y4) (c6.1,(x.2.2.1.2.1,c6.2.2))) (c5.1.w1 y3.1 y3.2 (c5.2.1,(c5.1.g1 y3.1 y3.2).2))) (fun h7=>(some (h7,((!y5),())))))else none)))))))))else none)))else(qbl 790 c0.1 (fun h2=>let c7:=(qbg N h2 (y0,(x.2.2.1.1,())))
 let c8:=(qy c7 (h2,(0,())))
 (bif (qp c7)then(qT y0 (fun y3=>(qT c8.2.1 (fun y4=>(qbl 890 c8.1 (fun h5=>let c9:=(g_ h5 (x.1,((h5.g4 (h5.g1 y3.1 y3.2).2.2.1.1 (qX (h5.g1 y3.1 y3.2).2.2.1.2.1 y4)),x.2.2)))
 let c10:=(qy c9 (h5,(false,())))
 (bif ((leI 0 y3.1)&&((leI 0 y3.1)&&((h5.s1 y3.1)&&((inB y4 (qaS (h5.g1 y3.1 y3.2).2.2.1.2.2 (h5.g1 y3.1 y3.2).2.2.1.2.1))&&((h5.s4 (h5.g1 y3.1 y3.2).2.2.1.1)&&(qp c9))))))then(qT x.1 (fun y6=>(qT c10.2.1 (fun y7=>(qbl 990 c10.1 (fun h8=>let c11:=(qa8 N h8 (y6,(y3,(y4,()))))
 (bif (qp c11)then(qT y6 (fun y9=>(qT y3 (fun y10=>(qbl 1090 (qy c11 (h8,())).1 (fun h11=>(some (h11,(y7,())))))))))else none)))))))else none)))))))else none))))))))else none)) M
noncomputable def qfp (N:Nat):HpP→((Int×Int)×((Int×Int)×((EP3×(Int×Unit))×Unit)))→Option (HpP×(Bool×Unit)):=qbs N N
theorem qjP (N:Nat) (M:Nat):OkP 33 [.v (.ptr 0 3),.v (.ptr 1 3),.v qz] [.bool] (qbs N M):=
 Nat.rec (motive:=fun M=>OkP 33 [.v (.ptr 0 3),.v (.ptr 1 3),.v qz] [.bool] (qbs N M)) (qnO Try.func33 (by kernel_rfl) (by kernel_rfl)) (fun M ih=>kpP nl 3 [] [] (HOk.cons (qbE N) (HOk.cons (qdK N) (HOk.cons (qcp N) (HOk.cons ih (HOk.cons (qes N) (HOk.cons (qeX N) HOk.nil)))))) N ⟨[],[(1000002,[1,12]),(2,[90000003]),(3,[1,7,8,90000003]),(6,[90000003]),(7,[90000003]),(8,[1,9,90000003]),(9,[0,10,90000003]),(10,[0,1,90000003])],[]⟩ Try.func33 (by kernel_rfl) (by kernel_rfl) (fun p x=>by kernel_rfl)) M
theorem qkD (N:Nat):OkP 33 [.v (.ptr 0 3),.v (.ptr 1 3),.v qz] [.bool] (qfp N):=qjP N N
noncomputable def qfX (N:Nat) (p:HpP) (x:((Int×Int)×(EP3×(Int×Unit)))):Option (HpP×(Bool×(Int×Unit))):=
 (bif (qp (qZ N (x.2.1,())))then(qT x.2.1 (fun y0=>let c0:=(qaD N (y0,()))
 let c1:=(qfp N p (x.1,((p.g0 x.1.1 x.1.2).2.1,(((qy c0 ((([]:List qi),()),())).1.1,x.2.2),()))))
 let c2:=(qy c1 (p,(false,())))
 (qT (qy (qZ N (x.2.1,())) ((0,()),())).1.1 (fun y1=>(bif (neI y1 0)then(some (p,(false,(y1,()))))else(bif ((leI 0 x.1.1)&&((leI 0 x.1.1)&&((p.s0 x.1.1)&&((qp c0)&&(qp c1)))))then(qT x.1 (fun y2=>(qT y0 (fun y3=>(qT c2.2.1 (fun y4=>(qbl 590 c2.1 (fun h5=>let c3:=(qV N h5 ((h5.g0 y2.1 y2.2).2.1,()))
 let c4:=(qy c3 (h5,(0,())))
 let c5:=(ltI (c4.1.g0 y2.1 y2.2).1 c4.2.1)
 let c6:=(qaO N c4.1 ((c4.1.g0 y2.1 y2.2).2.1,()))
 let c7:=(qy c6 (c4.1,(((-1),0),(([]:List qi),()))))
 (bif ((leI 0 y2.1)&&((leI 0 y2.1)&&((h5.s0 y2.1)&&((qp c3)&&((leI 0 y2.1)&&((leI 0 y2.1)&&((c4.1.s0 y2.1)&&(qmF (qN h5.q0 y2.1) (qN c4.1.q0 y2.1)))))))))then(bif (bif c5 then((leI 0 y2.1)&&((leI 0 y2.1)&&((c4.1.s0 y2.1)&&((qp c6)&&((leI 0 y2.1)&&((leI 0 y2.1)&&((c7.1.s0 y2.1)&&((leI 0 y2.1)&&((leI 0 y2.1)&&(c7.1.s0 y2.1))))))))))else true)then(qbl 890 (bfP c5 ((((c7.1.w0 y2.1 y2.2 ((c7.1.g0 y2.1 y2.2).1,(((qn c7.1.q1),0),(c7.1.g0 y2.1 y2.2).2.2))).u1 (qdc c7.1.q1 ([(((-1),(0,0)),(((qn c7.1.q3),(0,(qn ([c7.2.2.1]:List EP3)))),(((qn c7.1.q4),(0,(qn ([(c7.1.g0 y2.1 y2.2).2.1,c7.2.1]:List (Int×Int))))),())))]:List EP1))).u3 (qdc c7.1.q3 ([c7.2.2.1]:List EP3))).u4 (qdc c7.1.q4 ([(c7.1.g0 y2.1 y2.2).2.1,c7.2.1]:List (Int×Int)))) c4.1) (fun h6=>(bif (bif y4 then((leI 0 y2.1)&&((leI 0 y2.1)&&((h6.s0 y2.1)&&((leI 0 y2.1)&&((leI 0 y2.1)&&(h6.s0 y2.1))))))else true)then(qbl 1090 (bfP y4 (h6.w0 y2.1 y2.2 ((h6.g0 y2.1 y2.2).1,((h6.g0 y2.1 y2.2).2.1,((qaj .i64 (h6.g0 y2.1 y2.2).2.2.1 1),(h6.g0 y2.1 y2.2).2.2.2)))) h6) (fun h7=>(some (h7,(y4,(0,()))))))else none)))else none)else none)))))))))else none))))))else none)
theorem qoE (N:Nat):OkP 15 [.v (.ptr 0 3),.v (.slice ql),.v (.int .i64)] [.bool,(.int .i64)] (qfX N):=kpP (cn (qbZ N) (cn (qb8 N) nl)) 3 [(55,1)] [] (HOk.cons (qkD N) (HOk.cons (qdP N) (HOk.cons (qhC N) HOk.nil))) N ⟨[],[(2,[1,8]),(5,[0,1,9,90000003]),(7,[10,11]),(8,[90000003]),(10,[90000003])],[]⟩ Try.func15 (by kernel_rfl) (by kernel_rfl) (fun p x=>by kernel_rfl)
noncomputable def qap (N:Nat) (p:HpP) (x:(((HpP→(Int×(Int×Unit))→Option (HpP×(Bool×Unit)))×(HpP→(Int×(Int×Unit))→Option (HpP×Unit)))×(Int×(Int×Unit)))):Option (HpP×Unit):=
 (qaE (S:=(HpP×(Int×Unit))) (R:=(HpP×Unit)) N (fun ih0=>(fun s1=>(bif (ltI s1.2.1 x.2.2.1)then(qaE (S:=(HpP×(Int×Unit))) (R:=(HpP×Unit)) N (fun ih2=>(fun s2=>let c0:=(x.1.1 s2.1 (s2.2.1,((qaF .i64 s2.2.1 1),())))
 let c1:=(qy c0 (s2.1,(false,())))
 let c2:=(bfP (ltI x.2.1 s2.2.1) c1.1 s2.1)
 (bif ((! (ltI x.2.1 s2.2.1))||(qp c0))then(bif ((ltI x.2.1 s2.2.1)&&c1.2.1)then(qbl 790 c2 (fun h4=>let c3:=(x.1.2 h4 (s2.2.1,((qaF .i64 s2.2.1 1),())))
 (bif (qp c3)then(qbl 690 (qy c3 (h4,())).1 (fun h5=>(ih2 (h5,((qaF .i64 s2.2.1 1),())))))else none)))else(qbl 390 c2 (fun h4=>(ih0 (h4,((qaj .i64 s1.2.1 1),()))))))else none))) (s1.1,s1.2))else(some (s1.1,()))))) (p,((qaj .i64 x.2.1 1),())))
theorem qeT (N:Nat):OkP 70 [.ls,.v (.int .i64),.v (.int .i64)] [] (qap N):=klP nl 4 [] [] HOk.nil N ⟨[⟨2,[4,6,7,10,11,12,13,14,15,16,17,18,19,20,21,22,23,24,25,26,27,28,29,30,31,32,33,34],[(4,(.heap ksP)),(6,(.val (.int .i64)))]⟩,⟨5,[4,7,16,17,18,19,20,21,22,23,24,25,26,27,28,29,30,31,32,33,34],[(4,(.heap ksP)),(7,(.val (.int .i64)))]⟩],[(7,[90000004]),(6,[90000004]),(3,[90000004])],[]⟩ Try.func70 (by kernel_rfl) (by kernel_rfl) (fun p x=>by kernel_rfl)
noncomputable def qbm (N:Nat) (p:HpP) (x:(((HpP→(Int×(Int×Unit))→Option (HpP×(Bool×Unit)))×(HpP→(Int×(Int×Unit))→Option (HpP×Unit)))×(Int×(Int×(Int×Unit))))):Option (HpP×Unit):=
 (qaE (S:=(HpP×(Int×Unit))) (R:=(HpP×Unit)) N (fun ih0=>(fun s1=>let c0:=(x.1.2 s1.1 ((qaj .i64 x.2.1 s1.2.1),((qaj .i64 x.2.2.1 s1.2.1),())))
 (bif (ltI s1.2.1 x.2.2.2.1)then(bif (qp c0)then(qbl 390 (qy c0 (s1.1,())).1 (fun h2=>(ih0 (h2,((qaj .i64 s1.2.1 1),())))))else none)else(some (s1.1,()))))) (p,(0,())))
theorem qfV (N:Nat):OkP 88 [.ls,.v (.int .i64),.v (.int .i64),.v (.int .i64)] [] (qbm N):=klP nl 5 [] [] HOk.nil N ⟨[⟨2,[5,8,9,10,11,12,13,14,15,16,17,18,19,20,21,22],[(5,(.heap ksP)),(8,(.val (.int .i64)))]⟩],[(3,[90000005])],[]⟩ Try.func88 (by kernel_rfl) (by kernel_rfl) (fun p x=>by kernel_rfl)
noncomputable def qdu (N:Nat) (p:HpP) (x:(((HpP→(Int×(Int×Unit))→Option (HpP×(Bool×Unit)))×(HpP→(Int×(Int×Unit))→Option (HpP×Unit)))×(Int×(Int×(Int×Unit))))):Option (HpP×Unit):=
 (qT (qaF .i64 x.2.2.1 x.2.1) (fun y0=>(qaE (S:=(HpP×(Int×(Int×Unit)))) (R:=(HpP×Unit)) N (fun ih1=>(fun s1=>let c0:=(qbm N s1.1 (x.1,((qaF .i64 x.2.2.1 s1.2.1),(x.2.2.1,s1.2.2))))
 let c1:=(qbm N s1.1 (x.1,((qaF .i64 x.2.2.1 s1.2.1),((qaF .i64 (qaj .i64 x.2.2.1 s1.2.2.1) s1.2.1),(s1.2.1,())))))
 let c2:=(qbm N s1.1 (x.1,((qaF .i64 x.2.2.1 s1.2.1),(x.2.2.1,(s1.2.1,())))))
 (bif (neI s1.2.1 s1.2.2.1)then(bif (bif (ltI s1.2.2.1 s1.2.1)then(qp c0)else(qp c1))then(ih1 ((bfP (ltI s1.2.2.1 s1.2.1) (qy c0 (s1.1,())).1 (qy c1 (s1.1,())).1),((bif (ltI s1.2.2.1 s1.2.1)then(qaF .i64 s1.2.1 s1.2.2.1)else s1.2.1),((bif (ltI s1.2.2.1 s1.2.1)then s1.2.2.1 else(qaF .i64 s1.2.2.1 s1.2.1)),()))))else none)else(bif (qp c2)then(some ((qy c2 (s1.1,())).1,()))else none)))) (p,(y0,((qaF .i64 x.2.2.2.1 x.2.2.1),()))))))
theorem qho (N:Nat):OkP 80 [.ls,.v (.int .i64),.v (.int .i64),.v (.int .i64)] [] (qdu N):=klP nl 5 [] [] (HOk.cons (qfV N) HOk.nil) N ⟨[⟨3,[5,8,9,16,17,18,19,20,21,22,23,24,25,26,27,28,29,30,31,32,33,34,35,36,37,38,39,40,41,42,43,44,45],[(5,(.heap ksP)),(8,(.val (.int .i64))),(9,(.val (.int .i64)))]⟩],[(2,[8]),(6,[2,9]),(8,[8])],[]⟩ Try.func80 (by kernel_rfl) (by kernel_rfl) (fun p x=>by kernel_rfl)
noncomputable def qbX (N:Nat) (M:Nat):HpP→(((HpP→(Int×(Int×Unit))→Option (HpP×(Bool×Unit)))×(HpP→(Int×(Int×Unit))→Option (HpP×Unit)))×(Int×(Int×(Int×Unit))))→Option (HpP×Unit):=
 Nat.rec (motive:=fun _=>HpP→(((HpP→(Int×(Int×Unit))→Option (HpP×(Bool×Unit)))×(HpP→(Int×(Int×Unit))→Option (HpP×Unit)))×(Int×(Int×(Int×Unit))))→Option (HpP×Unit)) (fun _ _=>none) (fun _ g_=>fun p x=>
 (bif (eqI (qaF .i64 x.2.2.1 x.2.1) 1)then(qaE (S:=(HpP×(Int×(Int×Unit)))) (R:=(HpP×Unit)) N (fun ih0=>(fun s1=>(bif (ltI s1.2.1 s1.2.2.1)then(bif (leI 0 1)then(qT (qcE .i64 (qlZ .u64 (qcE .u64 (qaj .i64 s1.2.1 s1.2.2.1)) 1)) (fun y2=>let c0:=(qy (x.1.1 s1.1 (y2,(x.2.1,()))) (s1.1,(false,())))
 (bif (qp (x.1.1 s1.1 (y2,(x.2.1,()))))then(qT c0.2.1 (fun y3=>(ih0 (c0.1,((bif y3 then(qaj .i64 y2 1)else s1.2.1),((bif y3 then s1.2.2.1 else y2),()))))))else none)))else none)else(qaE (S:=(HpP×(Int×Unit))) (R:=(HpP×Unit)) N (fun ih2=>(fun s2=>let c1:=(x.1.2 s2.1 (s2.2.1,((qaj .i64 s2.2.1 1),())))
 (bif (ltI s2.2.1 (qaF .i64 s1.2.1 1))then(bif (qp c1)then(qbl 1190 (qy c1 (s2.1,())).1 (fun h4=>(ih2 (h4,((qaj .i64 s2.2.1 1),())))))else none)else(some (s2.1,()))))) (s1.1,(x.2.1,())))))) (p,x.2.2))else(bif (eqI (qaF .i64 x.2.2.2.1 x.2.2.1) 1)then(qaE (S:=(HpP×(Int×(Int×Unit)))) (R:=(HpP×Unit)) N (fun ih0=>(fun s3=>(bif (ltI s3.2.1 s3.2.2.1)then(bif (leI 0 1)then(qT (qcE .i64 (qlZ .u64 (qcE .u64 (qaj .i64 s3.2.1 s3.2.2.1)) 1)) (fun y2=>let c2:=(qy (x.1.1 s3.1 (x.2.2.1,(y2,()))) (s3.1,(false,())))
 let c3:=(! c2.2.1)
 (bif (qp (x.1.1 s3.1 (x.2.2.1,(y2,()))))then(ih0 (c2.1,((bif c3 then(qaj .i64 y2 1)else s3.2.1),((bif c3 then s3.2.2.1 else y2),()))))else none)))else none)else(qaE (S:=(HpP×(Int×Unit))) (R:=(HpP×Unit)) N (fun ih2=>(fun s4=>let c4:=(x.1.2 s4.1 (s4.2.1,((qaF .i64 s4.2.1 1),())))
 (bif (ltI s3.2.1 s4.2.1)then(bif (qp c4)then(qbl 2390 (qy c4 (s4.1,())).1 (fun h4=>(ih2 (h4,((qaF .i64 s4.2.1 1),())))))else none)else(some (s4.1,()))))) (s3.1,(x.2.2.1,())))))) (p,(x.2.1,(x.2.2.1,()))))else(bif (leI 0 1)then(qT (qcE .i64 (qlZ .u64 (qcE .u64 (qaj .i64 x.2.1 x.2.2.2.1)) 1)) (fun y0=>(qT (qaj .i64 y0 x.2.2.1) (fun y1=>(qT (bif (ltI y0 x.2.2.1)then(qaF .i64 y1 x.2.2.2.1)else x.2.1) (fun y2=>(qT (bif (ltI y0 x.2.2.1)then y0 else x.2.2.1) (fun y3=>(qaE (S:=(HpP×(Int×(Int×Unit)))) (R:=(HpP×Unit)) N (fun ih4=>(fun s5=>(bif (ltI s5.2.1 s5.2.2.1)then(bif (leI 0 1)then(qT (qcE .i64 (qlZ .u64 (qcE .u64 (qaj .i64 s5.2.1 s5.2.2.1)) 1)) (fun y6=>let c5:=(x.1.1 s5.1 ((qaF .i64 (qaF .i64 y1 1) y6),(y6,())))
 let c6:=(qy c5 (s5.1,(false,())))
 let c7:=(! c6.2.1)
 (bif (qp c5)then(ih4 (c6.1,((bif c7 then(qaj .i64 y6 1)else s5.2.1),((bif c7 then s5.2.2.1 else y6),()))))else none)))else none)else(qT (qaF .i64 y1 s5.2.1) (fun y6=>let c8:=(qdu N s5.1 (x.1,(s5.2.1,(x.2.2.1,(y6,())))))
 (qT ((ltI s5.2.1 x.2.2.1)&&(ltI x.2.2.1 y6)) (fun y7=>(bif (bif y7 then(qp c8)else true)then(qbl 4290 (bfP y7 (qy c8 (s5.1,())).1 s5.1) (fun h8=>let c9:=(g_ h8 (x.1,(x.2.1,(s5.2.1,(y0,())))))
 (qT ((ltI x.2.1 s5.2.1)&&(ltI s5.2.1 y0)) (fun y9=>(bif (bif y9 then(qp c9)else true)then(qbl 4490 (bfP y9 (qy c9 (h8,())).1 h8) (fun h10=>let c10:=(g_ h10 (x.1,(y0,(y6,x.2.2.2))))
 (qT ((ltI y0 y6)&&(ltI y6 x.2.2.2.1)) (fun y11=>(bif (bif y11 then(qp c10)else true)then(some ((bfP y11 (qy c10 (h10,())).1 h10),()))else none)))))else none)))))else none)))))))) (p,(y2,(y3,()))))))))))))else none)))) M
noncomputable def qcV (N:Nat):HpP→(((HpP→(Int×(Int×Unit))→Option (HpP×(Bool×Unit)))×(HpP→(Int×(Int×Unit))→Option (HpP×Unit)))×(Int×(Int×(Int×Unit))))→Option (HpP×Unit):=qbX N N
theorem qfT (N:Nat) (M:Nat):OkP 71 [.ls,.v (.int .i64),.v (.int .i64),.v (.int .i64)] [] (qbX N M):=
 Nat.rec (motive:=fun M=>OkP 71 [.ls,.v (.int .i64),.v (.int .i64),.v (.int .i64)] [] (qbX N M)) (qnO Try.func71 (by kernel_rfl) (by kernel_rfl)) (fun M ih=>klP nl 5 [] [] (HOk.cons ih (HOk.cons (qho N) HOk.nil)) N ⟨[⟨34,[5,18,19,21,115,116,117,118,119,120,121,122,123,124,125,126,127,128,129,130,131,132,133,134],[(5,(.heap ksP)),(18,(.val (.int .i64))),(19,(.val (.int .i64)))]⟩,⟨16,[5,12,13,14,65,66,67,68,69,70,71,72,73,74,75,76,77,78,79,80,81,82,130],[(5,(.heap ksP)),(12,(.val (.int .i64))),(13,(.val (.int .i64)))]⟩,⟨22,[5,15,84,85,86,87,88,89,90,91,92,93,94,130],[(5,(.heap ksP)),(15,(.val (.int .i64)))]⟩,⟨4,[5,8,9,10,29,30,31,32,33,34,35,36,37,38,39,40,41,42,43,44,45,130],[(5,(.heap ksP)),(8,(.val (.int .i64))),(9,(.val (.int .i64)))]⟩,⟨10,[5,11,47,48,49,50,51,52,53,54,55,56,57,58,130],[(5,(.heap ksP)),(11,(.val (.int .i64)))]⟩],[(1000007,[42]),(1000041,[145]),(1000043,[158]),(1000045,[171]),(6,[10]),(11,[90000005]),(18,[14]),(23,[90000005]),(26,[16]),(27,[17]),(30,[18]),(33,[4,18,19]),(36,[21]),(40,[22]),(42,[4,90000005]),(44,[4,90000005])],[]⟩ Try.func71 (by kernel_rfl) (by kernel_rfl) (fun p x=>by kernel_rfl)) M
theorem qgr (N:Nat):OkP 71 [.ls,.v (.int .i64),.v (.int .i64),.v (.int .i64)] [] (qcV N):=qfT N N
noncomputable def qaU (N:Nat) (p:HpP) (x:(((HpP→(Int×(Int×Unit))→Option (HpP×(Bool×Unit)))×(HpP→(Int×(Int×Unit))→Option (HpP×Unit)))×(Int×Unit))):Option (HpP×Unit):=
 (qaE (S:=(HpP×(Int×(Int×Unit)))) (R:=(HpP×Unit)) N (fun ih0=>(fun s1=>let c0:=(qap N s1.1 (x.1,s1.2))
 let c1:=(qap N s1.1 (x.1,(s1.2.1,x.2)))
 (bif (leI s1.2.2.1 x.2.1)then(bif (qp c0)then(qT s1.2.2.1 (fun y2=>(qbl 590 (qy c0 (s1.1,())).1 (fun h3=>(ih0 (h3,(y2,((qaj .i64 y2 20),()))))))))else none)else(bif (qp c1)then(qaE (S:=(HpP×(Int×Unit))) (R:=(HpP×Unit)) N (fun ih2=>(fun s2=>(bif (ltI s2.2.1 x.2.1)then(qaE (S:=(HpP×(Int×(Int×Unit)))) (R:=(HpP×Unit)) N (fun ih4=>(fun s3=>let c2:=(qcV N s3.1 (x.1,(s3.2.1,((qaj .i64 s3.2.1 s2.2.1),s3.2.2))))
 (bif (leI s3.2.2.1 x.2.1)then(bif (qp c2)then(qT s3.2.2.1 (fun y6=>(qbl 1290 (qy c2 (s3.1,())).1 (fun h7=>(ih4 (h7,(y6,((qaj .i64 y6 (qoc .i64 2 s2.2.1)),()))))))))else none)else(qT (qaj .i64 s3.2.1 s2.2.1) (fun y6=>let c3:=(qcV N s3.1 (x.1,(s3.2.1,(y6,x.2))))
 (bif (bif (ltI y6 x.2.1)then(qp c3)else true)then(qbl 1790 (bfP (ltI y6 x.2.1) (qy c3 (s3.1,())).1 s3.1) (fun h7=>(ih2 (h7,((qoc .i64 s2.2.1 2),())))))else none)))))) (s2.1,(0,((qoc .i64 2 s2.2.1),()))))else(some (s2.1,()))))) ((qy c1 (s1.1,())).1,(20,())))else none)))) (p,(0,(20,()))))
theorem qhs (N:Nat):OkP 52 [.ls,.v (.int .i64)] [] (qaU N):=klP nl 3 [] [] (HOk.cons (qeT N) (HOk.cons (qgr N) HOk.nil)) N ⟨[⟨3,[3,5,6,9,10,11,12,13,14,15,16,17,18,19,54],[(3,(.heap ksP)),(5,(.val (.int .i64))),(6,(.val (.int .i64)))]⟩,⟨8,[3,4,5,6,7,24,25,26,27,28,29,30,31,32,33,34,35,36,37,38,39,40,41,42,43,44,45,46,47,48,49,50,51,52,53,54,55,56],[(3,(.heap ksP)),(4,(.val (.int .i64)))]⟩,⟨10,[3,5,6,29,30,31,32,33,34,35,36,37,38,39,40,41,42,43,54],[(3,(.heap ksP)),(5,(.val (.int .i64))),(6,(.val (.int .i64)))]⟩],[(5,[6,90000003]),(12,[6,90000003]),(15,[7]),(17,[2,90000003])],[]⟩ Try.func52 (by kernel_rfl) (by kernel_rfl) (fun p x=>by kernel_rfl)
noncomputable def qbP (N:Nat) (p:HpP) (x:((Int×(Int×Int))×((HpP→(Int×(Int×Unit))→Option (HpP×(Bool×Unit)))×Unit))):Option (HpP×Unit):=if x.1.2.1=0∧x.1.2.2≤4611686018427387904 then(if x.1.2.2≤1 then qaU N p ((x.2.1,fun _ _=>none),(x.1.2.2,()))else qaU N p ((x.2.1,qu2 (ks:=ksP) HpP.q2 HpP.u2 x.1),(x.1.2.2,())))else none
theorem qhr (N:Nat):OkP 36 [.ifc 31 2 2,.hfn [(.int .i64),(.int .i64)] [.bool]] [] (qbP N):=qjK (S:=qaU N) (k:=2) (e:=qz) (q:=HpP.q2) (u:=HpP.u2) (fun p=>by kernel_rfl) (fun p v=>by kernel_rfl) (by decide:ksP.all (fun r=>decide (r.1<100))=true) (by decide) (qhs N)
noncomputable def qbV (N:Nat) (p:HpP) (x:(Int×(Int×((Int×Int)×Unit)))):Option (HpP×(Bool×Unit)):=
 let c0:=(p.g7 (p.g8 x.2.2.1.1 x.2.2.1.2).1 (p.g8 x.2.2.1.1 x.2.2.1.2).2)
 let c1:=(qaS c0.2.2 c0.2.1)
 let c2:=(leI 0 c0.1)
 let c3:=(p.s2 c0.1)
 let c4:=(qC N ((p.g2 c0.1 (qX c0.2.1 x.1)).1,((p.g2 c0.1 (qX c0.2.1 x.2.1)).1,())))
 (bif ((p.s8 x.2.2.1.1)&&((leI 0 (p.g8 x.2.2.1.1 x.2.2.1.2).1)&&((p.s7 (p.g8 x.2.2.1.1 x.2.2.1.2).1)&&((inB x.1 c1)&&(c2&&(c3&&((p.s8 x.2.2.1.1)&&((leI 0 (p.g8 x.2.2.1.1 x.2.2.1.2).1)&&((p.s7 (p.g8 x.2.2.1.1 x.2.2.1.2).1)&&((inB x.2.1 c1)&&(c2&&(c3&&(qp c4)))))))))))))then(some (p,((ltI (qy c4 ((0,()),())).1.1 0),())))else none)
theorem qhJ (N:Nat):OkP 37 [.v (.int .i64),.v (.int .i64),.v (.ptr 8 1)] [.bool] (qbV N):=kpP (cn (qbe N) nl) 3 [] [] HOk.nil N ⟨[],[],[]⟩ Try.func37 (by kernel_rfl) (by kernel_rfl) (fun p x=>by kernel_rfl)
noncomputable def qdo (N:Nat) (p:HpP) (x:((Int×Int)×(EP3×(Int×Unit)))):Option (HpP×(Bool×Unit)):=
 (qbl 190 (p.a8 ([x.1]:List (Int×Int))) (fun h0=>let c0:=(h0.g7 (h0.g8 (qn p.q8) 0).1 (h0.g8 (qn p.q8) 0).2)
 let c1:=(qaS c0.2.2 c0.2.1)
 (bif ((h0.s8 (qn p.q8))&&((leI 0 (h0.g8 (qn p.q8) 0).1)&&(h0.s7 (h0.g8 (qn p.q8) 0).1)))then(qaE (S:=(HpP×(Int×Unit))) (R:=(HpP×(Bool×Unit))) N (fun ih1=>(fun s1=>let c2:=(qC N ((s1.1.g2 c0.1 (qX c0.2.1 s1.2.1)).1,(x.2.1,())))
 let c3:=(s1.1.g7 (s1.1.g8 (qn p.q8) 0).1 (s1.1.g8 (qn p.q8) 0).2)
 let c4:=(qX c3.2.1 s1.2.1)
 let c5:=(s1.1.g2 c3.1 c4)
 let c6:=(qfF s1.1.q2 c3 ([x.2]:List (EP3×(Int×Unit))))
 let c7:=(qy c6 (s1.1.q2,c3))
 (bif (ltI s1.2.1 c1)then(bif ((inB s1.2.1 c1)&&(s1.1.s2 c0.1))then(bif (qp c2)then(qT x.2.1 (fun y3=>(bif (eqI (qy c2 ((0,()),())).1.1 0)then(bif ((s1.1.s8 (qn p.q8))&&((leI 0 (s1.1.g8 (qn p.q8) 0).1)&&((s1.1.s7 (s1.1.g8 (qn p.q8) 0).1)&&((inB s1.2.1 (qaS c3.2.2 c3.2.1))&&((leI 0 c3.1)&&(s1.1.s2 c3.1))))))then(qbl 690 (s1.1.w2 c3.1 c4 (c5.1,(x.2.2.1,c5.2.2))) (fun h4=>(some (h4,(false,())))))else none)else(ih1 (s1.1,((qaj .i64 s1.2.1 1),()))))))else none)else none)else(bif ((s1.1.s8 (qn p.q8))&&((s1.1.s8 (qn p.q8))&&((leI 0 (s1.1.g8 (qn p.q8) 0).1)&&((s1.1.s7 (s1.1.g8 (qn p.q8) 0).1)&&((qp c6)&&((leI c3.2.1 0)&&((qc1 c3.2.2 (qn ([x.2]:List (EP3×(Int×Unit)))) 32)&&((leI 0 (s1.1.g8 (qn p.q8) 0).1)&&((s1.1.s7 (s1.1.g8 (qn p.q8) 0).1)&&(qmF (qN s1.1.q8 (qn p.q8)) (qN s1.1.q8 (qn p.q8))))))))))))then(qbl 990 ((s1.1.u2 (c7.1)).u7 (qdD s1.1.q7 (s1.1.g8 (qn p.q8) 0).1 (qdz (qy (qN s1.1.q7 (s1.1.g8 (qn p.q8) 0).1) ([]:List (Int×(Int×Int)))) (s1.1.g8 (qn p.q8) 0).2 c7.2))) (fun h3=>let c8:=(qbP N h3 ((h3.g7 (h3.g8 (qn p.q8) 0).1 (h3.g8 (qn p.q8) 0).2),((fun p4=>(fun x5=>(qbV N p4 (x5.1,(x5.2.1,(((qn p.q8),0),())))))),())))
 (bif ((h3.s8 (qn p.q8))&&((leI 0 (h3.g8 (qn p.q8) 0).1)&&((h3.s7 (h3.g8 (qn p.q8) 0).1)&&(qp c8))))then(qbl 1090 (qy c8 (h3,())).1 (fun h4=>(some (h4,(true,())))))else none)))else none)))) (h0,(0,())))else none)))
theorem qjf (N:Nat):OkP 16 [.v (.ptr 7 1),.v (.slice ql),.v (.int .i64)] [.bool] (qdo N):=kpP (cn (qbe N) nl) 4 [(3,8)] [] (HOk.cons (qhr N) (HOk.cons (qhJ N) HOk.nil)) N ⟨[⟨2,[4,6,7,8,13,14,15,16,17,18,19,20,21,22,23,24,25,26,27,28,29,30],[(4,(.heap ksP)),(13,(.val (.int .i64)))]⟩],[(1000005,[1]),(1,[90000004]),(6,[90000004]),(9,[90000004]),(10,[90000004])],[]⟩ Try.func16 (by kernel_rfl) (by kernel_rfl) (fun p x=>by kernel_rfl)
noncomputable def qcn (N:Nat) (p:HpP) (x:((Int×Int)×(EP3×Unit))):Option (HpP×(Bool×Unit)):=
 let c0:=(qaS (p.g7 x.1.1 x.1.2).2.2 (p.g7 x.1.1 x.1.2).2.1)
 let c1:=(qn ([]:List (EP3×(Int×Unit))))
 (bif ((leI 0 x.1.1)&&(p.s7 x.1.1))then(qaE (S:=(HpP×(Int×Unit))) (R:=(HpP×(Bool×Unit))) N (fun ih0=>(fun s1=>let c2:=(qC N ((s1.1.g2 (p.g7 x.1.1 x.1.2).1 (qX (p.g7 x.1.1 x.1.2).2.1 s1.2.1)).1,x.2))
 let c3:=(qaS (s1.1.g7 x.1.1 x.1.2).2.2 (s1.1.g7 x.1.1 x.1.2).2.1)
 let c4:=(qdc s1.1.q2 ([]:List (EP3×(Int×Unit))))
 let c5:=(qcJ c4 ((s1.1.g7 x.1.1 x.1.2).1,((qX (s1.1.g7 x.1.1 x.1.2).2.1 0),(qX (s1.1.g7 x.1.1 x.1.2).2.1 s1.2.1))))
 let c6:=(qy c5 ([]:List (EP3×(Int×Unit))))
 let c7:=(qfF c4 ((qn s1.1.q2),(0,c1)) c6)
 let c8:=(qy c7 (c4,((qn s1.1.q2),(0,c1))))
 let c9:=(qcJ c8.1 ((s1.1.g7 x.1.1 x.1.2).1,((qX (s1.1.g7 x.1.1 x.1.2).2.1 (qaj .i64 s1.2.1 1)),(qX (s1.1.g7 x.1.1 x.1.2).2.1 c3))))
 let c10:=(qy c9 ([]:List (EP3×(Int×Unit))))
 let c11:=(qfF c8.1 c8.2 c10)
 let c12:=(qy c11 c8)
 (bif (ltI s1.2.1 c0)then(bif ((inB s1.2.1 c0)&&(s1.1.s2 (p.g7 x.1.1 x.1.2).1))then(bif (qp c2)then(qT x.2.1 (fun y2=>(bif (eqI (qy c2 ((0,()),())).1.1 0)then(bif ((leI 0 x.1.1)&&((s1.1.s7 x.1.1)&&((inS 0 s1.2.1 c3)&&((qp c5)&&((qp c7)&&((leI 0 0)&&((qc1 c1 (qn c6) 32)&&((leI 0 x.1.1)&&((s1.1.s7 x.1.1)&&((inS (qaj .i64 s1.2.1 1) c3 c3)&&((qp c9)&&((qp c11)&&((leI c8.2.2.1 0)&&((qc1 c8.2.2.2 (qn c10) 32)&&((leI 0 x.1.1)&&((s1.1.s7 x.1.1)&&(qmF (qN s1.1.q7 x.1.1) (qN s1.1.q7 x.1.1))))))))))))))))))then(qbl 690 ((s1.1.u2 (c12.1)).u7 (qdD s1.1.q7 x.1.1 (qdz (qy (qN s1.1.q7 x.1.1) ([]:List (Int×(Int×Int)))) x.1.2 c12.2))) (fun h3=>(some (h3,(true,())))))else none)else(ih0 (s1.1,((qaj .i64 s1.2.1 1),()))))))else none)else none)else(some (s1.1,(false,())))))) (p,(0,())))else none)
theorem qhx (N:Nat):OkP 17 [.v (.ptr 7 1),.v (.slice ql)] [.bool] (qcn N):=kpP (cn (qbe N) nl) 2 [] [] HOk.nil N ⟨[⟨2,[2,4,5,6,11,12,13,14,15,16,17,18,19,20,21,22,23,24,25,26,27,28,29,30,31,32,33,34,35,36,37],[(2,(.heap ksP)),(11,(.val (.int .i64)))]⟩],[(1000005,[1]),(6,[90000002])],[]⟩ Try.func17 (by kernel_rfl) (by kernel_rfl) (fun p x=>by kernel_rfl)
noncomputable def qa1 (N:Nat) (p:HpP) (x:((Int×(Int×Int))×(Int×(Int×Unit)))):Option (HpP×((Int×(Int×Int))×Unit)):=
 let c0:=(qcJ p.q2 (x.1.1,((qX x.1.2.1 x.2.2.1),(qX x.1.2.1 (qaS x.1.2.2 x.1.2.1)))))
 let c1:=(qy c0 ([]:List (EP3×(Int×Unit))))
 let c2:=(qfF p.q2 (x.1.1,((qX x.1.2.1 0),(qX x.1.2.1 x.2.1))) c1)
 let c3:=(qy c2 (p.q2,(x.1.1,((qX x.1.2.1 0),(qX x.1.2.1 x.2.1)))))
 (bif ((inS x.2.1 x.2.2.1 (qaS x.1.2.2 x.1.2.1))&&(leI (qaS x.1.2.2 x.1.2.1) (qaS x.1.2.2 x.1.2.1)))then(bif (eqI x.2.1 x.2.2.1)then(some (p,(x.1,())))else(qT (qaS x.1.2.2 x.1.2.1) (fun y0=>(bif ((inS 0 x.2.1 (qaS x.1.2.2 x.1.2.1))&&((inS x.2.2.1 (qaS x.1.2.2 x.1.2.1) (qaS x.1.2.2 x.1.2.1))&&((qp c0)&&((qp c2)&&((leI (qX x.1.2.1 0) 0)&&(qc1 (qX x.1.2.1 x.2.1) (qn c1) 32))))))then(qT c3.2 (fun y1=>(qbl 690 (p.u2 (c3.1)) (fun h2=>let c4:=(qrC h2.q2 (y1.1,((qX y1.2.1 (qaS y1.2.2 y1.2.1)),(qX y1.2.1 y0))) (([]:List qi),(0,())))
 (bif ((inS (qaS y1.2.2 y1.2.1) y0 (qaS (qn (qy (qN h2.q2 y1.1) ([]:List (EP3×(Int×Unit))))) y1.2.1))&&((h2.s2 y1.1)&&((leI y1.2.1 0)&&(qp c4))))then(qbl 790 (h2.u2 (qy c4 h2.q2)) (fun h3=>(some (h3,(y1,())))))else none)))))else none))))else none)
theorem qep (N:Nat):OkP 54 [.v (.sl 2 2),.v (.int .i64),.v (.int .i64)] [(.sl 2 2)] (qa1 N):=kpP nl 3 [] [31] HOk.nil N ⟨[],[(5,[7]),(6,[0,90000003]),(7,[90000003])],[]⟩ Try.func54 (by kernel_rfl) (by kernel_rfl) (fun p x=>by kernel_rfl)
noncomputable def qdM (N:Nat) (p:HpP) (x:((Int×Int)×Unit)):Option (HpP×(Int×Unit)):=
 (bif ((leI 0 x.1.1)&&((leI 0 x.1.1)&&((p.s0 x.1.1)&&(neI 2 0))))then(some (p,((qth .i64 (qaj .i64 (p.g0 x.1.1 x.1.2).1 1) 2),())))else none)
theorem qjO (N:Nat):OkP 72 [.v (.ptr 0 3)] [(.int .i64)] (qdM N):=kpP nl 1 [] [] HOk.nil N ⟨[],[],[]⟩ Try.func72 (by kernel_rfl) (by kernel_rfl) (fun p x=>by kernel_rfl)
noncomputable def qdk (N:Nat) (p:HpP) (x:((Int×Int)×Unit)):Option (HpP×(EP3×Unit)):=
 (qaE (S:=((Int×Int)×(HpP×Unit))) (R:=(HpP×(EP3×Unit))) N (fun ih0=>(fun s1=>let c0:=(qy (qr N s1.2.1 (s1.1,())) (s1.2.1,(false,())))
 (bif (qp (qr N s1.2.1 (s1.1,())))then(bif (! c0.2.1)then(qbl 290 c0.1 (fun h2=>(bif ((leI 0 s1.1.1)&&((leI 0 s1.1.1)&&((h2.s1 s1.1.1)&&((inB 0 (qaS (h2.g1 s1.1.1 s1.1.2).2.2.1.2.2 (h2.g1 s1.1.1 s1.1.2).2.2.1.2.1))&&(h2.s4 (h2.g1 s1.1.1 s1.1.2).2.2.1.1)))))then(ih0 ((h2.g4 (h2.g1 s1.1.1 s1.1.2).2.2.1.1 (qX (h2.g1 s1.1.1 s1.1.2).2.2.1.2.1 0)),(h2,())))else none)))else(qbl 390 c0.1 (fun h2=>(bif ((leI 0 s1.1.1)&&((leI 0 s1.1.1)&&((h2.s1 s1.1.1)&&((inB 0 (qaS (h2.g1 s1.1.1 s1.1.2).1.2.2 (h2.g1 s1.1.1 s1.1.2).1.2.1))&&((leI 0 (h2.g1 s1.1.1 s1.1.2).1.1)&&(h2.s2 (h2.g1 s1.1.1 s1.1.2).1.1))))))then(some (h2,((h2.g2 (h2.g1 s1.1.1 s1.1.2).1.1 (qX (h2.g1 s1.1.1 s1.1.2).1.2.1 0)).1,())))else none))))else none))) (x.1,(p,())))
theorem qlu (N:Nat):OkP 81 [.v (.ptr 1 3)] [(.slice ql)] (qdk N):=kpP nl 1 [] [] (HOk.cons (qbE N) HOk.nil) N ⟨[⟨1,[0,1,3,4,5,6,7,8,9,10,11],[(0,(.hv (.ptr 1 3))),(1,(.heap ksP))]⟩],[(2,[90000001]),(3,[90000001])],[]⟩ Try.func81 (by kernel_rfl) (by kernel_rfl) (fun p x=>by kernel_rfl)
noncomputable def qbb (N:Nat) (p:HpP) (x:((Int×(Int×Int))×(Int×(Int×Unit)))):Option (HpP×((Int×(Int×Int))×Unit)):=
 let c0:=(qcJ p.q4 (x.1.1,((qX x.1.2.1 x.2.2.1),(qX x.1.2.1 (qaS x.1.2.2 x.1.2.1)))))
 let c1:=(qy c0 ([]:List (Int×Int)))
 let c2:=(qfF p.q4 (x.1.1,((qX x.1.2.1 0),(qX x.1.2.1 x.2.1))) c1)
 let c3:=(qy c2 (p.q4,(x.1.1,((qX x.1.2.1 0),(qX x.1.2.1 x.2.1)))))
 (bif ((inS x.2.1 x.2.2.1 (qaS x.1.2.2 x.1.2.1))&&(leI (qaS x.1.2.2 x.1.2.1) (qaS x.1.2.2 x.1.2.1)))then(bif (eqI x.2.1 x.2.2.1)then(some (p,(x.1,())))else(qT (qaS x.1.2.2 x.1.2.1) (fun y0=>(bif ((inS 0 x.2.1 (qaS x.1.2.2 x.1.2.1))&&((inS x.2.2.1 (qaS x.1.2.2 x.1.2.1) (qaS x.1.2.2 x.1.2.1))&&((qp c0)&&((qp c2)&&((leI (qX x.1.2.1 0) 0)&&(qc1 (qX x.1.2.1 x.2.1) (qn c1) 8))))))then(qT c3.2 (fun y1=>(qbl 690 (p.u4 (c3.1)) (fun h2=>let c4:=(qrC h2.q4 (y1.1,((qX y1.2.1 (qaS y1.2.2 y1.2.1)),(qX y1.2.1 y0))) ((-1),0))
 (bif ((inS (qaS y1.2.2 y1.2.1) y0 (qaS (qn (qy (qN h2.q4 y1.1) ([]:List (Int×Int)))) y1.2.1))&&((h2.s4 y1.1)&&((leI y1.2.1 0)&&(qp c4))))then(qbl 790 (h2.u4 (qy c4 h2.q4)) (fun h3=>(some (h3,(y1,())))))else none)))))else none))))else none)
theorem qeA (N:Nat):OkP 82 [.v (.sl 4 1),.v (.int .i64),.v (.int .i64)] [(.sl 4 1)] (qbb N):=kpP nl 3 [] [31] HOk.nil N ⟨[],[(5,[7]),(6,[0,90000003]),(7,[90000003])],[]⟩ Try.func82 (by kernel_rfl) (by kernel_rfl) (fun p x=>by kernel_rfl)
noncomputable def qbx (N:Nat) (p:HpP) (x:((Int×(Int×Int))×(Int×(Int×Unit)))):Option (HpP×((Int×(Int×Int))×Unit)):=
 let c0:=(qcJ p.q3 (x.1.1,((qX x.1.2.1 x.2.2.1),(qX x.1.2.1 (qaS x.1.2.2 x.1.2.1)))))
 let c1:=(qy c0 ([]:List EP3))
 let c2:=(qfF p.q3 (x.1.1,((qX x.1.2.1 0),(qX x.1.2.1 x.2.1))) c1)
 let c3:=(qy c2 (p.q3,(x.1.1,((qX x.1.2.1 0),(qX x.1.2.1 x.2.1)))))
 (bif ((inS x.2.1 x.2.2.1 (qaS x.1.2.2 x.1.2.1))&&(leI (qaS x.1.2.2 x.1.2.1) (qaS x.1.2.2 x.1.2.1)))then(bif (eqI x.2.1 x.2.2.1)then(some (p,(x.1,())))else(qT (qaS x.1.2.2 x.1.2.1) (fun y0=>(bif ((inS 0 x.2.1 (qaS x.1.2.2 x.1.2.1))&&((inS x.2.2.1 (qaS x.1.2.2 x.1.2.1) (qaS x.1.2.2 x.1.2.1))&&((qp c0)&&((qp c2)&&((leI (qX x.1.2.1 0) 0)&&(qc1 (qX x.1.2.1 x.2.1) (qn c1) 24))))))then(qT c3.2 (fun y1=>(qbl 690 (p.u3 (c3.1)) (fun h2=>let c4:=(qrC h2.q3 (y1.1,((qX y1.2.1 (qaS y1.2.2 y1.2.1)),(qX y1.2.1 y0))) ([]:List qi))
 (bif ((inS (qaS y1.2.2 y1.2.1) y0 (qaS (qn (qy (qN h2.q3 y1.1) ([]:List EP3))) y1.2.1))&&((h2.s3 y1.1)&&((leI y1.2.1 0)&&(qp c4))))then(qbl 790 (h2.u3 (qy c4 h2.q3)) (fun h3=>(some (h3,(y1,())))))else none)))))else none))))else none)
theorem qfs (N:Nat):OkP 83 [.v (.sl 3 1),.v (.int .i64),.v (.int .i64)] [(.sl 3 1)] (qbx N):=kpP nl 3 [] [31] HOk.nil N ⟨[],[(5,[7]),(6,[0,90000003]),(7,[90000003])],[]⟩ Try.func83 (by kernel_rfl) (by kernel_rfl) (fun p x=>by kernel_rfl)
noncomputable def qc6 (N:Nat) (p:HpP) (x:((Int×Int)×(Int×Unit))):Option (HpP×Unit):=
 let c0:=(qaS (p.g1 x.1.1 x.1.2).2.2.1.2.2 (p.g1 x.1.1 x.1.2).2.2.1.2.1)
 let c1:=(p.g4 (p.g1 x.1.1 x.1.2).2.2.1.1 (qX (p.g1 x.1.1 x.1.2).2.2.1.2.1 x.2.1))
 let c2:=(qr N p (c1,()))
 let c3:=(qy c2 (p,(false,())))
 let c4:=(! c3.2.1)
 let c5:=(p.g4 (p.g1 x.1.1 x.1.2).2.2.1.1 (qX (p.g1 x.1.1 x.1.2).2.2.1.2.1 (qaj .i64 x.2.1 1)))
 let c6:=(qdk N c3.1 (c5,()))
 let c7:=(qy c6 (c3.1,(([]:List qi),())))
 let c8:=(leI 0 c5.1)
 (bif ((leI 0 x.1.1)&&((leI 0 x.1.1)&&((p.s1 x.1.1)&&((inB x.2.1 c0)&&((p.s4 (p.g1 x.1.1 x.1.2).2.2.1.1)&&((leI 0 x.1.1)&&((leI 0 x.1.1)&&((p.s1 x.1.1)&&((inB (qaj .i64 x.2.1 1) c0)&&(p.s4 (p.g1 x.1.1 x.1.2).2.2.1.1))))))))))then(bif (qp c2)then(qT c1 (fun y0=>let c9:=(qfF c7.1.q3 (c3.1.g1 y0.1 y0.2).2.1 ([c7.2.1]:List EP3))
 let c10:=(qy c9 (c7.1.q3,(c3.1.g1 y0.1 y0.2).2.1))
 (bif (bif c4 then((leI 0 y0.1)&&((leI 0 y0.1)&&((c3.1.s1 y0.1)&&((qp c6)&&((qp c9)&&((leI (c3.1.g1 y0.1 y0.2).2.1.2.1 0)&&((qc1 (c3.1.g1 y0.1 y0.2).2.1.2.2 (qn ([c7.2.1]:List EP3)) 24)&&((leI 0 y0.1)&&((leI 0 y0.1)&&((c7.1.s1 y0.1)&&(qmF (qN c3.1.q1 y0.1) (qN c7.1.q1 y0.1))))))))))))else true)then(qbl 390 (bfP c4 ((c7.1.w1 y0.1 y0.2 ((c7.1.g1 y0.1 y0.2).1,(c10.2,(c7.1.g1 y0.1 y0.2).2.2))).u3 (c10.1)) c3.1) (fun h1=>let c11:=(qcJ h1.q2 (h1.g1 c5.1 c5.2).1)
 let c12:=(qy c11 ([]:List (EP3×(Int×Unit))))
 let c13:=(qfF h1.q2 (h1.g1 y0.1 y0.2).1 c12)
 let c14:=(qy c13 (h1.q2,(h1.g1 y0.1 y0.2).1))
 (bif ((leI 0 y0.1)&&((leI 0 y0.1)&&((h1.s1 y0.1)&&(c8&&(c8&&((h1.s1 c5.1)&&((qp c11)&&((qp c13)&&((leI (h1.g1 y0.1 y0.2).1.2.1 0)&&((qc1 (h1.g1 y0.1 y0.2).1.2.2 (qn c12) 32)&&((leI 0 y0.1)&&((leI 0 y0.1)&&(h1.s1 y0.1)))))))))))))then(qbl 490 ((h1.w1 y0.1 y0.2 (c14.2,(h1.g1 y0.1 y0.2).2)).u2 (c14.1)) (fun h2=>let c15:=(h2.s1 c5.1)
 let c16:=(h2.g1 c5.1 c5.2)
 let c17:=(qcJ h2.q4 c16.2.2.1)
 let c18:=(qy c17 ([]:List (Int×Int)))
 let c19:=(qfF h2.q4 (h2.g1 y0.1 y0.2).2.2.1 c18)
 let c20:=(qcJ h2.q3 c16.2.1)
 let c21:=(qy c20 ([]:List EP3))
 let c22:=(qfF h2.q3 (h2.g1 y0.1 y0.2).2.1 c21)
 let c23:=(qy c19 (h2.q4,(h2.g1 y0.1 y0.2).2.2.1))
 let c24:=(qdD h2.q1 y0.1 (qdz (qy (qN h2.q1 y0.1) ([]:List EP1)) y0.2 ((h2.g1 y0.1 y0.2).1,((h2.g1 y0.1 y0.2).2.1,(c23.2,(h2.g1 y0.1 y0.2).2.2.2)))))
 let c25:=(qN c24 y0.1)
 let c26:=(qN h2.q1 c5.1)
 let c27:=(qy c25 ([]:List EP1))
 let c28:=(qJ c27 y0.2 zP1)
 let c29:=(qy c22 (h2.q3,(h2.g1 y0.1 y0.2).2.1))
 (bif ((leI 0 y0.1)&&((leI 0 y0.1)&&((h2.s1 y0.1)&&(c8&&(c8&&(c15&&((qp c17)&&((qp c19)&&((leI (h2.g1 y0.1 y0.2).2.2.1.2.1 0)&&((qc1 (h2.g1 y0.1 y0.2).2.2.1.2.2 (qn c18) 8)&&((leI 0 y0.1)&&((leI 0 y0.1)&&((h2.s1 y0.1)&&(c8&&(c8&&(c15&&((qp c20)&&((qp c22)&&((leI (h2.g1 y0.1 y0.2).2.1.2.1 0)&&((qc1 (h2.g1 y0.1 y0.2).2.1.2.2 (qn c21) 24)&&((leI 0 y0.1)&&((leI 0 y0.1)&&((h2.s1 y0.1)&&((leI 0 y0.1)&&((leI 0 y0.1)&&((qp c25)&&((qmF (qN h2.q1 y0.1) (qN h2.q1 y0.1))&&(qmF c26 c26))))))))))))))))))))))))))))then(qbl 590 (((h2.u1 (qdD c24 y0.1 (qdz c27 y0.2 (c28.1,(c29.2,c28.2.2))))).u3 (c29.1)).u4 (c23.1)) (fun h3=>let c30:=(qbb N h3 ((h3.g1 x.1.1 x.1.2).2.2.1,((qaj .i64 x.2.1 1),((qaj .i64 x.2.1 2),()))))
 let c31:=(qy c30 (h3,(((-1),(0,0)),())))
 (bif ((leI 0 x.1.1)&&((leI 0 x.1.1)&&((h3.s1 x.1.1)&&((qp c30)&&((leI 0 x.1.1)&&((leI 0 x.1.1)&&(c31.1.s1 x.1.1)))))))then(qbl 690 (c31.1.w1 x.1.1 x.1.2 ((c31.1.g1 x.1.1 x.1.2).1,((c31.1.g1 x.1.1 x.1.2).2.1,(c31.2.1,(c31.1.g1 x.1.1 x.1.2).2.2.2)))) (fun h4=>let c32:=(qbx N h4 ((h4.g1 x.1.1 x.1.2).2.1,(x.2.1,((qaj .i64 x.2.1 1),()))))
 let c33:=(qy c32 (h4,(((-1),(0,0)),())))
 (bif ((leI 0 x.1.1)&&((leI 0 x.1.1)&&((h4.s1 x.1.1)&&((qp c32)&&((leI 0 x.1.1)&&((leI 0 x.1.1)&&(c33.1.s1 x.1.1)))))))then(some ((c33.1.w1 x.1.1 x.1.2 ((c33.1.g1 x.1.1 x.1.2).1,(c33.2.1,(c33.1.g1 x.1.1 x.1.2).2.2))),()))else none)))else none)))else none)))else none)))else none)))else none)else none)
theorem qlW (N:Nat):OkP 73 [.v (.ptr 1 3),.v (.int .i64)] [] (qc6 N):=kpP nl 2 [] [] (HOk.cons (qbE N) (HOk.cons (qlu N) (HOk.cons (qeA N) (HOk.cons (qfs N) HOk.nil)))) N ⟨[],[(1000002,[4]),(3,[90000002]),(4,[90000002]),(5,[90000002]),(6,[90000002])],[]⟩ Try.func73 (by kernel_rfl) (by kernel_rfl) (fun p x=>by kernel_rfl)
noncomputable def qdb (N:Nat) (p:HpP) (x:((Int×Int)×((Int×Int)×(Int×Unit)))):Option (HpP×Unit):=
 let c0:=(qV N p ((p.g4 (p.g1 x.2.1.1 x.2.1.2).2.2.1.1 (qX (p.g1 x.2.1.1 x.2.1.2).2.2.1.2.1 x.2.2.1)),()))
 let c1:=(qy c0 (p,(0,())))
 let c2:=(qdM N c1.1 (x.1,()))
 let c3:=(qy c2 (c1.1,(0,())))
 (bif ((leI 0 x.2.1.1)&&((leI 0 x.2.1.1)&&((p.s1 x.2.1.1)&&((inB x.2.2.1 (qaS (p.g1 x.2.1.1 x.2.1.2).2.2.1.2.2 (p.g1 x.2.1.1 x.2.1.2).2.2.1.2.1))&&((p.s4 (p.g1 x.2.1.1 x.2.1.2).2.2.1.1)&&((qp c0)&&(qp c2)))))))then(bif (leI c3.2.1 c1.2.1)then(some (c3.1,()))else(qbl 190 c3.1 (fun h0=>(bif ((leI 0 x.2.1.1)&&((leI 0 x.2.1.1)&&(h0.s1 x.2.1.1)))then(qT (bif (eqI x.2.2.1 (qaF .i64 (qaS (h0.g1 x.2.1.1 x.2.1.2).2.2.1.2.2 (h0.g1 x.2.1.1 x.2.1.2).2.2.1.2.1) 1))then(qaF .i64 x.2.2.1 1)else x.2.2.1) (fun y1=>let c4:=(qc6 N h0 (x.2.1,(y1,())))
 (bif (qp c4)then(qT x.2.1 (fun y2=>(qT y1 (fun y3=>(qbl 490 (qy c4 (h0,())).1 (fun h4=>let c5:=(qa8 N h4 (x.1,(y2,(y3,()))))
 (bif (qp c5)then(some ((qy c5 (h4,())).1,()))else none)))))))else none)))else none))))else none)
theorem qin (N:Nat):OkP 55 [.v (.ptr 0 3),.v (.ptr 1 3),.v (.int .i64)] [] (qdb N):=kpP nl 3 [] [] (HOk.cons (qdP N) (HOk.cons (qeX N) (HOk.cons (qjO N) (HOk.cons (qlW N) HOk.nil)))) N ⟨[],[(1,[90000003]),(3,[2]),(4,[1,2,90000003])],[]⟩ Try.func55 (by kernel_rfl) (by kernel_rfl) (fun p x=>by kernel_rfl)
noncomputable def qbt (N:Nat) (M:Nat):HpP→((Int×Int)×((Int×Int)×(EP3×Unit)))→Option (HpP×(Bool×Unit)):=
 Nat.rec (motive:=fun _=>HpP→((Int×Int)×((Int×Int)×(EP3×Unit)))→Option (HpP×(Bool×Unit))) (fun _ _=>none) (fun _ g_=>fun p x=>
 let c0:=(qy (qr N p (x.2.1,())) (p,(false,())))
 (bif (qp (qr N p (x.2.1,())))then(qT x.2.1 (fun y0=>(qT c0.2.1 (fun y1=>(bif y1 then(qbl 290 c0.1 (fun h2=>let c1:=(qy (qbr N h2 (y0,x.2.2)) (h2,(0,(false,()))))
 (bif (qp (qbr N h2 (y0,x.2.2)))then(qT y0 (fun y3=>(qT x.2.2.1 (fun y4=>(qT c1.2.1 (fun y5=>(qT c1.2.2.1 (fun y6=>(qbl 390 c1.1 (fun h7=>let c2:=(qa1 N h7 ((h7.g1 y3.1 y3.2).1,(y5,((qaj .i64 y5 1),()))))
 let c3:=(qy c2 (h7,(((-1),(0,0)),())))
 (bif (bif y6 then((leI 0 y3.1)&&((leI 0 y3.1)&&((h7.s1 y3.1)&&((qp c2)&&((leI 0 y3.1)&&((leI 0 y3.1)&&(c3.1.s1 y3.1)))))))else true)then(qbl 590 (bfP y6 (c3.1.w1 y3.1 y3.2 (c3.2.1,(c3.1.g1 y3.1 y3.2).2)) h7) (fun h8=>(some (h8,(y6,())))))else none)))))))))))else none)))else(qbl 690 c0.1 (fun h2=>let c4:=(qbg N h2 (y0,x.2.2))
 let c5:=(qy c4 (h2,(0,())))
 (bif (qp c4)then(qT y0 (fun y3=>(qT x.2.2.1 (fun y4=>(qT c5.2.1 (fun y5=>(qbl 790 c5.1 (fun h6=>let c6:=(g_ h6 (x.1,((h6.g4 (h6.g1 y3.1 y3.2).2.2.1.1 (qX (h6.g1 y3.1 y3.2).2.2.1.2.1 y5)),(y4,()))))
 let c7:=(qy c6 (h6,(false,())))
 (bif ((leI 0 y3.1)&&((leI 0 y3.1)&&((h6.s1 y3.1)&&((inB y5 (qaS (h6.g1 y3.1 y3.2).2.2.1.2.2 (h6.g1 y3.1 y3.2).2.2.1.2.1))&&((h6.s4 (h6.g1 y3.1 y3.2).2.2.1.1)&&(qp c6))))))then(qT x.1 (fun y7=>(qT y4 (fun y8=>(qT c7.2.1 (fun y9=>(qbl 890 c7.1 (fun h10=>let c8:=(qdb N h10 (y7,(y3,(y5,()))))
 (bif (qp c8)then(qT y7 (fun y11=>(qT y3 (fun y12=>(qbl 990 (qy c8 (h10,())).1 (fun h13=>(some (h13,(y9,())))))))))else none)))))))))else none)))))))))else none))))))))else none)) M
noncomputable def qfq (N:Nat):HpP→((Int×Int)×((Int×Int)×(EP3×Unit)))→Option (HpP×(Bool×Unit)):=qbt N N
theorem qjI (N:Nat) (M:Nat):OkP 38 [.v (.ptr 0 3),.v (.ptr 1 3),.v (.slice ql)] [.bool] (qbt N M):=
 Nat.rec (motive:=fun M=>OkP 38 [.v (.ptr 0 3),.v (.ptr 1 3),.v (.slice ql)] [.bool] (qbt N M)) (qnO Try.func38 (by kernel_rfl) (by kernel_rfl)) (fun M ih=>kpP nl 3 [] [] (HOk.cons (qbE N) (HOk.cons (qdK N) (HOk.cons (qcp N) (HOk.cons ih (HOk.cons (qep N) (HOk.cons (qin N) HOk.nil)))))) N ⟨[],[(1000002,[1,12]),(2,[90000003]),(3,[1,2,7,8,90000003]),(5,[90000003]),(6,[90000003]),(7,[1,2,9,90000003]),(8,[0,2,10,90000003]),(9,[0,1,90000003])],[]⟩ Try.func38 (by kernel_rfl) (by kernel_rfl) (fun p x=>by kernel_rfl)) M
theorem qly (N:Nat):OkP 38 [.v (.ptr 0 3),.v (.ptr 1 3),.v (.slice ql)] [.bool] (qfq N):=qjI N N
noncomputable def qbu (N:Nat) (p:HpP) (x:((Int×Int)×(EP3×Unit))):Option (HpP×(Int×Unit)):=
 (bif (qp (qZ N x.2))then(qT x.2.1 (fun y0=>let c0:=(qfq N p (x.1,((p.g0 x.1.1 x.1.2).2.1,(y0,()))))
 let c1:=(qy c0 (p,(false,())))
 (qT (qy (qZ N x.2) ((0,()),())).1.1 (fun y1=>(bif (neI y1 0)then(some (p,(y1,())))else(bif ((leI 0 x.1.1)&&((leI 0 x.1.1)&&((p.s0 x.1.1)&&(qp c0))))then(qT x.1 (fun y2=>(qT y0 (fun y3=>(bif (! c1.2.1)then(qbl 590 c1.1 (fun h4=>(some (h4,(4,())))))else(qbl 690 c1.1 (fun h4=>let c2:=(h4.g1 (h4.g0 y2.1 y2.2).2.1.1 (h4.g0 y2.1 y2.2).2.1.2)
 let c3:=(qaS c2.2.2.1.2.2 c2.2.2.1.2.1)
 let c4:=(eqI c3 1)
 (bif ((leI 0 y2.1)&&((leI 0 y2.1)&&((h4.s0 y2.1)&&((leI 0 (h4.g0 y2.1 y2.2).2.1.1)&&((leI 0 (h4.g0 y2.1 y2.2).2.1.1)&&(h4.s1 (h4.g0 y2.1 y2.2).2.1.1))))))then(bif (bif c4 then((leI 0 y2.1)&&((leI 0 y2.1)&&((h4.s0 y2.1)&&((leI 0 (h4.g0 y2.1 y2.2).2.1.1)&&((leI 0 (h4.g0 y2.1 y2.2).2.1.1)&&((h4.s1 (h4.g0 y2.1 y2.2).2.1.1)&&((inB 0 c3)&&((h4.s4 c2.2.2.1.1)&&((leI 0 y2.1)&&((leI 0 y2.1)&&(h4.s0 y2.1)))))))))))else true)then(qbl 890 (bfP c4 (h4.w0 y2.1 y2.2 ((h4.g0 y2.1 y2.2).1,((h4.g4 c2.2.2.1.1 (qX c2.2.2.1.2.1 0)),(h4.g0 y2.1 y2.2).2.2))) h4) (fun h5=>(bif ((leI 0 y2.1)&&((leI 0 y2.1)&&((h5.s0 y2.1)&&((leI 0 y2.1)&&((leI 0 y2.1)&&(h5.s0 y2.1))))))then(qbl 990 (h5.w0 y2.1 y2.2 ((h5.g0 y2.1 y2.2).1,((h5.g0 y2.1 y2.2).2.1,((qaF .i64 (h5.g0 y2.1 y2.2).2.2.1 1),(h5.g0 y2.1 y2.2).2.2.2)))) (fun h6=>(some (h6,(0,())))))else none)))else none)else none))))))))else none))))))else none)
theorem qkW (N:Nat):OkP 18 [.v (.ptr 0 3),.v (.slice ql)] [(.int .i64)] (qbu N):=kpP (cn (qb8 N) nl) 2 [] [] (HOk.cons (qly N) HOk.nil) N ⟨[],[(1000005,[0,1]),(2,[1,5]),(5,[90000002]),(6,[90000002]),(8,[90000002]),(9,[90000002])],[]⟩ Try.func18 (by kernel_rfl) (by kernel_rfl) (fun p x=>by kernel_rfl)
noncomputable def qcQ (N:Nat) (p:HpP) (x:((Int×Int)×(EP3×Unit))):Option (HpP×(Int×(Int×Unit))):=
 (bif (qp (qZ N x.2))then(qT x.2.1 (fun y0=>(qT (qy (qZ N x.2) ((0,()),())).1.1 (fun y1=>(bif (neI y1 0)then(some (p,(0,(y1,()))))else(bif ((leI 0 x.1.1)&&((leI 0 x.1.1)&&(p.s0 x.1.1)))then(qaE (S:=(HpP×((Int×Int)×Unit))) (R:=(HpP×(Int×(Int×Unit)))) N (fun ih2=>(fun s1=>let c0:=(qy (qr N s1.1 s1.2) (s1.1,(false,())))
 (bif (qp (qr N s1.1 s1.2))then(bif (! c0.2.1)then(qbl 690 c0.1 (fun h4=>let c1:=(qbg N h4 (s1.2.1,(y0,())))
 let c2:=(qy c1 (h4,(0,())))
 (bif ((leI 0 s1.2.1.1)&&((leI 0 s1.2.1.1)&&((h4.s1 s1.2.1.1)&&((qp c1)&&((inB c2.2.1 (qaS (h4.g1 s1.2.1.1 s1.2.1.2).2.2.1.2.2 (h4.g1 s1.2.1.1 s1.2.1.2).2.2.1.2.1))&&((c2.1.s4 (h4.g1 s1.2.1.1 s1.2.1.2).2.2.1.1)&&(qmF (qN h4.q1 s1.2.1.1) (qN c2.1.q1 s1.2.1.1))))))))then(ih2 (c2.1,((c2.1.g4 (h4.g1 s1.2.1.1 s1.2.1.2).2.2.1.1 (qX (h4.g1 s1.2.1.1 s1.2.1.2).2.2.1.2.1 c2.2.1)),())))else none)))else(qbl 790 c0.1 (fun h4=>let c3:=(qbr N h4 (s1.2.1,(y0,())))
 let c4:=(qy c3 (h4,(0,(false,()))))
 (bif (qp c3)then(qT y0 (fun y5=>(qT s1.2.1 (fun y6=>(qT c4.2.1 (fun y7=>(qT c4.2.2.1 (fun y8=>(qbl 890 c4.1 (fun h9=>(bif (!y8)then(some (h9,(0,(4,()))))else(bif ((leI 0 y6.1)&&((leI 0 y6.1)&&((h9.s1 y6.1)&&((inB y7 (qaS (h9.g1 y6.1 y6.2).1.2.2 (h9.g1 y6.1 y6.2).1.2.1))&&((leI 0 (h9.g1 y6.1 y6.2).1.1)&&(h9.s2 (h9.g1 y6.1 y6.2).1.1))))))then(some (h9,((h9.g2 (h9.g1 y6.1 y6.2).1.1 (qX (h9.g1 y6.1 y6.2).1.2.1 y7)).2.1,(0,()))))else none))))))))))))else none))))else none))) (p,((p.g0 x.1.1 x.1.2).2.1,())))else none))))))else none)
theorem qnM (N:Nat):OkP 19 [.v (.ptr 0 3),.v (.slice ql)] [(.int .i64),(.int .i64)] (qcQ N):=kpP (cn (qb8 N) nl) 2 [] [] (HOk.cons (qbE N) (HOk.cons (qdK N) (HOk.cons (qcp N) HOk.nil))) N ⟨[⟨5,[2,7,19,20,21,22,23,24,25,26,27,28,29,30],[(2,(.heap ksP)),(7,(.hv (.ptr 1 3)))]⟩],[(2,[1,6]),(6,[90000002]),(7,[90000002]),(8,[1,7,8,9,90000002])],[]⟩ Try.func19 (by kernel_rfl) (by kernel_rfl) (fun p x=>by kernel_rfl)
noncomputable def qbS (N:Nat) (p:HpP) (x:((Int×(Int×Int))×(EP3×Unit))):Option (HpP×(Int×(Bool×Unit))):=
 (qaE (S:=(Int×Unit)) (R:=(HpP×(Int×(Bool×Unit)))) N (fun ih0=>(fun s1=>let c0:=(qC N ((p.g2 x.1.1 (qX x.1.2.1 s1.1)).1,x.2))
 (bif (ltI s1.1 (qaS x.1.2.2 x.1.2.1))then(bif ((inB s1.1 (qaS x.1.2.2 x.1.2.1))&&(p.s2 x.1.1))then(bif (qp c0)then(qT x.2.1 (fun y2=>(bif (eqI (qy c0 ((0,()),())).1.1 0)then(some (p,((p.g2 x.1.1 (qX x.1.2.1 s1.1)).2.1,(true,()))))else(ih0 ((qaj .i64 s1.1 1),())))))else none)else none)else(some (p,(0,(false,()))))))) (0,()))
theorem qi6 (N:Nat):OkP 20 [.v (.sl 2 2),.v (.slice ql)] [(.int .i64),.bool] (qbS N):=kpP (cn (qbe N) nl) 2 [] [] HOk.nil N ⟨[⟨2,[4,5,7,10,11,12,13,14,15,16,17,18,19,20,21],[(10,(.val (.int .i64)))]⟩],[(1000005,[1])],[]⟩ Try.func20 (by kernel_rfl) (by kernel_rfl) (fun p x=>by kernel_rfl)
noncomputable def qbf (N:Nat) (p:HpP) (x:((Int×Int)×((Int×Int)×((Int×(Int×(EP3×Unit)))×Unit)))):Option (HpP×(Bool×Unit)):=
 let c0:=(qfX N p (x.1,(x.2.2.1.2.2.1,(x.2.2.1.2.1,()))))
 let c1:=(qy c0 (p,(false,(0,()))))
 let c2:=(qcn N p (x.2.1,x.2.2.1.2.2))
 let c3:=(qy c2 (p,(false,())))
 let c4:=(qy (qcQ N p (x.1,x.2.2.1.2.2)) (p,(0,(0,()))))
 (bif (qp (qaT N x.2.2.1.2.2))then(qT (qy (qaT N x.2.2.1.2.2) ((0,()),())).1.1 (fun y0=>(bif (eqI x.2.2.1.1 1)then(bif (qp c0)then(qT x.1 (fun y1=>(qT c1.2.1 (fun y2=>(qT c1.2.2.1 (fun y3=>(qbl 590 c1.1 (fun h4=>let c5:=(qdo N h4 (x.2.1,(x.2.2.1.2.2.1,(x.2.2.1.2.1,()))))
 let c6:=(qy c5 (h4,(false,())))
 (bif ((! (eqI y0 0))||(qp c5))then(qT x.2.1 (fun y5=>(qT ((eqI y0 0)&&c6.2.1) (fun y6=>(qbl 690 (bfP (eqI y0 0) c6.1 h4) (fun h7=>(some (h7,(((eqB y2 y6)&&(eqI y3 y0)),())))))))))else none)))))))))else none)else(bif (eqI x.2.2.1.1 2)then(bif ((! (eqI y0 0))||(qp c2))then(qT x.2.1 (fun y1=>(qT ((eqI y0 0)&&(! c3.2.1)) (fun y2=>(qT x.2.2.1 (fun y3=>(qT (bif y2 then 4 else y0) (fun y4=>(qbl 1090 (bfP (eqI y0 0) c3.1 p) (fun h5=>let c7:=(qy (qbu N h5 (x.1,y3.2.2)) (h5,(0,())))
 (bif (qp (qbu N h5 (x.1,y3.2.2)))then(some (c7.1,((eqI c7.2.1 y4),())))else none)))))))))))else none)else(bif (qp (qcQ N p (x.1,x.2.2.1.2.2)))then(qT x.1 (fun y1=>(qT c4.2.1 (fun y2=>(qT c4.2.2.1 (fun y3=>(qbl 1290 c4.1 (fun h4=>let c8:=(qbS N h4 ((h4.g7 x.2.1.1 x.2.1.2),x.2.2.1.2.2))
 let c9:=(qy c8 (h4,(0,(false,()))))
 (bif ((leI 0 x.2.1.1)&&((h4.s7 x.2.1.1)&&(qp c8)))then(qT c9.2.1 (fun y5=>(qT c9.2.2.1 (fun y6=>(qbl 1390 c9.1 (fun h7=>(qT ((eqI y0 0)&&(!y6)) (fun y8=>(qT (bif y8 then 4 else y0) (fun y9=>(some (h7,(((eqI y3 y9)&&(((eqI y3 0)&&(eqI y2 y5))||((neI y3 0)&&(eqI y2 0)))),())))))))))))))else none)))))))))else none)))))else none)
theorem qfy (N:Nat):OkP 6 [.v (.ptr 0 3),.v (.ptr 7 1),.v qbJ] [.bool] (qbf N):=kpP (cn (qey N) nl) 3 [] [] (HOk.cons (qoE N) (HOk.cons (qjf N) (HOk.cons (qhx N) (HOk.cons (qkW N) (HOk.cons (qnM N) (HOk.cons (qi6 N) HOk.nil)))))) N ⟨[],[(1000009,[1,59]),(1000014,[87]),(2,[7]),(5,[0,8,9,90000003]),(6,[1,10,90000003]),(10,[5,7,90000003]),(12,[0,11,12,90000003]),(13,[13,14,90000003]),(15,[7])],[]⟩ Try.func6 (by kernel_rfl) (by kernel_rfl) (fun p x=>by kernel_rfl)
noncomputable def qbI (N:Nat) (M:Nat):HpP→((Int×Int)×Unit)→Option (HpP×(qcr×Unit)):=
 Nat.rec (motive:=fun _=>HpP→((Int×Int)×Unit)→Option (HpP×(qcr×Unit))) (fun _ _=>none) (fun _ g_=>fun p x=>
 let c0:=(qy (qr N p x) (p,(false,())))
 (bif (qp (qr N p x))then(qT x.1 (fun y0=>(qT c0.2.1 (fun y1=>(bif y1 then(qbl 290 c0.1 (fun h2=>(some (h2,((0,(1,(1,(0,(0,()))))),())))))else(qbl 390 c0.1 (fun h2=>let c1:=(qaS (h2.g1 y0.1 y0.2).2.2.1.2.2 (h2.g1 y0.1 y0.2).2.2.1.2.1)
 (bif ((leI 0 y0.1)&&((leI 0 y0.1)&&(h2.s1 y0.1)))then(qaE (S:=(HpP×(qcr×(Int×Unit)))) (R:=(HpP×(qcr×Unit))) N (fun ih3=>(fun s1=>let c2:=(s1.1.g4 (h2.g1 y0.1 y0.2).2.2.1.1 (qX (h2.g1 y0.1 y0.2).2.2.1.2.1 s1.2.2.1))
 let c3:=(g_ s1.1 (c2,()))
 let c4:=(qy c3 (s1.1,((0,(0,(0,(0,(0,()))))),())))
 let c5:=(qo9 s1.2.1.2.1 (qaj .i64 c4.2.1.2.1 1))
 let c6:=(qnI s1.2.1.2.2.1 (qaj .i64 c4.2.1.2.2.1 1))
 (bif (ltI s1.2.2.1 c1)then(bif ((inB s1.2.2.1 c1)&&(s1.1.s4 (h2.g1 y0.1 y0.2).2.2.1.1))then(bif (qp c3)then(qT c2 (fun y5=>(qbl 890 c4.1 (fun h6=>let c7:=(qy (qV N h6 (y5,())) (h6,(0,())))
 let c8:=(qV N c7.1 (y5,()))
 let c9:=(qy c8 (c7.1,(0,())))
 let c10:=(qo9 s1.2.1.2.2.2.1 c7.2.1)
 (bif ((qp (qV N h6 (y5,())))&&(qp c8))then(qT y5 (fun y7=>(qbl 1090 c9.1 (fun h8=>let c11:=(qy (qr N h8 (y7,())) (h8,(false,())))
 (bif (qp (qr N h8 (y7,())))then(qbl 1290 c11.1 (fun h9=>(ih3 (h9,((bif (! c11.2.1)then(s1.2.1.1,(c5,(c6,((qo9 c10 c4.2.1.2.2.2.1),((qnI (qnI s1.2.1.2.2.2.2.1 c9.2.1) c4.2.1.2.2.2.2.1),s1.2.1.2.2.2.2.2)))))else(s1.2.1.1,(c5,(c6,(c10,((qnI (qnI s1.2.1.2.2.2.2.1 c9.2.1) c4.2.1.2.2.2.2.1),s1.2.1.2.2.2.2.2)))))),((qaj .i64 s1.2.2.1 1),()))))))else none)))))else none)))))else none)else none)else(some (s1.1,(s1.2.1,())))))) (h2,((0,(1048576,(0,(16,(0,()))))),(0,()))))else none))))))))else none)) M
noncomputable def qfY (N:Nat):HpP→((Int×Int)×Unit)→Option (HpP×(qcr×Unit)):=qbI N N
theorem qk5 (N:Nat) (M:Nat):OkP 21 [.v (.ptr 1 3)] [qc3] (qbI N M):=
 Nat.rec (motive:=fun M=>OkP 21 [.v (.ptr 1 3)] [qc3] (qbI N M)) (qnO Try.func21 (by kernel_rfl) (by kernel_rfl)) (fun M ih=>kpP nl 1 [] [] (HOk.cons ih (HOk.cons (qbE N) (HOk.cons (qdP N) HOk.nil))) N ⟨[⟨5,[1,3,5,6,16,17,18,19,20,21,22,23,24,25,26,27,28,29,30,31,32,33,34,35,36,37,38,39,40,41,42,43,44,45,46,47,48,49,50,51,52,53,54,55,56,57,58,59],[(1,(.heap ksP)),(3,(.box (.val (.pair (.int .i64) (.pair (.int .i64) (.pair (.int .i64) (.pair (.int .i64) (.pair (.int .i64) .unit)))))))),(16,(.val (.int .i64)))]⟩],[(1000002,[0,8]),(2,[90000001]),(3,[90000001]),(8,[5,90000001]),(10,[5,90000001]),(12,[90000001])],[]⟩ Try.func21 (by kernel_rfl) (by kernel_rfl) (fun p x=>by kernel_rfl)) M
theorem qlQ (N:Nat):OkP 21 [.v (.ptr 1 3)] [qc3] (qfY N):=qk5 N N
noncomputable def qc4 (N:Nat) (p:HpP) (x:((Int×Int)×Unit)):Option (HpP×(qcr×Unit)):=
 let c0:=(qfY N p ((p.g0 x.1.1 x.1.2).2.1,()))
 let c1:=(qy c0 (p,((0,(0,(0,(0,(0,()))))),())))
 (bif ((leI 0 x.1.1)&&((leI 0 x.1.1)&&((p.s0 x.1.1)&&(qp c0))))then(qbl 290 c1.1 (fun h0=>(bif ((leI 0 x.1.1)&&((leI 0 x.1.1)&&(h0.s0 x.1.1)))then(some (h0,(((h0.g0 x.1.1 x.1.2).2.2.1,c1.2.1.2),())))else none)))else none)
theorem qlY (N:Nat):OkP 7 [.v (.ptr 0 3)] [qc3] (qc4 N):=kpP nl 1 [] [] (HOk.cons (qlQ N) HOk.nil) N ⟨[],[(2,[90000001])],[]⟩ Try.func7 (by kernel_rfl) (by kernel_rfl) (fun p x=>by kernel_rfl)
noncomputable def qce (N:Nat) (p:HpP) (x:((EP3×(Int×Unit))×((Int×Int)×((Int×Int)×((Int×Int)×Unit))))):Option (HpP×(Bool×Unit)):=
 let c0:=(leI (p.g6 x.2.2.1.1 x.2.2.1.2) (qaS (p.g5 x.2.1.1 x.2.1.2).2.2 (p.g5 x.2.1.1 x.2.1.2).2.1))
 let c1:=(! (! c0))
 let c2:=(qY N (x.1.1,((p.g3 x.2.2.2.1.1 x.2.2.2.1.2),())))
 let c3:=(qaD N (x.1.1,()))
 let c4:=(qfF p.q2 (p.g5 x.2.1.1 x.2.1.2) ([((qy c3 ((([]:List qi),()),())).1.1,x.1.2)]:List (EP3×(Int×Unit))))
 let c5:=(qy c4 (p.q2,(p.g5 x.2.1.1 x.2.1.2)))
 (bif ((p.s5 x.2.1.1)&&((p.s6 x.2.2.1.1)&&((c1||(p.s3 x.2.2.2.1.1))&&(c1||(qp c2)))))then(qT (c0||(leI 0 (qy c2 ((0,()),())).1.1)) (fun y0=>(bif y0 then(some (p,(false,())))else(bif ((p.s5 x.2.1.1)&&((qp c3)&&((qp c4)&&((leI (p.g5 x.2.1.1 x.2.1.2).2.1 0)&&((qc1 (p.g5 x.2.1.1 x.2.1.2).2.2 (qn ([((qy c3 ((([]:List qi),()),())).1.1,x.1.2)]:List (EP3×(Int×Unit)))) 32)&&(p.s5 x.2.1.1))))))then(qbl 490 ((p.u2 (c5.1)).u5 (qdD p.q5 x.2.1.1 (qdz (qy (qN p.q5 x.2.1.1) ([]:List (Int×(Int×Int)))) x.2.1.2 c5.2))) (fun h1=>(some (h1,(true,())))))else none))))else none)
theorem qjM (N:Nat):OkP 26 [.v qz,.v (.ptr 5 1),.v (.ptr 6 1),.v (.ptr 3 1)] [.bool] (qce N):=kpP (cn (qbZ N) (cn (qdf N) nl)) 0 [] [] HOk.nil N ⟨[],[(1000002,[16]),(4,[90000000])],[]⟩ Try.func26 (by kernel_rfl) (by kernel_rfl) (fun p x=>by kernel_rfl)
noncomputable def qcq (N:Nat) (p:HpP) (x:((Int×Int)×(EP3×(EP3×(Int×Unit))))):Option (HpP×((Int×(Int×Int))×(Int×Unit))):=
 (qbl 190 ((p.a3 ([x.2.2.1]:List EP3)).u6 (qdc p.q6 ([x.2.2.2.1]:List Int))) (fun h0=>(bif (h0.s3 (qn p.q3))then(qaE (S:=(Int×Unit)) (R:=(HpP×((Int×(Int×Int))×(Int×Unit)))) N (fun ih1=>(fun s1=>let c0:=(qZ N ((qJ ([x.2.1,(h0.g3 (qn p.q3) 0)]:List EP3) s1.1 ([]:List qi)),()))
 (bif (ltI s1.1 2)then(bif (inB s1.1 2)then(bif (qp c0)then(qT (qy c0 ((0,()),())).1.1 (fun y3=>(bif (neI y3 0)then(some (h0,(((-1),(0,0)),(y3,()))))else(ih1 ((qaj .i64 s1.1 1),())))))else none)else none)else(qbl 990 (h0.a5 ([((-1),(0,0))]:List (Int×(Int×Int)))) (fun h3=>(bif ((leI 0 x.1.1)&&((leI 0 x.1.1)&&((h3.s0 x.1.1)&&(qp (qcB N h3 ((h3.g0 x.1.1 x.1.2).2.1,(x.2.1,((fun p4=>(fun x5=>(qce N p4 (x5.1,(((qn h0.q5),0),(((qn p.q6),0),(((qn p.q3),0),()))))))),()))))))))then(qT x.2.1 (fun y4=>(qbl 1090 (qy (qcB N h3 ((h3.g0 x.1.1 x.1.2).2.1,(x.2.1,((fun p5=>(fun x6=>(qce N p5 (x6.1,(((qn h0.q5),0),(((qn p.q6),0),(((qn p.q3),0),()))))))),())))) (h3,(false,()))).1 (fun h5=>(bif (h5.s5 (qn h0.q5))then(some (h5,((h5.g5 (qn h0.q5) 0),(0,()))))else none)))))else none)))))) (0,()))else none)))
theorem qlK (N:Nat):OkP 9 [.v (.ptr 0 3),.v (.slice ql),.v (.slice ql),.v (.int .i64)] [(.sl 2 2),(.int .i64)] (qcq N):=kpP (cn (qb8 N) nl) 4 [(6,3),(7,6),(13,5)] [] (HOk.cons (qgG N) (HOk.cons (qjM N) HOk.nil)) N ⟨[⟨2,[8,9,11,12,17,18,19,20,21,22,23,24,25],[(17,(.val (.int .i64)))]⟩],[(1,[90000004]),(5,[12]),(9,[90000004]),(10,[1,90000004])],[]⟩ Try.func9 (by kernel_rfl) (by kernel_rfl) (fun p x=>by kernel_rfl)
noncomputable def qag (N:Nat) (x:(Int×((List (Int×(Int×(EP3×Unit))))×(EP3×(EP3×(Int×Unit)))))):Option (Bool×Unit):=
 let c0:=(qb6 x.2.1 0 (qo9 (qn x.2.1) 400))
 let c1:=(qn c0)
 (qbl 90 (([]:List (Option (List EP0))),(([]:List (Option (List EP1))),(([]:List (Option (List (EP3×(Int×Unit))))),(([]:List (Option (List EP3))),(([]:List (Option (List (Int×Int)))),(([]:List (Option (List (Int×(Int×Int))))),(([]:List (Option (List Int))),(([]:List (Option (List (Int×(Int×Int))))),(([]:List (Option (List (Int×Int)))),()))))))))) (fun h0=>let c2:=(qy (qaZ N h0 (3,())) (h0,(((-1),0),(0,()))))
 (bif (qp (qaZ N h0 (3,())))then(qT c2.2.1 (fun y1=>(qT c2.2.2.1 (fun y2=>let c3:=(! ((neI y2 0)||(eqI y1.1 (-1))))
 (qbl 290 c2.1 (fun h3=>let c4:=(qy (qbd N h3 (y1,())) (h3,(((-1),(0,0)),())))
 let c5:=(bfP c3 c4.1 h3)
 (bif ((! c3)||(qp (qbd N h3 (y1,()))))then(qT (((neI y2 0)||(eqI y1.1 (-1)))||(ltI 0 (qaS c4.2.1.2.2 c4.2.1.2.1))) (fun y4=>(bif y4 then(qbl 390 c5 (fun h5=>(some (false,()))))else(qbl 490 c5 (fun h5=>let c6:=(qy (qaZ N h5 (x.1,())) (h5,(((-1),0),(0,()))))
 (bif (qp (qaZ N h5 (x.1,())))then(qT x.1 (fun y6=>(qT c6.2.1 (fun y7=>(qT c6.2.2.1 (fun y8=>(qbl 590 c6.1 (fun h9=>(qT ((ltI y6 3)||(ltI 16 y6)) (fun y10=>(bif y10 then(some (((eqI y7.1 (-1))&&(eqI y8 1)),()))else(qT ((eqI y7.1 (-1))||(neI y8 0)) (fun y11=>(bif y11 then(some (false,()))else(qbl 1090 (h9.a7 ([((-1),(0,0))]:List (Int×(Int×Int)))) (fun h12=>(bif (inS 0 (qo9 (qn x.2.1) 400) (qn x.2.1))then(qaE (S:=(HpP×(Int×Unit))) (R:=(Bool×Unit)) N (fun ih13=>(fun s1=>let c7:=(qbf N s1.1 (y7,(((qn h9.q7),0),((qJ c0 s1.2.1 (0,(0,(([]:List qi),())))),()))))
 let c8:=(qy c7 (s1.1,(false,())))
 let c9:=(qy (qbd N s1.1 (y7,())) (s1.1,(((-1),(0,0)),())))
 let c10:=(qR ksP c9.1)
 let c11:=(qfS c10 (.slice qz) (.sl 2 2) c9.2.1)
 let c12:=(qfS c10 (.slice qz) (.sl 2 2) (c9.1.g7 (qn h9.q7) 0))
 let c13:=(qat N ((qy c11 ([]:List (EP3×(Int×Unit)))),((qy c12 ([]:List (EP3×(Int×Unit)))),())))
 (bif (ltI s1.2.1 c1)then(bif (inB s1.2.1 c1)then(bif (qp c7)then(qT y7 (fun y15=>(qT ((qn h9.q7),0) (fun y16=>(bif (! c8.2.1)then(qbl 1490 c8.1 (fun h17=>(some (false,()))))else(qbl 1590 c8.1 (fun h17=>let c14:=(qy (qc4 N h17 (y15,())) (h17,((0,(0,(0,(0,(0,()))))),())))
 let c15:=(ltI 1 c14.2.1.2.1)
 (bif (qp (qc4 N h17 (y15,())))then(qT y15 (fun y18=>(qbl 1690 c14.1 (fun h19=>(bif ((h19.s7 y16.1)&&((! (c15&&(! ((neI c14.2.1.1 (qaS (h19.g7 y16.1 y16.2).2.2 (h19.g7 y16.1 y16.2).2.1))||(neI c14.2.1.2.1 c14.2.1.2.2.1)))))||(neI 2 0)))then(qT (((neI c14.2.1.1 (qaS (h19.g7 y16.1 y16.2).2.2 (h19.g7 y16.1 y16.2).2.1))||(neI c14.2.1.2.1 c14.2.1.2.2.1))||(c15&&((ltI c14.2.1.2.2.2.1 (qth .i64 (qaj .i64 y6 1) 2))||(ltI y6 c14.2.1.2.2.2.2.1)))) (fun y20=>(bif y20 then(some (false,()))else(ih13 (h19,((qaj .i64 s1.2.1 1),()))))))else none)))))else none))))))))else none)else none)else(bif ((qp (qbd N s1.1 (y7,())))&&((c9.1.s7 (qn h9.q7))&&((qp c11)&&((qp c12)&&((qp c13)&&(qmF (qN s1.1.q7 (qn h9.q7)) (qN c9.1.q7 (qn h9.q7))))))))then(qT y7 (fun y15=>(bif (! (qy c13 ((false,()),())).1.1)then(qbl 2090 c9.1 (fun h16=>(some (false,()))))else(qbl 2190 c9.1 (fun h16=>let c16:=(qy (qcq N h16 (y15,x.2.2)) (h16,(((-1),(0,0)),(0,()))))
 (bif (qp (qcq N h16 (y15,x.2.2)))then(qT x.2.2.1 (fun y17=>(qT x.2.2.2.1 (fun y18=>(qT x.2.2.2.2.1 (fun y19=>(qT c16.2.2.1 (fun y20=>(qT c16.2.1 (fun y21=>(qbl 2290 c16.1 (fun h22=>(qaE (S:=(HpP×(Int×Unit))) (R:=(Bool×Unit)) N (fun ih23=>(fun s2=>let c17:=(qaT N ((qJ ([y17,y18]:List EP3) s2.2.1 ([]:List qi)),()))
 let c18:=(qaS (s2.1.g7 (qn h9.q7) 0).2.2 (s2.1.g7 (qn h9.q7) 0).2.1)
 (bif (ltI s2.2.1 2)then(bif (inB s2.2.1 2)then(bif (qp c17)then(qT (qy c17 ((0,()),())).1.1 (fun y25=>(bif (neI y25 0)then(some (((eqI (qaS y21.2.2 y21.2.1) 0)&&(eqI y20 y25)),()))else(ih23 (s2.1,((qaj .i64 s2.2.1 1),()))))))else none)else none)else(bif (s2.1.s7 (qn h9.q7))then(qaE (S:=(HpP×((Int×(Int×Int))×(Int×Unit)))) (R:=(Bool×Unit)) N (fun ih25=>(fun s3=>let c19:=(s3.1.g2 (s2.1.g7 (qn h9.q7) 0).1 (qX (s2.1.g7 (qn h9.q7) 0).2.1 s3.2.2.1))
 let c20:=(qC N (c19.1,(y17,())))
 let c21:=(leI 0 (qy c20 ((0,()),())).1.1)
 let c22:=(qC N (c19.1,(y18,())))
 let c23:=(qfF s3.1.q2 s3.2.1 ([c19]:List (EP3×(Int×Unit))))
 let c24:=(qy c23 (s3.1.q2,s3.2.1))
 let c25:=(qfS (qR ksP s3.1) (.slice qz) (.sl 2 2) y21)
 let c26:=(qfS (qR ksP s3.1) (.slice qz) (.sl 2 2) s3.2.1)
 let c27:=(qat N ((qy c25 ([]:List (EP3×(Int×Unit)))),((qy c26 ([]:List (EP3×(Int×Unit)))),())))
 (bif (ltI s3.2.2.1 c18)then(bif ((inB s3.2.2.1 c18)&&(s3.1.s2 (s2.1.g7 (qn h9.q7) 0).1))then(bif ((qp c20)&&((! c21)||(qp c22)))then(qT y17 (fun y27=>(qT y18 (fun y28=>(qT ((c21&&(ltI (qy c22 ((0,()),())).1.1 0))&&(ltI (qaS s3.2.1.2.2 s3.2.1.2.1) y19)) (fun y29=>(bif (bif y29 then((qp c23)&&((leI s3.2.1.2.1 0)&&(qc1 s3.2.1.2.2 (qn ([c19]:List (EP3×(Int×Unit)))) 32)))else true)then(qbl 3590 (bfP y29 (s3.1.u2 (c24.1)) s3.1) (fun h30=>(ih25 (h30,((bif y29 then c24.2 else s3.2.1),((qaj .i64 s3.2.2.1 1),()))))))else none)))))))else none)else none)else(bif (((! (eqI y20 0))||(qp c25))&&(((! (eqI y20 0))||(qp c26))&&((! (eqI y20 0))||(qp c27))))then(some (((eqI y20 0)&&(qy c27 ((false,()),())).1.1),()))else none)))) (s2.1,(((-1),(0,0)),(0,()))))else none)))) (h22,(0,())))))))))))))))else none))))))else none)))) (h12,(0,())))else none)))))))))))))))))else none))))))else none)))))))else none)))
noncomputable def qb4 (N:Nat):PMs.den (valPs [(.int .i64),(.slice qbJ),(.slice ql),(.slice ql),(.int .i64)])→Option (RMs.den (valRs [.bool])×PMs.ioDen (valPs [(.int .i64),(.slice qbJ),(.slice ql),(.slice ql),(.int .i64)])):=semT [(.int .i64),(.slice qbJ),(.slice ql),(.slice ql),(.int .i64)] [.bool] (qag N)
theorem qdE (N:Nat):Ok 3 ⟨valPs [(.int .i64),(.slice qbJ),(.slice ql),(.slice ql),(.int .i64)],valRs [.bool],qb4 N⟩:=ktP (cn (qfI N) (cn (qey N) (cn (qbe N) nl))) 5 [(15,7)] [] (HOk.cons (qmS N) (HOk.cons (qjE N) (HOk.cons (qfy N) (HOk.cons (qlY N) (HOk.cons (qlK N) HOk.nil))))) N ⟨[⟨11,[5,10,17,18,71,72,73,74,75,76,77,78,79,80,81,82,83,84,85,86,87,88,89,90,91,92,93,94,95,96,97,98,99,100,101,102,103,104,105,106,107,108,109,110,111,112,172],[(5,(.heap ksP)),(71,(.val (.int .i64)))]⟩,⟨23,[5,10,21,22,129,130,131,132,133,134,135,136,137,138,139,140,141,142,143,144,172],[(5,(.heap ksP)),(129,(.val (.int .i64)))]⟩,⟨31,[5,23,25,147,148,149,150,151,152,153,154,155,156,157,158,159,160,161,162,163,164,165,166,167,168,169,170,171,172,173],[(5,(.heap ksP)),(23,(.hv (.sl 2 2))),(147,(.val (.int .i64)))]⟩],[(1000003,[41]),(1000006,[52]),(1000008,[64]),(1000014,[13,15]),(1000017,[111]),(1000020,[13]),(1000034,[2,3,168]),(0,[90000005]),(2,[11,12,90000005]),(3,[90000005]),(4,[90000005]),(5,[0,13,14,90000005]),(10,[90000005]),(14,[90000005]),(15,[90000005]),(16,[13,90000005]),(20,[90000005]),(21,[90000005]),(22,[2,3,4,14,19,90000005]),(26,[22]),(35,[90000005])],[]⟩ Try.func3 (by kernel_rfl) (by kernel_rfl) (fun x=>by kernel_rfl)
end Go.Proofs.Ytdiobaoelhdkoaa
