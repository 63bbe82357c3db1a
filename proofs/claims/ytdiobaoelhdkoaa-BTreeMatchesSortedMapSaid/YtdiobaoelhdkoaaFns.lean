/- What the functions compute, and that they do. -/
import Derived.Test.YtdiobaoelhdkoaaChecked
import Derived.Test.YtdiobaoelhdkoaaViXE
import Derived.KernelRfl
import Derived.Lib.Strings
import Derived.Lib.Slices
import Derived.Lib.Walk
import Derived.Lib.Bytealg
import Derived.WalkKit
set_option linter.unusedVariables false
set_option linter.unusedSimpArgs false
set_option linter.unnecessarySimpa false
set_option linter.unusedSectionVars false
set_option maxRecDepth 100000
set_option maxHeartbeats 0
namespace Go.Proofs.Ytdiobaoelhdkoaa
open Go.Vi
abbrev ql:Ty:=(.pair (.int .i64) (.pair (.int .i64) (.pair .str .unit)))
abbrev qi:Type:=(Int×(Int×((List UInt8)×Unit)))
abbrev qfa:Ty:=(.pair (.int .i64) (.pair (.opt .unit) (.pair (.int .i64) .unit)))
abbrev qz:Ty:=(.pair (.slice ql) (.pair (.int .i64) .unit))
abbrev qA:Type:=((List qi)×(Int×Unit))
abbrev qc3:Ty:=(.pair (.int .i64) (.pair (.int .i64) (.pair (.int .i64) (.pair (.int .i64) (.pair (.int .i64) .unit)))))
abbrev qcr:Type:=(Int×(Int×(Int×(Int×(Int×Unit)))))
abbrev qbJ:Ty:=(.pair (.int .i64) (.pair (.int .i64) (.pair (.slice ql) .unit)))
abbrev qmI:Type:=(Int×(Int×((List qi)×Unit)))
abbrev qo0:Ty:=(.pair (.slice qz) (.pair (.slice (.slice ql)) (.pair (.slice (.opt .unit)) .unit)))
def qrf:List TI:=[
 ⟨3,(.int .i64),0,[],(.val (.int .i64)),8,false⟩,
 ⟨4,.bool,0,[],(.val .bool),1,false⟩,
 ⟨5,(.int .u8),0,[],(.val (.int .u8)),1,false⟩,
 ⟨9,.str,0,[],(.val .str),16,false⟩,
 ⟨12,(.int .u64),0,[],(.val (.int .u64)),8,false⟩,
 ⟨22,(.slice qbJ),33,[],(.own 33 qbJ),24,false⟩,
 ⟨24,(.slice ql),58,[],(.own 58 ql),24,false⟩,
 ⟨25,(.opt qfa),0,[],(.val (.opt qfa)),8,false⟩,
 ⟨26,(.int .i64),0,[],(.val (.int .i64)),8,false⟩,
 ⟨29,(.slice qz),45,[],(.own 45 qz),24,false⟩,
 ⟨31,(.slice qz),45,[],(.own 45 qz),24,false⟩,
 ⟨33,qbJ,0,[(0,3),(1,3),(2,24)],(.pair (.val (.int .i64)) (.pair (.val (.int .i64)) (.pair (.own 58 ql) (.val .unit)))),40,false⟩,
 ⟨37,qc3,0,[(0,3),(1,3),(2,3),(3,3),(4,3)],(.val qc3),40,true⟩,
 ⟨42,(.arr 2 (.slice ql)),24,[],(.val (.arr 2 (.slice ql))),48,false⟩,
 ⟨45,qz,0,[(0,24),(1,3)],(.pair (.own 58 ql) (.val (.pair (.int .i64) .unit))),32,false⟩,
 ⟨48,(.opt .unit),0,[],(.val (.opt .unit)),8,false⟩,
 ⟨49,(.slice (.slice ql)),24,[],(.own 24 (.slice ql)),24,false⟩,
 ⟨50,(.slice (.opt .unit)),48,[],(.own 48 (.opt .unit)),24,false⟩,
 ⟨52,qo0,0,[(0,29),(1,49),(2,50)],(.pair (.own 45 qz) (.pair (.own 24 (.slice ql)) (.pair (.own 48 (.opt .unit)) (.val .unit)))),72,false⟩,
 ⟨54,qfa,0,[(0,3),(1,48),(2,3)],(.val qfa),24,false⟩,
 ⟨58,ql,0,[(0,3),(1,3),(2,9)],(.val ql),32,true⟩,
 ⟨93,(.int .u64),0,[],(.val (.int .u64)),8,false⟩,
 ⟨104,(.int .u64),0,[],(.val (.int .u64)),8,false⟩,
 ⟨131,(.int .u32),0,[],(.val (.int .u32)),4,false⟩,
 ⟨132,(.int .u8),0,[],(.val (.int .u8)),1,false⟩,
 ⟨133,(.int .u8),0,[],(.val (.int .u8)),1,false⟩,
 ⟨136,(.int .i32),0,[],(.val (.int .i32)),4,false⟩,
 ⟨137,(.int .i32),0,[],(.val (.int .i32)),4,false⟩]
theorem qnj:qve Try.prog qrf=true:=by kernel_rfl
abbrev Ok (f:Nat) (C:qH):Prop:=qH.ok Try.prog f C
theorem cn {fs:List (Nat×qH)}{f:Nat}{C:qH}(h:Ok f C) (hF:qdr (Env.tab qrf fs) Try.prog):qdr (Env.tab qrf ((f,C)::fs)) Try.prog:=qrv h hF
theorem nl:qdr (Env.tab qrf []) Try.prog:=qso
theorem kp {fs:List (Nat×qH)}(hF:qdr (Env.tab qrf fs) Try.prog) (N:Nat) (anns:qog) {f:Nat}{fn:Func}(hf:Try.prog.funcs[f]? =some fn) (hb:fn.body.isSome=true) (hn:(fn.name== "runtime.NumGoroutine")=false) {ps:List PM}{rs:List RM}{sem:PMs.den ps→Option (RMs.den rs×PMs.ioDen ps)}(hrun:∀x,runF (Env.tab qrf fs) N anns fn ps rs x=sem x):Ok f ⟨ps,rs,sem⟩:=keeps (qiD qnj _) hF (qsd rfl) hf hb hn hrun
noncomputable def qbc (N:Nat) (x:((List qA)×((List qi)×(((qA×((List qi)×Unit))→Option (Int×Unit))×Unit)))):Option ((Int×(Bool×Unit))×Unit):=
 (qT (qn x.1) (fun y0=>(qaE (S:=(Int×(Int×Unit))) (R:=((Int×(Bool×Unit))×Unit)) N (fun ih1=>(fun p2=>(bif (ltI p2.1 p2.2.1)then(bif (leI 0 1)then(qT (qcE .i64 (qlZ .u64 (qcE .u64 (qaj .i64 p2.1 p2.2.1)) 1)) (fun y3=>(bif ((inB y3 (qn x.1))&&(qp (x.2.2.1 ((qJ x.1 y3 (([]:List qi),(0,()))),(x.2.1,())))))then(ih1 ((bif (ltI (qy (x.2.2.1 ((qJ x.1 y3 (([]:List qi),(0,()))),(x.2.1,()))) (0,())).1 0)then(qaj .i64 y3 1)else p2.1),((bif (ltI (qy (x.2.2.1 ((qJ x.1 y3 (([]:List qi),(0,()))),(x.2.1,()))) (0,())).1 0)then p2.2.1 else y3),())))else none)))else none)else(bif (((!(ltI p2.1 y0))||(inB p2.1 (qn x.1)))&&((!(ltI p2.1 y0))||(qp (x.2.2.1 ((qJ x.1 p2.1 (([]:List qi),(0,()))),(x.2.1,()))))))then(some ((p2.1,(((ltI p2.1 y0)&&(eqI (qy (x.2.2.1 ((qJ x.1 p2.1 (([]:List qi),(0,()))),(x.2.1,()))) (0,())).1 0)),())),()))else none)))) (0,(y0,())))))
noncomputable abbrev qdN (N:Nat):qH:=⟨[.val (.slice qz),.val (.slice ql),.fn [qz,(.slice ql)] [(.int .i64)]],[.val (.int .i64),.val .bool],qbc N⟩
theorem qdy (N:Nat):Ok 42 (qdN N):=kp nl N ⟨[⟨3,[9,10,11,15,16,17,18,19,20,21,22,23,24,25,26,27,28,29,30,31,32,33,34],[(9,(.val (.int .i64))),(10,(.val (.int .i64)))]⟩],[(2,[8]),(5,[11])],[]⟩ Try.func42 (by kernel_rfl) (by kernel_rfl) (fun x=>by kernel_rfl)
noncomputable def qas (N:Nat) (x:(Int×(Int×Unit))):Option ((Int×Unit)×Unit):=
 (bif (ltI x.1 x.2.1)then(some (((-1),()),()))else(bif (ltI x.2.1 x.1)then(some ((1,()),()))else(some ((0,()),()))))
noncomputable abbrev qh2 (N:Nat):qH:=⟨[.val (.int .i64),.val (.int .i64)],[.val (.int .i64)],qas N⟩
theorem qev (N:Nat):Ok 41 (qh2 N):=kp nl N ⟨[],[],[]⟩ Try.func41 (by kernel_rfl) (by kernel_rfl) (fun x=>by kernel_rfl)
noncomputable def qaG (N:Nat) (x:((List UInt8)×((List UInt8)×Unit))):Option ((Int×Unit)×Unit):=some ((Lib.compareBytes x.1 x.2.1,()),())
set_option maxHeartbeats 1000000 in
theorem qiN (a b:ByteArray) (w:World):
  Calls Try.prog 74 #[.string a,.string b] w fun e w'=>e=.returned (.int .i64 (Lib.compareBytes a.data.toList b.data.toList))∧w'=w:=by
 go_enter Try.func74,Try.ntmps74;go_wp2;rw[run_callFunc_extern Try.func84 (by kernel_rfl) (by kernel_rfl) (by kernel_rfl) (e:=Extern.BytealgCompare.compare) (by kernel_rfl),Lib.run_compareString];simp only[Result.andThen];rw[Oper.upon_value];go_wp2;go_ret;exact⟨rfl,rfl⟩
theorem qdA (N:Nat):qH.ok Try.prog 74 ⟨[.val .str,.val .str],[.val (.int .i64)],qaG N⟩:=
 qqE Try.func74 (by kernel_rfl) (by kernel_rfl) Lib.compareBytes qjR qiN
noncomputable def qcf (N:Nat) (x:((List UInt8)×((List UInt8)×Unit))):Option ((Int×Unit)×Unit):=
 (bif (qp (qaG N x))then(some ((qy (qaG N x) ((0,()),())).1,()))else none)
noncomputable abbrev qjj (N:Nat):qH:=⟨[.val .str,.val .str],[.val (.int .i64)],qcf N⟩
theorem qiH (N:Nat):Ok 56 (qjj N):=kp (cn (qdA N) nl) N ⟨[],[],[]⟩ Try.func56 (by kernel_rfl) (by kernel_rfl) (fun x=>by kernel_rfl)
noncomputable def qcK (N:Nat) (x:(qi×(qi×Unit))):Option ((Int×Unit)×Unit):=
 (bif (qp (qas N (x.1.1,(x.2.1.1,()))))then(qT (qy (qas N (x.1.1,(x.2.1.1,()))) ((0,()),())).1.1 (fun y0=>(bif (neI y0 0)then(some ((y0,()),()))else(bif (qp (qas N (x.1.2.1,(x.2.1.2.1,()))))then(qT (qy (qas N (x.1.2.1,(x.2.1.2.1,()))) ((0,()),())).1.1 (fun y1=>(bif (neI y1 0)then(some ((y1,()),()))else(bif (qp (qcf N (x.1.2.2.1,x.2.1.2.2)))then(some ((qy (qcf N (x.1.2.2.1,x.2.1.2.2)) ((0,()),())).1,()))else none))))else none))))else none)
noncomputable abbrev qki (N:Nat):qH:=⟨[.val ql,.val ql],[.val (.int .i64)],qcK N⟩
theorem qjJ (N:Nat):Ok 40 (qki N):=kp (cn (qev N) (cn (qiH N) nl)) N ⟨[],[(2,[5]),(5,[6])],[]⟩ Try.func40 (by kernel_rfl) (by kernel_rfl) (fun x=>by kernel_rfl)
noncomputable def qY (N:Nat) (x:((List qi)×((List qi)×Unit))):Option ((Int×Unit)×Unit):=
 (qaE (S:=(Int×Unit)) (R:=((Int×Unit)×Unit)) N (fun ih0=>(fun p1=>(bif (ltI p1.1 (qo9 (qn x.1) (qn x.2.1)))then(bif ((inB p1.1 (qn x.1))&&((inB p1.1 (qn x.2.1))&&(qp (qcK N ((qJ x.1 p1.1 (0,(0,(([]:List UInt8),())))),((qJ x.2.1 p1.1 (0,(0,(([]:List UInt8),())))),()))))))then(qT (qy (qcK N ((qJ x.1 p1.1 (0,(0,(([]:List UInt8),())))),((qJ x.2.1 p1.1 (0,(0,(([]:List UInt8),())))),()))) ((0,()),())).1.1 (fun y2=>(bif (neI y2 0)then(some ((y2,()),()))else(ih0 ((qaj .i64 p1.1 1),())))))else none)else(bif (qp (qas N ((qn x.1),((qn x.2.1),()))))then(some ((qy (qas N ((qn x.1),((qn x.2.1),()))) ((0,()),())).1,()))else none)))) (0,()))
noncomputable abbrev qhH (N:Nat):qH:=⟨[.val (.slice ql),.val (.slice ql)],[.val (.int .i64)],qY N⟩
theorem qdf (N:Nat):Ok 27 (qhH N):=kp (cn (qjJ N) (cn (qev N) nl)) N ⟨[⟨2,[4,5,6,12,13,14,15,16,17,18,19,20,21,22,23,24,25,26,27],[(12,(.val (.int .i64)))]⟩],[(5,[6])],[]⟩ Try.func27 (by kernel_rfl) (by kernel_rfl) (fun x=>by kernel_rfl)
noncomputable def qcX (N:Nat) (x:(qA×((List qi)×Unit))):Option ((Int×Unit)×Unit):=
 (bif (qp (qY N (x.1.1,x.2)))then(some ((qy (qY N (x.1.1,x.2)) ((0,()),())).1,()))else none)
noncomputable abbrev qk7 (N:Nat):qH:=⟨[.val qz,.val (.slice ql)],[.val (.int .i64)],qcX N⟩
theorem qjG (N:Nat):Ok 43 (qk7 N):=kp (cn (qdf N) nl) N ⟨[],[],[]⟩ Try.func43 (by kernel_rfl) (by kernel_rfl) (fun x=>by kernel_rfl)
noncomputable def qU (N:Nat) (x:((List (List qi))×((List qi)×((((List qi)×((List qi)×Unit))→Option (Int×Unit))×Unit)))):Option ((Int×(Bool×Unit))×Unit):=
 (qT (qn x.1) (fun y0=>(qaE (S:=(Int×(Int×Unit))) (R:=((Int×(Bool×Unit))×Unit)) N (fun ih1=>(fun p2=>(bif (ltI p2.1 p2.2.1)then(bif (leI 0 1)then(qT (qcE .i64 (qlZ .u64 (qcE .u64 (qaj .i64 p2.1 p2.2.1)) 1)) (fun y3=>(bif ((inB y3 (qn x.1))&&(qp (x.2.2.1 ((qJ x.1 y3 ([]:List qi)),(x.2.1,())))))then(ih1 ((bif (ltI (qy (x.2.2.1 ((qJ x.1 y3 ([]:List qi)),(x.2.1,()))) (0,())).1 0)then(qaj .i64 y3 1)else p2.1),((bif (ltI (qy (x.2.2.1 ((qJ x.1 y3 ([]:List qi)),(x.2.1,()))) (0,())).1 0)then p2.2.1 else y3),())))else none)))else none)else(bif (((!(ltI p2.1 y0))||(inB p2.1 (qn x.1)))&&((!(ltI p2.1 y0))||(qp (x.2.2.1 ((qJ x.1 p2.1 ([]:List qi)),(x.2.1,()))))))then(some ((p2.1,(((ltI p2.1 y0)&&(eqI (qy (x.2.2.1 ((qJ x.1 p2.1 ([]:List qi)),(x.2.1,()))) (0,())).1 0)),())),()))else none)))) (0,(y0,())))))
noncomputable abbrev qde (N:Nat):qH:=⟨[.val (.slice (.slice ql)),.val (.slice ql),.fn [(.slice ql),(.slice ql)] [(.int .i64)]],[.val (.int .i64),.val .bool],qU N⟩
theorem qc9 (N:Nat):Ok 44 (qde N):=kp nl N ⟨[⟨3,[9,10,11,15,16,17,18,19,20,21,22,23,24,25,26,27,28,29,30,31,32,33,34],[(9,(.val (.int .i64))),(10,(.val (.int .i64)))]⟩],[(2,[8]),(5,[11])],[]⟩ Try.func44 (by kernel_rfl) (by kernel_rfl) (fun x=>by kernel_rfl)
noncomputable def qaD (N:Nat) (x:((List qi)×Unit)):Option (((List qi)×Unit)×Unit):=
 (bif (eqI (qn x.1) 0)then(qtV (some ((([]:List qi),()),())) (bif (qc1 (qn ([]:List qi)) (qn x.1) 32)then(some (((ql0 ([]:List qi) x.1),()),()))else none))else(bif (qc1 (qn ([]:List qi)) (qn x.1) 32)then(some (((ql0 ([]:List qi) x.1),()),()))else none))
noncomputable abbrev qfJ (N:Nat):qH:=⟨[.val (.slice ql)],[.val (.slice ql)],qaD N⟩
theorem qbZ (N:Nat):Ok 14 (qfJ N):=kp nl N ⟨[],[],[]⟩ Try.func14 (by kernel_rfl) (by kernel_rfl) (fun x=>by kernel_rfl)
noncomputable def qcA (N:Nat) (x:(qi×Unit)):Option ((Int×Unit)×Unit):=
 (bif (eqI x.1.1 0)then(qT ((neI x.1.2.1 0)||(!(eqS x.1.2.2.1 ([]:List UInt8)))) (fun y0=>(bif y0 then(some ((3,()),()))else(some ((0,()),())))))else(qT x.1 (fun y0=>(qT (bif (eqI x.1.1 1)then(eqI x.1.1 1)else(eqI x.1.1 2)) (fun y1=>(bif y1 then(bif (!(eqS y0.2.2.1 ([]:List UInt8)))then(some ((3,()),()))else(qT (((((eqI y0.1 2)&&(neI y0.2.1 0))&&(neI y0.2.1 1))||(ltI y0.2.1 (-1000000000000)))||(ltI 1000000000000 y0.2.1)) (fun y2=>(bif y2 then(some ((1,()),()))else(some ((0,()),()))))))else(bif (eqI x.1.1 3)then(bif (neI y0.2.1 0)then(some ((3,()),()))else(bif (ltI 24 (qn y0.2.2.1))then(some ((2,()),()))else(some ((0,()),()))))else(some ((7,()),())))))))))
noncomputable abbrev qjN (N:Nat):qH:=⟨[.val ql],[.val (.int .i64)],qcA N⟩
theorem qiU (N:Nat):Ok 39 (qjN N):=kp nl N ⟨[],[(1000008,[1,15]),(1000011,[43]),(1000005,[14])],[]⟩ Try.func39 (by kernel_rfl) (by kernel_rfl) (fun x=>by kernel_rfl)
noncomputable def qZ (N:Nat) (x:((List qi)×Unit)):Option ((Int×Unit)×Unit):=
 (bif (ltI 12 (qn x.1))then(some ((2,()),()))else(qaE (S:=(Int×Unit)) (R:=((Int×Unit)×Unit)) N (fun ih0=>(fun p1=>(bif (ltI p1.1 (qn x.1))then(bif (inB p1.1 (qn x.1))then(bif (qp (qcA N ((qJ x.1 p1.1 (0,(0,(([]:List UInt8),())))),())))then(qT (qy (qcA N ((qJ x.1 p1.1 (0,(0,(([]:List UInt8),())))),())) ((0,()),())).1.1 (fun y2=>(bif (neI y2 0)then(some ((y2,()),()))else(ih0 ((qaj .i64 p1.1 1),())))))else none)else none)else(some ((0,()),()))))) (0,())))
noncomputable abbrev qhW (N:Nat):qH:=⟨[.val (.slice ql)],[.val (.int .i64)],qZ N⟩
theorem qb8 (N:Nat):Ok 25 (qhW N):=kp (cn (qiU N) nl) N ⟨[⟨4,[2,4,5,11,12,13,14,15,16,17,18,19,20],[(11,(.val (.int .i64)))]⟩],[(7,[5])],[]⟩ Try.func25 (by kernel_rfl) (by kernel_rfl) (fun x=>by kernel_rfl)
noncomputable def qaK (N:Nat) (x:(qi×(qi×Unit))):Option ((Bool×Unit)×Unit):=
 (bif (neI x.1.1 x.2.1.1)then(some (((ltI x.1.1 x.2.1.1),()),()))else(bif (neI x.1.2.1 x.2.1.2.1)then(some (((ltI x.1.2.1 x.2.1.2.1),()),()))else(some (((qnS x.1.2.2.1 x.2.1.2.2.1),()),()))))
noncomputable abbrev qht (N:Nat):qH:=⟨[.val ql,.val ql],[.val .bool],qaK N⟩
theorem qgC (N:Nat):Ok 29 (qht N):=kp nl N ⟨[],[],[]⟩ Try.func29 (by kernel_rfl) (by kernel_rfl) (fun x=>by kernel_rfl)
noncomputable def qC (N:Nat) (x:((List qi)×((List qi)×Unit))):Option ((Int×Unit)×Unit):=
 (qaE (S:=(Int×Unit)) (R:=((Int×Unit)×Unit)) N (fun ih0=>(fun p1=>(bif ((ltI p1.1 (qn x.1))&&(ltI p1.1 (qn x.2.1)))then(bif ((inB p1.1 (qn x.1))&&((inB p1.1 (qn x.2.1))&&(qp (qaK N ((qJ x.1 p1.1 (0,(0,(([]:List UInt8),())))),((qJ x.2.1 p1.1 (0,(0,(([]:List UInt8),())))),()))))))then(qT (qy (qaK N ((qJ x.1 p1.1 (0,(0,(([]:List UInt8),())))),((qJ x.2.1 p1.1 (0,(0,(([]:List UInt8),())))),()))) ((false,()),())).1.1 (fun y2=>(bif y2 then(some (((-1),()),()))else(bif ((inB p1.1 (qn x.2.1))&&((inB p1.1 (qn x.1))&&(qp (qaK N ((qJ x.2.1 p1.1 (0,(0,(([]:List UInt8),())))),((qJ x.1 p1.1 (0,(0,(([]:List UInt8),())))),()))))))then(qT (qy (qaK N ((qJ x.2.1 p1.1 (0,(0,(([]:List UInt8),())))),((qJ x.1 p1.1 (0,(0,(([]:List UInt8),())))),()))) ((false,()),())).1.1 (fun y3=>(bif y3 then(some ((1,()),()))else(ih0 ((qaj .i64 p1.1 1),())))))else none))))else none)else(bif (ltI (qn x.1) (qn x.2.1))then(some (((-1),()),()))else(bif (ltI (qn x.2.1) (qn x.1))then(some ((1,()),()))else(some ((0,()),()))))))) (0,()))
noncomputable abbrev qgu (N:Nat):qH:=⟨[.val (.slice ql),.val (.slice ql)],[.val (.int .i64)],qC N⟩
theorem qbe (N:Nat):Ok 11 (qgu N):=kp (cn (qgC N) nl) N ⟨[⟨2,[4,5,6,7,8,9,10,11,12,13,14,15,16,17,18,19,20,21,22,23,24,25,26,27,28,29,30,31,32,33,34,35],[(5,(.val (.int .i64)))]⟩],[(1000005,[26]),(1000007,[35])],[]⟩ Try.func11 (by kernel_rfl) (by kernel_rfl) (fun x=>by kernel_rfl)
noncomputable def qaY (N:Nat) (x:(qi×Unit)):Option ((Int×Unit)×Unit):=
 (qT ((ltI x.1.1 0)||(ltI 3 x.1.1)) (fun y0=>(bif y0 then(some ((7,()),()))else(qT ((neI x.1.1 3)&&(!(eqS x.1.2.2.1 ([]:List UInt8)))) (fun y1=>(qT x.1 (fun y2=>(qT (bif y1 then y1 else(((eqI x.1.1 0)||(eqI x.1.1 3))&&(neI x.1.2.1 0))) (fun y3=>(bif y3 then(some ((3,()),()))else(qT ((eqI y2.1 2)&&((ltI y2.2.1 0)||(ltI 1 y2.2.1))) (fun y4=>(qT y2 (fun y5=>(qT (bif y4 then y4 else(bif (ltI 1000000000000 y2.2.1)then(ltI 1000000000000 y2.2.1)else(ltI y2.2.1 (-1000000000000)))) (fun y6=>(bif y6 then(some ((1,()),()))else(bif (ltI 24 (qn y5.2.2.1))then(some ((2,()),()))else(some ((0,()),()))))))))))))))))))))
noncomputable abbrev qfz (N:Nat):qH:=⟨[.val ql],[.val (.int .i64)],qaY N⟩
theorem qfv (N:Nat):Ok 28 (qfz N):=kp nl N ⟨[],[(1000002,[3]),(1000004,[12]),(1000005,[1,12]),(1000007,[34]),(1000009,[1,34])],[]⟩ Try.func28 (by kernel_rfl) (by kernel_rfl) (fun x=>by kernel_rfl)
noncomputable def qaT (N:Nat) (x:((List qi)×Unit)):Option ((Int×Unit)×Unit):=
 (bif (ltI 12 (qn x.1))then(some ((2,()),()))else(qaE (S:=(Int×Unit)) (R:=((Int×Unit)×Unit)) N (fun ih0=>(fun p1=>(bif (ltI p1.1 (qn x.1))then(bif (inB p1.1 (qn x.1))then(bif (qp (qaY N ((qJ x.1 p1.1 (0,(0,(([]:List UInt8),())))),())))then(qT (qy (qaY N ((qJ x.1 p1.1 (0,(0,(([]:List UInt8),())))),())) ((0,()),())).1.1 (fun y2=>(bif (neI y2 0)then(some ((y2,()),()))else(ih0 ((qaj .i64 p1.1 1),())))))else none)else none)else(some ((0,()),()))))) (0,())))
noncomputable abbrev qhK (N:Nat):qH:=⟨[.val (.slice ql)],[.val (.int .i64)],qaT N⟩
theorem qey (N:Nat):Ok 10 (qhK N):=kp (cn (qfv N) nl) N ⟨[⟨4,[2,4,5,11,12,13,14,15,16,17,18,19,20],[(11,(.val (.int .i64)))]⟩],[(7,[5])],[]⟩ Try.func10 (by kernel_rfl) (by kernel_rfl) (fun x=>by kernel_rfl)
noncomputable def qab (N:Nat) (x:((List qA)×((List qA)×(((qA×(qA×Unit))→Option (Bool×Unit))×Unit)))):Option ((Bool×Unit)×Unit):=
 (bif (neI (qn x.1) (qn x.2.1))then(some ((false,()),()))else(qaE (S:=(Int×Unit)) (R:=((Bool×Unit)×Unit)) N (fun ih0=>(fun p1=>(bif (ltI p1.1 (qn x.1))then(bif (inB p1.1 (qn x.1))then(bif (inB p1.1 (qn x.2.1))then(bif (qp (x.2.2.1 ((qJ x.1 p1.1 (([]:List qi),(0,()))),((qJ x.2.1 p1.1 (([]:List qi),(0,()))),()))))then(bif (!(qy (x.2.2.1 ((qJ x.1 p1.1 (([]:List qi),(0,()))),((qJ x.2.1 p1.1 (([]:List qi),(0,()))),()))) (false,())).1)then(some ((false,()),()))else(ih0 ((qaj .i64 p1.1 1),())))else none)else none)else none)else(some ((true,()),()))))) (0,())))
noncomputable abbrev qen (N:Nat):qH:=⟨[.val (.slice qz),.val (.slice qz),.fn [qz,qz] [.bool]],[.val .bool],qab N⟩
theorem qdW (N:Nat):Ok 22 (qen N):=kp nl N ⟨[⟨4,[6,7,8,9,17,18,19,20,21,22,23,24,25,26,27,28,29,30,31],[(17,(.val (.int .i64)))]⟩],[],[]⟩ Try.func22 (by kernel_rfl) (by kernel_rfl) (fun x=>by kernel_rfl)
noncomputable def qbB (N:Nat) (x:((List qi)×((List qi)×Unit))):Option ((Bool×Unit)×Unit):=
 (bif (neI (qn x.1) (qn x.2.1))then(some ((false,()),()))else(qaE (S:=(Int×Unit)) (R:=((Bool×Unit)×Unit)) N (fun ih0=>(fun p1=>(bif (ltI p1.1 (qn x.1))then(bif ((inB p1.1 (qn x.1))&&(inB p1.1 (qn x.2.1)))then(bif (!((eqI (qJ x.1 p1.1 (0,(0,(([]:List UInt8),())))).1 (qJ x.2.1 p1.1 (0,(0,(([]:List UInt8),())))).1)&&((eqI (qJ x.1 p1.1 (0,(0,(([]:List UInt8),())))).2.1 (qJ x.2.1 p1.1 (0,(0,(([]:List UInt8),())))).2.1)&&(eqS (qJ x.1 p1.1 (0,(0,(([]:List UInt8),())))).2.2.1 (qJ x.2.1 p1.1 (0,(0,(([]:List UInt8),())))).2.2.1))))then(some ((false,()),()))else(ih0 ((qaj .i64 p1.1 1),())))else none)else(some ((true,()),()))))) (0,())))
noncomputable abbrev qhv (N:Nat):qH:=⟨[.val (.slice ql),.val (.slice ql)],[.val .bool],qbB N⟩
theorem qgJ (N:Nat):Ok 24 (qhv N):=kp nl N ⟨[⟨4,[4,5,13,14,15,16,17,18,19,20,21,22,23,24,25],[(13,(.val (.int .i64)))]⟩],[],[]⟩ Try.func24 (by kernel_rfl) (by kernel_rfl) (fun x=>by kernel_rfl)
noncomputable def qah (N:Nat) (x:(qA×(qA×Unit))):Option ((Bool×Unit)×Unit):=
 (bif ((!(eqI x.1.2.1 x.2.1.2.1))||(qp (qbB N (x.1.1,(x.2.1.1,())))))then(some ((((eqI x.1.2.1 x.2.1.2.1)&&(qy (qbB N (x.1.1,(x.2.1.1,()))) ((false,()),())).1.1),()),()))else none)
noncomputable abbrev qfl (N:Nat):qH:=⟨[.val qz,.val qz],[.val .bool],qah N⟩
theorem qe3 (N:Nat):Ok 23 (qfl N):=kp (cn (qgJ N) nl) N ⟨[],[],[]⟩ Try.func23 (by kernel_rfl) (by kernel_rfl) (fun x=>by kernel_rfl)
noncomputable def qat (N:Nat) (x:((List qA)×((List qA)×Unit))):Option ((Bool×Unit)×Unit):=
 (bif (qp (qab N (x.1,(x.2.1,((fun x0=>(qkj (fun y1=>y1.1) (qah N x0))),())))))then(some ((qy (qab N (x.1,(x.2.1,((fun x0=>(qkj (fun y1=>y1.1) (qah N x0))),())))) ((false,()),())).1,()))else none)
noncomputable abbrev qf9 (N:Nat):qH:=⟨[.val (.slice qz),.val (.slice qz)],[.val .bool],qat N⟩
theorem qfI (N:Nat):Ok 8 (qf9 N):=kp (cn (qdW N) (cn (qe3 N) nl)) N ⟨[],[],[]⟩ Try.func8 (by kernel_rfl) (by kernel_rfl) (fun x=>by kernel_rfl)
end Go.Proofs.Ytdiobaoelhdkoaa
