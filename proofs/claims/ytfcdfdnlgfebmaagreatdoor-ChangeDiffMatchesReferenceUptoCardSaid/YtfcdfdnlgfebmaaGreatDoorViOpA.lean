/- The abstract interpreter: structs and rows put together, the operations. -/
import Derived.Test.YtfcdfdnlgfebmaaGreatDoorViOp9
set_option linter.unusedVariables false
set_option linter.unusedSimpArgs false
set_option linter.unnecessarySimpa false
set_option linter.unusedSectionVars false
namespace Go.Vi
open Go.RowKit
def qfH:Ty→Nat→List (Nat×Nat)
 | .pair a b,off=>(off,a.size)::qfH b (off+a.size)
 |_,_=>[]
theorem qoG:(T:Ty)→ {zss:List (List Value)} →(off:Nat)→zss.map List.length=qaZ T→ {i:Nat} → {c:List Value} →zss[i]? =some c→(qfH T off)[i]? =some (off+qjY zss i,c.length)
 | .pair a b,[],_,hz,_,_,hc=>by cases hc
 | .pair a b,z::zss,off,hz,i,c,hc=>by
  simp only [qaZ,List.map_cons,List.cons.injEq] at hz
  cases i with
  |zero=>
   injection hc with hc
   subst hc
   simp [qfH,qjY,hz.1]
  |succ i=>
   have:=qoG b (off+a.size) hz.2 (i:=i) (c:=c) hc
   simp only [qfH,List.getElem?_cons_succ,this,qjY,List.take_succ_cons,List.flatten_cons,List.length_append,hz.1,Nat.add_assoc]
 | .unit,zss,_,hz,_,_,hc=>by simp [qaZ] at hz; subst hz; cases hc
 | .int _,zss,_,hz,_,_,hc=>by simp [qaZ] at hz; subst hz; cases hc
 | .bool,zss,_,hz,_,_,hc=>by simp [qaZ] at hz; subst hz; cases hc
 | .str,zss,_,hz,_,_,hc=>by simp [qaZ] at hz; subst hz; cases hc
 | .err,zss,_,hz,_,_,hc=>by simp [qaZ] at hz; subst hz; cases hc
 | .opt _,zss,_,hz,_,_,hc=>by simp [qaZ] at hz; subst hz; cases hc
 | .map _ _,zss,_,hz,_,_,hc=>by simp [qaZ] at hz; subst hz; cases hc
 | .slice _,zss,_,hz,_,_,hc=>by simp [qaZ] at hz; subst hz; cases hc
 | .arr _ _,zss,_,hz,_,_,hc=>by simp [qaZ] at hz; subst hz; cases hc
theorem qm2 {P:Program} (w:World):(fs:List Field)→(T:Ty)→(off:Nat)→Lay P fs T off→(fs.mapM fun (f:Field)=>Prod.mk f.offset<$> sizeOf f.type).run P w= .ok (qfH T off) w
 |[],.unit,_,_=>rfl
 |f::fs,.pair a b,off,⟨h1,h2,h3⟩=>by
  have:=qm2 w fs b (off+a.size) h3
  simp [List.mapM_cons,h2,this,qfH,h1]
 |[],.pair _ _,_,h=>by cases h
 |[],.int _,_,h=>by cases h
 |[],.bool,_,h=>by cases h
 |[],.str,_,h=>by cases h
 |[],.err,_,h=>by cases h
 |[],.opt _,_,h=>by cases h
 |[],.map _ _,_,h=>by cases h
 |[],.slice _,_,h=>by cases h
 |[],.arr _ _,_,h=>by cases h
 |_::_,.unit,_,h=>by cases h
 |_::_,.int _,_,h=>by cases h
 |_::_,.bool,_,h=>by cases h
 |_::_,.str,_,h=>by cases h
 |_::_,.err,_,h=>by cases h
 |_::_,.opt _,_,h=>by cases h
 |_::_,.map _ _,_,h=>by cases h
 |_::_,.slice _,_,h=>by cases h
 |_::_,.arr _ _,_,h=>by cases h
theorem qrL {vs:List (Nat×Value)} (hn:qjw (vs.map (·.1))=true) {q:Nat×Value} (hq:q∈vs):vs.find? (fun r=>r.1 == q.1)=some q:=by
 induction vs with
 |nil=>cases hq
 |cons v vs ih=>
  simp only [List.map_cons,qjw,Bool.and_eq_true,Bool.not_eq_true'] at hn
  rw [List.find?_cons]
  rcases List.mem_cons.1 hq with rfl|hq
  ·simp
  ·have:v.1≠q.1:=fun e=>by
    have:(vs.map (·.1)).contains v.1=true:=by simp; exact ⟨q.2,by rw [e]; exact hq⟩
    rw [this] at hn
    cases hn.1
   have e:(v.1 == q.1)=false:=by simp [this]
   rw [e]
   exact ih hn.2 hq
section
variable {C:Ctx} {E:Env} {σ:St} {tm:Array Value} {a:Act} {w w':World} {own:Nat→List Nat} {o:Oper} {p:qhl} [Tabbed E C]
theorem qsL {X:Sit} {c:BC} {cs:List Value} {bs:List Nat} (ha:∀t x,c= .val t x→t.agg=true) (h:qbg X.w X.F c cs bs):qaF X (qq1 c) (.agg cs.toArray) bs:=by
 unfold qq1
 split
 ·rename_i t x
  refine ⟨h.1,by simpa [Value.cells] using h.2,fun _=>⟨_,rfl⟩,fun hf=> ?_⟩
  rw [ha t x rfl] at hf
  cases hf
 ·exact ⟨cs,rfl,h⟩
theorem qmA (c:BC):(qq1 c).mentions=[]:=by
 unfold qq1
 split <;> rfl
theorem qrf {ps:List (Nat×Op1)} {T:Ty} {i:Nat} {r:BC×List Nat} {lk:Nat→Ent} {z:BC} (he:(qhY z T i ps).run lk=some r):T.struct=true∧∀t x,r.1= .val t x→t.agg=true:=by
 cases T with
 |pair A B=>
  refine ⟨rfl,fun t x hx=> ?_⟩
  unfold qhY at he
  simp only at he
  split at he
  case h_2=>cases he
  split at he
  ·obtain ⟨c,_,he⟩:=Q.bind_some he
   split at he
   ·obtain ⟨r',_,he⟩:=Q.bind_some he
    have:=Q.ret_some he
    subst this
    simp only [qhY.pairBC] at hx
    split at hx
    ·injection hx with h1 h2
     subst h1
     rfl
    ·cases hx
   ·cases he
  ·obtain ⟨r',_,he⟩:=Q.bind_some he
   have:=Q.ret_some he
   subst this
   simp only [qhY.pairBC] at hx
   split at hx
   ·injection hx with h1 h2
    subst h1
    rfl
   ·cases hx
 |unit=>
  have:=Q.ret_some he
  subst this
  refine ⟨rfl,fun t x hx=> ?_⟩
  injection hx with h1 h2
  subst h1
  rfl
 |_=>cases he
theorem qjZ {X:Sit} :∀(k:Nat) {ps:List (Nat×Op1)} {vs:List (Nat×Value)},qfV X ps vs→qj2 k ps=true→vs=((vs.map (·.2)).zipIdx k).map fun x=>(x.2,x.1)
 |k,[],[],_,_=>rfl
 |k,p::ps,v::vs,⟨h1,_,h3⟩,h=>by
  simp only [qj2,Bool.and_eq_true] at h
  have e:p.1=k:=by simpa using h.1
  rw [List.map_cons,List.zipIdx_cons,List.map_cons,←qjZ (k+1) h3 h.2,←e,h1]
 |_,[],_::_,h,_=>by cases h
 |_,_::_,[],h,_=>by cases h
theorem FW.mono {X:Sit} {a b:List Nat} (h:∀s∈a,s∈b) {x:Nat} (hx:FW X a x):FW X b x:=by
 rcases hx with hx|⟨s,hs,hx⟩
 ·exact .inl hx
 ·exact .inr ⟨s,h s hs,hx⟩
theorem qiS (h:qag C σ a.tmps w own) {e:Ty} :∀(n:Nat) (ps:List (Nat×Op1)) (vs:List (Nat×Value)) {r:List e.den×List Nat},qfV (sit C σ a.tmps w own) ps vs→(qi7 e n (ps.map (·.2))).run (qt σ)=some r→
  vs.length=n∧r.1.length=n∧∀(i:Nat) x v,r.1[i]? =some x→vs[i]? =some v→qaq w (FW (sit C σ a.tmps w own) r.2) e x v.2
 |0,[],[],r,_,he=>by
  have:=Q.ret_some he
  subst this
  exact ⟨rfl,rfl,fun i x v hx=>by cases hx⟩
 |n+1,p::ps,v::vs,r,⟨h1,h2,h3⟩,he=>by
  obtain ⟨x,k1,he⟩:=Q.bind_some he
  obtain ⟨r',k2,he⟩:=Q.bind_some he
  have:=Q.ret_some he
  subst this
  obtain ⟨g1,g2,g3⟩:=qiS h n ps vs h3 k2
  refine ⟨by simp [g1],by simp [g2],fun i y u hy hu=> ?_⟩
  cases i with
  |zero=>
   injection hy with hy
   injection hu with hu
   subst hy; subst hu
   exact (qcS h h2 k1).mono fun b hb _=>FW.mono (fun s hs=>List.mem_append_left _ hs) hb
  |succ i=>exact (g3 i y u hy hu).mono fun b hb _=>FW.mono (fun s hs=>List.mem_append_right _ hs) hb
 |0,_::_,_,_,_,he=>by cases he
 |n+1,[],_,_,_,he=>by cases he
 |0,[],_::_,_,h,_=>by cases h
 |n+1,_::_,[],_,h,_=>by cases h
theorem qsn (hE:qbG E C.P) (h:qag C σ a.tmps w own) {t n:Nat} {e:Ty} {parts:Array (Nat×Operand)} (hop:o.op= .build t parts) {ps:List (Nat×Op1)} {vs:List (Nat×Value)} (hvs:(parts.toList.map fun x=>(x.1,a.eval x.2))=vs) (hps:qfV (sit C σ a.tmps w own) ps vs) (hty:E.ty t=some (.arr n e)) {f:Eff}
  (he:((if qj2 0 ps&&(decide (0<n * e.size)&&decide ((E.zero t).map BC.size=some (n * e.size))) then (qi7 e n (ps.map (·.2))).bind fun r=>(if e.flat then Q.ret [] else qbX r.2).bind fun fz=>okE (fz++qbV o (.val (.arr n e) r.1)) else .fail:Q Eff)).run (qt σ)=some f) (hd:∀u∈f.upd,u.s<σ.length):qdT C o a w (qr σ f.upd):=by
 split at he
 case isFalse=>cases he
 rename_i hcond
 simp only [Bool.and_eq_true,decide_eq_true_eq] at hcond
 obtain ⟨c1,c2,c3⟩:=hcond
 obtain ⟨r,h2,he⟩:=Q.bind_some he
 obtain ⟨fz,h3,he⟩:=Q.bind_some he
 have:=qL he
 subst this
 obtain ⟨g1,g2,g3⟩:=qiS h n ps vs hps h2
 have hpos:0<e.size:=Nat.pos_of_mul_pos_left c2
 have hlenv:∀v∈vs.map (·.2),v.cells.size=e.size:=by
  intro v hv
  obtain ⟨q,hq,rfl⟩:=List.mem_map.1 hv
  obtain ⟨j,hj,rfl⟩:=List.getElem_of_mem hq
  have:=(g3 j _ _ (List.getElem?_eq_getElem (by omega)) (List.getElem?_eq_getElem hj)).1.length
  simpa using this
 obtain ⟨c,hzc,hcs⟩:=Option.map_eq_some_iff.1 c3
 obtain ⟨i,z,k1,k2,k3⟩:=hE.zero t c hzc
 have hzl:z.cells.size=n * e.size:=by
  have:=(k3 w (C.free w own)).length
  rw [hcs] at this
  simpa using this
 have hfill:=Great.fill_whole hpos (vs.map (·.2)) z.cells hlenv (by simp [g1,hzl])
 rw [←qjZ 0 hps c1] at hfill
 have hm:(parts.map fun (i,x)=>(i,a.eval x)).toList=vs:=by rw [←hvs]; simp
 have hsz:=congrFun (hE.size t e (.inr ⟨n,hty⟩)) w
 have hrun:(execOp a.eval o).run C.P w= .ok (.value (.agg ((vs.map (·.2)).flatMap fun v=>v.cells.toList).toArray)) w:=by
  unfold execOp
  rw [hop]
  simp only [Sem.run_bind,Instr.build,zeroValue,typeInfo,Sem.run_pure,Result.andThen_ok,run_underlying (hE.arr t n e hty),hm]
  simp [hfill,k1,k2,hsz]
 refine qhZ h hrun h3 hd ?_
 refine ⟨⟨g2,(vs.map (·.2)).map (fun v=>v.cells.toList),by simp [g1],?_,fun j x c hj hc=> ?_⟩,fun _=>⟨_,rfl⟩,fun hf=>by cases hf⟩
 ·show ((vs.map (·.2)).flatMap fun v=>v.cells.toList).toArray.toList=_
  rw [List.toList_toArray,List.flatMap_def]
 ·rw [List.getElem?_map] at hc
  obtain ⟨v,hv,rfl⟩:=Option.map_eq_some_iff.1 hc
  rw [List.getElem?_map] at hv
  obtain ⟨q,hq,rfl⟩:=Option.map_eq_some_iff.1 hv
  exact (g3 j x q hj hq).1
theorem qrg (hE:qbG E C.P) (h:qag C σ a.tmps w own) (hp:qbL (sit C σ a.tmps w own) p) {t:Nat} {parts:Array (Nat×Operand)} (hop:o.op= .build t parts) {f:Eff}
  (he:(qee E p o).run (qt σ)=some f) (hd:∀u∈f.upd,u.s<σ.length) (hc:qd3 f.chk):qdT C o a w (qr σ f.upd):=by
 unfold qee at he
 rw [hop] at he
 obtain ⟨ps,h1,he⟩:=Q.bind_some he
 have hps:=qhE h hp parts.toList h1
 generalize hvs:(parts.toList.map fun x=>(x.1,a.eval x.2))=vs at hps
 split at he
 ·rename_i n e hty
  exact qsn hE h hop hvs hps hty he hd
 case h_3=>cases he
 rename_i T _ hty
 obtain ⟨r,h2,he⟩:=Q.bind_some he
 split at he
 case h_2=>cases he
 rename_i d hdst
 split at he
 case isFalse=>cases he
 rename_i hcond
 simp only [Bool.and_eq_true] at hcond
 obtain ⟨⟨c1,c2⟩,c3⟩:=hcond
 have:=qL he
 subst this
 have hnd:=List.nodup_cons.1 (qd9 c1)
 obtain ⟨hst,hag⟩:=qrf h2
 obtain ⟨fs,z,i,s1,s2,s3,s4,s5⟩:=hE.struct t T hty hst
 obtain ⟨hz0,hz1⟩:qbg w (C.free w own) (if E.ownz=true then (E.zero t).getD (.val T T.dflt) else .val T T.dflt) z.cells.toList []∧(if E.ownz=true then (E.zero t).getD (.val T T.dflt) else BC.val T T.dflt).size=T.size:=by
  have key:qbg w (C.free w own) (if E.ownz=true then (E.zero t).getD (.val T T.dflt) else .val T T.dflt) z.cells.toList []:=by
   split
   ·cases hzz:E.zero t with
    |none=>exact ⟨rfl,s4 w (C.free w own)⟩
    |some c=>
     obtain ⟨i',z',k1,k2,k3⟩:=hE.zero t c hzz
     rw [s2] at k1
     injection k1 with k1
     subst k1
     rw [s3] at k2
     injection k2 with k2
     subst k2
     exact k3 w _
   ·exact ⟨rfl,s4 w (C.free w own)⟩
  exact ⟨key,by rw [←key.length]; exact (s4 w (C.free w own)).length⟩
 obtain ⟨css,zss,bs,g1,g2,g2',g3,g4,g5,g6,g7⟩:=qlf h hps T 0 (zs:=z.cells.toList) hz0 hz1 h2 hnd.2
 have hvd:qjw (vs.map (·.1))=true:=by rw [←hps.map]; exact c2
 have hlen:zss.length=css.length:=by
  have e1:=congrArg List.length g2
  have e2:=congrArg List.length g2'
  simp at e1 e2
  omega
 have hbound:∀q∈vs,q.1<css.length:=by
  intro q hq
  have:q.1∈ps.map (·.1):=by rw [hps.map]; exact List.mem_map_of_mem hq
  obtain ⟨q',hq',e⟩:=List.mem_map.1 this
  have:=List.all_eq_true.1 c3 q' hq'
  have h3:q'.1<(qaZ T).length:=of_decide_eq_true this
  rw [e,←g2',List.length_map] at h3
  exact h3
 obtain ⟨rr,f1,f2⟩:=qqh (place:=fun i=>(qfH T 0).toArray[i]?) vs zss z.cells g1 (fun i c hi=>by
  have:=qoG T 0 g2 hi
  simpa using this) (fun q hq=>by
  have hb:=hbound q hq
  have:=g7 q.1 q hb (by rw [Nat.zero_add]; exact qrL hvd hq)
  rw [←g2,List.getElem?_map] at this
  have hz:zss[q.1]? =some (zss[q.1]'(by omega)):=List.getElem?_eq_getElem (by omega)
  rw [hz] at this
  exact ⟨_,hz,by injection this⟩)
 have hfin:vs.foldl (fun css q=>css.set q.1 q.2.cells.toList) zss=css:=by
  apply List.ext_getElem?
  intro k
  rw [qkH (css:=zss) vs hvd k]
  by_cases hk:k<css.length
  ·rw [g6 k hk]
   simp only [Nat.zero_add]
   cases vs.find? (fun q=>q.1 == k) with
   |none=>rfl
   |some q=>simp [show k<zss.length by omega]
  ·rw [List.getElem?_eq_none (show css.length≤k by omega)]
   cases vs.find? (fun q=>q.1 == k) with
   |none=>simp only; rw [List.getElem?_eq_none (by omega)]
   |some q=>simp [show ¬k<zss.length by omega]
 rw [hfin] at f2
 have hrr:rr=css.flatten.toArray:=by rw [←f2]
 subst hrr
 have hrun:(execOp a.eval o).run C.P w= .ok (.value (.agg css.flatten.toArray)) w:=by
  unfold execOp
  rw [hop]
  have hm:(parts.map fun (i,x)=>(i,a.eval x)).toList=vs:=by rw [←hvs]; simp
  have hpl:=qm2 w fs.toList T 0 s5
  simp only [Sem.run_bind,Instr.build,zeroValue,typeInfo,s2,s3,Sem.run_pure,Result.andThen_ok,run_underlying s1,hm]
  rw [Array.mapM_eq_mapM_toList]
  have f1':Instr.fill (fun x=>(qfH T 0)[x]?) z.cells vs=some css.flatten.toArray:=by simpa using f1
  simp [hpl,f1',s2,s3]
 refine qK hrun ?_
 rw [qiR a hdst]
 refine h.mut (hd ⟨d,true,qq1 r.1⟩ (by simp)) r.2 (fun s hs=>⟨hd ⟨s,true,.undef⟩ (by simp; exact .inl hs),fun e=>hnd.1 (by have e:s=d:=e; exact e ▸ hs)⟩) (qcx.refl _ _) (fun b hb=> .inr (.inr (g4 b hb))) g5 (qsL hag g3) (qmA _)
theorem qkO {P:Program} {t:Nat} {i:TypeInfo} (h:P.info? t=some i):(sizeOf t).run P w= .ok i.size w:=by
 simp [sizeOf,typeInfo,h]
theorem qlO (hE:qbG E C.P) (h:qag C σ a.tmps w own) (hp:qbL (sit C σ a.tmps w own) p) {t n:Nat} {parts:Array (Nat×Operand)} (hop:o.op= .buildSlice t n parts) {f:Eff}
  (he:(qee E p o).run (qt σ)=some f) (hd:∀u∈f.upd,u.s<σ.length) (hc:qd3 f.chk):qdT C o a w (qr σ f.upd):=by
 unfold qee at he
 rw [hop] at he
 obtain ⟨ps,h1,he⟩:=Q.bind_some he
 have hps:=qhE h hp parts.toList h1
 generalize hvs:(parts.toList.map fun x=>(x.1,a.eval x.2))=vs at hps
 split at he
 case h_2=>cases he
 rename_i e hty
 split at he
 ·rename_i h0
  have hfe:=qL he
  clear he
  subst hfe
  obtain ⟨hn0,hp0⟩:=h0
  have hp1:parts= #[]:=Array.eq_empty_of_size_eq_zero hp0
  rw [hn0,hp1] at hop
  have hu:=(hE.elem t e hty).under
  obtain ⟨i,z,k1,k2,k3,k4,k5,k6,k7⟩:=hE.elem' hty
  refine h.newOwn (n:=0) (cap:=0) (cur:= #[]) rfl (Nat.le_refl _) (by simp) (by simp) (fun i x hi=>by cases hi) ?_ hd
  unfold execOp
  rw [hop]
  simp [Sem.run_bind,Instr.buildSlice,run_underlying k1,qkO k2,Instr.fill,newRow]
  have e0:(Array.map (fun _=>(default:Value)) (Array.range 0))= #[]:=by apply Array.ext'; simp
  rw [e0]
 split at he
 case isFalse=>cases he
 rename_i hcond
 simp only [Bool.and_eq_true] at hcond
 obtain ⟨⟨c1,c2⟩,c3⟩:=hcond
 have c2:n * e.size≤16777216:=of_decide_eq_true c2
 have c3:0<n * e.size:=of_decide_eq_true c3
 obtain ⟨r,h2,he⟩:=Q.bind_some he
 obtain ⟨fz,h3,he⟩:=Q.bind_some he
 have:=qL he
 subst this
 obtain ⟨g1,g2,g3⟩:=qiS h n ps vs hps h2
 obtain ⟨i,z,k1,k2,k3,k4,k5,k6,k7⟩:=hE.elem' hty
 have hpos:0<e.size:=Nat.pos_of_mul_pos_left c3
 have hlenv:∀v∈vs.map (·.2),v.cells.size=e.size:=by
  intro v hv
  obtain ⟨q,hq,rfl⟩:=List.mem_map.1 hv
  obtain ⟨j,hj,rfl⟩:=List.getElem_of_mem hq
  have:=(g3 j _ _ (List.getElem?_eq_getElem (by omega)) (List.getElem?_eq_getElem hj)).1.length
  simpa using this
 have hfill:=Great.fill_whole hpos (vs.map (·.2)) ((Array.range (n * i.size)).map (z.cells[· % z.cells.size]!)) hlenv (by simp [g1,k3])
 rw [←qjZ 0 hps c1] at hfill
 have hrun:=run_buildSlice (P:=C.P) w t (E.etid t) n vs.toArray _ i z k1 k2 k4 (by rw [k3]; omega) (by rw [k3]; omega) (by rw [k3] at hfill⊢; exact hfill)
 have hx:(execOp a.eval o).run C.P w= .ok (.value (.slice (some ⟨w.heap.size,0,none⟩) n n)) (w.alloc (.cells ((vs.map (·.2)).flatMap fun v=>v.cells.toList).toArray (E.etid t))):=by
  unfold execOp
  rw [hop]
  have hm:(parts.map fun (i,x)=>(i,a.eval x))=vs.toArray:=by rw [←hvs]; apply Array.ext'; simp
  simp only [Sem.run_bind,hm,hrun]
  rfl
 have hcells:∀F,(∀(i:Nat) (x:e.den) (v:Nat×Value),r.1[i]? =some x→vs[i]? =some v→qaq w F e x v.2)→∀(i:Nat) (x:e.den),r.1[i]? =some x→Rep w F e x (((((vs.map (·.2)).flatMap fun v=>v.cells.toList).toArray).toList.drop (i * e.size)).take e.size):=by
  intro F hF j x hj
  have hjl:j<vs.length:=by rw [g1,←g2]; exact (List.getElem?_eq_some_iff.1 hj).1
  have:=hF j x vs[j] hj (List.getElem?_eq_getElem hjl)
  have e1:((vs.map (·.2)).flatMap fun v=>v.cells.toList)=((vs.map (·.2)).map fun v=>v.cells.toList).flatten:=by rw [List.flatMap_def]
  have hl:∀c∈((vs.map (·.2)).map fun v=>v.cells.toList),c.length=e.size:=by
   intro c hc
   obtain ⟨v,hv,rfl⟩:=List.mem_map.1 hc
   simpa using hlenv v hv
  rw [List.toList_toArray,e1,(qbA hl (i:=j) (c:=vs[j].2.cells.toList) (by simp [hjl])).1]
  exact this.1
 have hnm:n≤maxLen:=by
  have:n * 1≤n * e.size:=Nat.mul_le_mul_left _ hpos
  simp only [maxLen]; omega
 have hsz:(((vs.map (·.2)).flatMap fun v=>v.cells.toList).toArray).size=n * e.size:=by
  have e1:((vs.map (·.2)).flatMap fun v=>v.cells.toList)=((vs.map (·.2)).map fun v=>v.cells.toList).flatten:=by rw [List.flatMap_def]
  have hl:∀c∈((vs.map (·.2)).map fun v=>v.cells.toList),c.length=e.size:=by
   intro c hc
   obtain ⟨v,hv,rfl⟩:=List.mem_map.1 hc
   simpa using hlenv v hv
  rw [List.size_toArray,e1,qeb hl]
  simp [g1]
 by_cases hf:e.flat=true
 ·rw [if_pos hf] at h3
  have:=Q.ret_some h3
  subst this
  exact h.newOwn g2 (Nat.le_refl _) hnm hsz (hcells _ fun i x v hx hv=>(g3 i x v hx hv).flat hf) hx hd
 ·rw [if_neg hf] at h3
  obtain ⟨own',q1,q2,q3,q4⟩:=qcC r.2 h h3
  rw [qbF]
  exact q1.newOwn g2 (Nat.le_refl _) hnm hsz (hcells _ fun i x v hx hv=>(g3 i x v hx hv).mono fun b hb _=>q4 b hb) hx (fun u hu=>by rw [qF]; exact hd u (List.mem_append_right _ hu))
end
end Go.Vi
