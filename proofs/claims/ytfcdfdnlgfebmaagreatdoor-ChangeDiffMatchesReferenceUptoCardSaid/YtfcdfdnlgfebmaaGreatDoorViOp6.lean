/- The abstract interpreter: moves, memory, choice, parts of tuples, rows. -/
import Derived.Test.YtfcdfdnlgfebmaaGreatDoorViOp5
set_option linter.unusedVariables false
set_option linter.unusedSimpArgs false
set_option linter.unnecessarySimpa false
set_option linter.unusedSectionVars false
namespace Go.Vi
open Go.RowKit
section
variable {C:Ctx} {E:Env} {σ:St} {tm:Array Value} {a:Act} {w w':World} {own:Nat→List Nat} {o:Oper} {p:qhl} [Tabbed E C]
theorem qor (hpn:∀k∈E.pins,∃b,C.pn k=some b) (h:qag C σ a.tmps w own) (hp:qbL (sit C σ a.tmps w own) p) {x:Operand} {as:Bool} (hop:o.op=if as then .assign x else .move x) {f:Eff}
  (he:(qee E p o).run (qt σ)=some f) (hd:∀u∈f.upd,u.s<σ.length) (hc:qd3 f.chk):qdT C o a w (qr σ f.upd):=by
 have hx:(execOp a.eval o).run C.P w= .ok (.value (a.eval x)) w:=by
  unfold execOp
  cases as <;> simp only [if_true,if_false,Bool.false_eq_true] at hop <;> rw [hop] <;> rfl
 unfold qee at he
 cases as <;> simp only [if_true,if_false,Bool.false_eq_true] at hop <;> rw [hop] at he
 ·obtain ⟨x1,h1,he⟩:=Q.bind_some he
  exact qqy h (qaE h hp h1) (qqv h h1) (qoK h1) hp.1 hpn he hd hx
 ·obtain ⟨x1,h1,he⟩:=Q.bind_some he
  exact qqy h (qaE h hp h1) (qqv h h1) (qoK h1) hp.1 hpn he hd hx
theorem qsD (hE:qbG E C.P) (h:qag C σ a.tmps w own) (hp:qbL (sit C σ a.tmps w own) p) {t:Nat} {x:Operand} (hop:o.op= .load t x) {f:Eff}
  (he:(qee E p o).run (qt σ)=some f) (hd:∀u∈f.upd,u.s<σ.length) (hc:qd3 f.chk):qdT C o a w (qr σ f.upd):=by
 unfold qee at he
 rw [hop] at he
 obtain ⟨x1,h1,he⟩:=Q.bind_some he
 refine qud hE h hp.1 (qaE h hp h1) he hd ?_
 unfold execOp
 rw [hop]
 simp only [Sem.run_bind]
 rfl
theorem qq0 (hE:qbG E C.P) (h:qag C σ a.tmps w own) (hp:qbL (sit C σ a.tmps w own) p) {t:Nat} {x y:Operand} (hop:o.op= .store t x y) {f:Eff}
  (he:(qee E p o).run (qt σ)=some f) (hd:∀u∈f.upd,u.s<σ.length) (hc:qd3 f.chk):qdT C o a w (qr σ f.upd):=by
 unfold qee at he
 rw [hop] at he
 simp only at he
 split at he
 ·cases he
 rename_i hdst
 obtain ⟨x1,h1,he⟩:=Q.bind_some he
 obtain ⟨y1,h2,he⟩:=Q.bind_some he
 refine qs1 hE h hp.1 (qaE h hp h1) (qaE h hp h2) (by cases ho:o.dst <;> simp [ho] at hdst⊢) he hd ?_
 unfold execOp
 rw [hop]
 simp only [Sem.run_bind]
 rfl
theorem qqQ (hE:qbG E C.P) (h:qag C σ a.tmps w own) (hp:qbL (sit C σ a.tmps w own) p) {t:Nat} (hop:o.op= .alloc t) {f:Eff}
  (he:(qee E p o).run (qt σ)=some f) (hd:∀u∈f.upd,u.s<σ.length) (hc:qd3 f.chk):qdT C o a w (qr σ f.upd):=by
 unfold qee at he
 rw [hop] at he
 simp only at he
 split at he
 ·rename_i c hz
  have:=qL he
  subst this
  obtain ⟨i,z,k1,k2,k3⟩:=hE.zero t c hz
  refine qr4 hE h hz hd k1 k2 ?_
  unfold execOp
  rw [hop]
  simp [Instr.alloc,zeroValue,typeInfo,k1,k2,newVar,newRow,ptr]
 ·cases he
theorem qug (hE:qbG E C.P) (h:qag C σ a.tmps w own) (hp:qbL (sit C σ a.tmps w own) p) {t:Nat} {x:Operand} (hop:o.op= .box t x) {f:Eff}
  (he:(qee E p o).run (qt σ)=some f) (hd:∀u∈f.upd,u.s<σ.length) (hc:qd3 f.chk):qdT C o a w (qr σ f.upd):=by
 unfold qee at he
 rw [hop] at he
 obtain ⟨x1,h1,he⟩:=Q.bind_some he
 refine qvB h (qaE h hp h1) he hd ?_
 unfold execOp
 rw [hop]
 simp [Instr.box,newVar,newRow,ptr]
theorem qn2 (h:qag C σ a.tmps w own) (hp:qbL (sit C σ a.tmps w own) p) {x:Operand} (hop:o.op= .nilCheck x) {f:Eff}
  (he:(qee E p o).run (qt σ)=some f) (hd:∀u∈f.upd,u.s<σ.length) (hc:qd3 f.chk):qdT C o a w (qr σ f.upd):=by
 unfold qee at he
 rw [hop] at he
 obtain ⟨x1,h1,he⟩:=Q.bind_some he
 have ho:=qaE h hp h1
 have hr:∀ad,a.eval x= .pointer (some ad)→(execOp a.eval o).run C.P w= .ok (.value (a.eval x)) w:=fun ad e=>by
  unfold execOp
  rw [hop]
  simp [e]
 have hw:=qqv h h1
 split at he
 ·rename_i s v off hb
  rw [Q.run_get] at he
  split at he
  ·rename_i hv
   have:=qL he
   subst this
   obtain ⟨b,g1,g2,g3⟩:=qfn h hp.1 ho hb hv
   obtain ⟨q1,q2⟩:=qqs h hv g1 g2 g3
   exact qK (hr _ g2) (h.dst0 hd q1 q2)
  ·cases he
 ·split at he
  ·rename_i s v fo sz i b hxa
   rw [Q.run_get] at he
   split at he
   ·rename_i hv
    have:=qL he
    subst this
    have hp:=ho.unowned (by rw [hxa]; rfl)
    rw [hxa] at hp hw
    obtain ⟨g,k,cap,k1,k2,k3,k4⟩:=hp.2 hv
    exact qK (hr _ k4) (h.dst0 hd ⟨rfl,fun _=>⟨g,k,cap,k1,k2,k3,k4⟩⟩ hw)
   ·cases he
  ·rename_i t y b hxa
   have:=qL he
   subst this
   have hp:=ho.unowned (by rw [hxa]; rfl)
   rw [hxa] at hp
   obtain ⟨k0,ad,cs,k1,k2⟩:=hp
   exact qK (hr _ k1) (h.dst0 hd ⟨rfl,ad,cs,k1,k2⟩ (fun m hm=>by cases hm))
  ·rename_i e y hxa
   have:=Q.ret_some he
   subst this
   have hsome:=hc _ (List.mem_singleton.2 rfl)
   rw [qgb] at hsome
   obtain ⟨y',rfl⟩:=Option.isSome_iff_exists.1 hsome
   have hv:=ho.unowned (by rw [hxa]; rfl)
   rw [hxa] at hv
   rcases qaq.opt hv.2 with ⟨k1,_⟩|⟨y2,ad,cs,k1,k2,k3,k4,k5,k6⟩
   ·cases k1
   ·injection k1 with k1
    subst k1
    refine qK (hr _ k2) (h.dst0 hd ⟨rfl,ad,cs,?_,k3,k4,k5,?_⟩ (fun m hm=>by cases hm))
    ·rw [k2]; simp [Addr.add]
    ·rw [qk0]; exact k6
  ·cases he
theorem qsB (h:qag C σ a.tmps w own) (hp:qbL (sit C σ a.tmps w own) p) {c x y:Operand} (hop:o.op= .pick c x y) {f:Eff}
  (he:(qee E p o).run (qt σ)=some f) (hd:∀u∈f.upd,u.s<σ.length) (hc:qd3 f.chk):qdT C o a w (qr σ f.upd):=by
 unfold qee at he
 rw [hop] at he
 obtain ⟨c1,h1,he⟩:=Q.bind_some he
 obtain ⟨cr,h2,he⟩:=Q.bind_some he
 have rc:=qde h (qaE h hp h1) h2
 split at he
 case h_2=>cases he
 rename_i bc _
 have ec:=qaq.bool rc
 obtain ⟨x1,h3,he⟩:=Q.bind_some he
 obtain ⟨xr,h4,he⟩:=Q.bind_some he
 obtain ⟨y1,h5,he⟩:=Q.bind_some he
 obtain ⟨yr,h6,he⟩:=Q.bind_some he
 split at he
 case h_2=>cases he
 rename_i z hz
 split at he
 case isFalse=>cases he
 rename_i hemp
 simp only [Bool.and_eq_true,List.isEmpty_iff] at hemp
 have:=qL he
 subst this
 have path:∀(wb:Bool),bc=wb→qbL (sit C σ a.tmps w own) (qpx c c1.v wb bc p):=by
  intro wb hwb
  cases c with
  |tmp t=>
   refine ⟨hp.1,fun q hq=> ?_⟩
   rcases List.mem_cons.1 hq with rfl|hq
   ·have h1:(⟨some t,(qt σ t).1,qbM p (qt σ t).2⟩:Op1)=c1:=Option.some.inj h1
    refine ⟨by rw [←h1]; rfl,?_,hwb⟩
    rw [←hwb]
    exact ec
   ·exact hp.2 q hq
  |_=>exact hp
 have hr:(execOp a.eval o).run C.P w= .ok (.value (if bc then a.eval x else a.eval y)) w:=by
  unfold execOp
  rw [hop]
  cases bc <;> simp [ec,asBool]
 refine qaY h hr hd ?_
 cases hb:bc with
 |true=>
  have:=qde h (qaE h (path true hb) h3) h4
  rw [hemp.1] at this
  exact this.mono fun b hb _=>qm3 hb
 |false=>
  have:=qde h (qaE h (path false hb) h5) h6
  rw [hemp.2] at this
  exact (qaq.as hz this).mono fun b hb _=>qm3 hb
theorem qf1 {l:List Value} {n i s:Nat} (h:i<n):((l.take (n * s)).drop (i * s)).take s=(l.drop (i * s)).take s:=by
 rw [List.drop_take,List.take_take]
 congr 1
 have:(i+1) * s≤n * s:=Nat.mul_le_mul_right _ h
 rw [Nat.add_mul] at this
 omega
theorem qag.newOwn (h:qag C σ a.tmps w own) {et:Nat} {e:Ty} {xs:List e.den} {cur:Array Value} {n cap:Nat} (hlen:xs.length=n) (hnc:n≤cap) (hcm:cap≤maxLen) (hsz:cur.size=cap * e.size)
  (hx:∀i x,xs[i]? =some x→Rep w (C.free w own) e x ((cur.toList.drop (i * e.size)).take e.size))
  (hr:(execOp a.eval o).run C.P w= .ok (.value (.slice (some ⟨w.heap.size,0,none⟩) n cap)) (w.alloc (.cells cur et))) (hd:∀u∈qbV o (.own et e xs),u.s<σ.length):qdT C o a w (qr σ (qbV o (.own et e xs))):=by
 refine qK hr (h.dst (bs:=[w.heap.size]) (qcx.alloc _ _ _) hd (fun b hb=> ?_) (by simp) ?_ (fun m hm=>by cases hm))
 ·simp at hb
  subst hb
  exact ⟨Nat.le_refl _,by simp⟩
 ·refine ⟨cur.toList.take (n * e.size),⟨?_,.inr ⟨w.heap.size,cap,cur,by rw [hlen],Nat.zero_le _,heap_alloc_new w _,by rw [hlen]; exact hnc,hcm,hsz,by rw [hlen]⟩⟩,rfl,fun i x hi=> ?_⟩
  ·rw [List.length_take,Array.length_toList,hsz,hlen]
   exact Nat.min_eq_left (Nat.mul_le_mul_right _ hnc)
  ·have hlt:i<n:=by
    rw [←hlen]
    exact (List.getElem?_eq_some_iff.1 hi).1
   rw [qf1 hlt]
   refine (hx i x hi).keep fun b hb hlt=>⟨⟨.inl hb,by simp; omega,by simp; omega⟩,by simp; omega,heap_alloc_old w _ hlt⟩
theorem qfG (z:Array Value) (n i:Nat) (hi:i<n) (hz:0<z.size):(madeCells z n).toList[i]? =z.toList[i % z.size]? :=by
 have h1:i % z.size<z.size:=Nat.mod_lt _ hz
 simp [madeCells,hi,h1]
theorem qfO (z:Array Value) (n i:Nat) (hi:i<n):((madeCells z (n * z.size)).toList.drop (i * z.size)).take z.size=z.toList:=by
 have hle:(i+1) * z.size≤n * z.size:=Nat.mul_le_mul_right _ hi
 rw [Nat.add_mul,Nat.one_mul] at hle
 apply List.ext_getElem?
 intro j
 rw [List.getElem?_take]
 split
 ·rename_i hj
  rw [List.getElem?_drop,qfG _ _ _ (by omega) (by omega)]
  rw [show (i * z.size+j) % z.size=j from by rw [Nat.mul_comm,Nat.mul_add_mod,Nat.mod_eq_of_lt hj]]
 ·rename_i hj
  rw [List.getElem?_eq_none (by rw [Array.length_toList]; omega)]
theorem qms (z:Array Value) (n m i:Nat) (hi:i<n):((Builtin.zeroCells z n++Builtin.zeroCells z m).toList.drop (i * z.size)).take z.size=z.toList:=by
 have hle:(i+1) * z.size≤n * z.size:=Nat.mul_le_mul_right _ hi
 rw [Nat.add_mul,Nat.one_mul] at hle
 have hs:(Builtin.zeroCells z n).toList.length=n * z.size:=by simp [Builtin.zeroCells]
 rw [Array.toList_append,List.drop_append,List.take_append,List.length_drop,hs]
 rw [show z.size - (n * z.size - i * z.size)=0 by omega,List.take_zero,List.append_nil]
 exact qfO z n i hi
theorem qmi (hE:qbG E C.P) (h:qag C σ a.tmps w own) (hp:qbL (sit C σ a.tmps w own) p) {t:Nat} {x y:Operand} (hop:o.op= .makeSlice t x y) {f:Eff}
  (he:(qee E p o).run (qt σ)=some f) (hd:∀u∈f.upd,u.s<σ.length) (hc:qd3 f.chk):qdT C o a w (qr σ f.upd):=by
 unfold qee at he
 rw [hop] at he
 obtain ⟨x1,h1,he⟩:=Q.bind_some he
 obtain ⟨y1,h2,he⟩:=Q.bind_some he
 obtain ⟨n,h3,he⟩:=Q.bind_some he
 obtain ⟨m,h4,he⟩:=Q.bind_some he
 obtain ⟨e1,g1⟩:=qef h (qaE h hp h1) h3
 obtain ⟨e2,g2⟩:=qef h (qaE h hp h2) h4
 split at he
 case h_2=>cases he
 rename_i e hty
 split at he
 case isFalse=>cases he
 rename_i hby
 have:=Q.ret_some he
 subst this
 obtain ⟨i,z,k1,k2,k3,k4,k5,k6,k7⟩:=hE.elem' hty
 have c1:0≤n.2:=by have:=hc (leI 0 n.2) (by simp); simpa [qba] using this
 have c2:n.2≤m.2:=by have:=hc (leI n.2 m.2) (by simp); simpa [qba] using this
 have c3:m.2 * (E.bytes (E.etid t):Int)≤140737488355328:=by
  have:=hc (quZ m.2 (E.bytes (E.etid t))) (by simp)
  simp [qnZ] at this
  exact this.2
 have c5:m.2≤140737488355328:=by
  have h1:(1:Int)≤(E.bytes (E.etid t):Int):=by omega
  have h2:m.2 * 1≤m.2 * (E.bytes (E.etid t):Int):=Int.mul_le_mul_of_nonneg_left h1 (by omega)
  omega
 have c4:m.2≤9223372036854775807:=by omega
 have hrun:=run_make (P:=C.P) w t (E.etid t) i z k1 k2 k4 n.1 m.1 n.2 m.2 c1 c2 (by rw [k6,Int.mul_comm]; omega) c4
 refine h.newOwn (n:=n.2.toNat) (cap:=m.2.toNat) (cur:=madeCells z.cells (m.2.toNat * i.size)) (by simp [qjG]) (by omega) (by simp only [maxLen]; omega) (by rw [size_madeCells,k3]) ?_ ?_ hd
 ·intro j u hj
  have hlt:j<n.2.toNat:=by
   have:=(List.getElem?_eq_some_iff.1 hj).1
   simpa [qjG] using this
  have hu:u=e.dflt:=by
   have:=List.mem_of_getElem? hj
   rw [qjG] at this
   exact List.eq_of_mem_replicate this
  rw [hu,k3,←k5,qfO _ _ _ (by omega)]
  exact k7 _ _
 ·unfold execOp
  rw [hop]
  simp only [Sem.run_bind,e1,e2,hrun]
  rfl
end
end Go.Vi
