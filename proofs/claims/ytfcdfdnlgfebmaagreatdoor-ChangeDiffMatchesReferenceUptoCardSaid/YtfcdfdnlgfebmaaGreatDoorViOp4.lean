/- The abstract interpreter: freezing; numbers, strings, lengths, parts. -/
import Derived.Test.YtfcdfdnlgfebmaaGreatDoorViOp3
import Derived.Laws.Slices
import Derived.Laws.Strings2
import Derived.Laws.Strings3
import Derived.Laws.BytesArg
import Derived.Lib.ConvBytes
set_option linter.unusedVariables false
set_option linter.unusedSimpArgs false
set_option linter.unnecessarySimpa false
set_option linter.unusedSectionVars false
namespace Go.Vi
open Go.RowKit
section
variable {C:Ctx} {E:Env} {σ:St} {tm:Array Value} {a:Act} {w w':World} {own:Nat→List Nat} {o:Oper} [Tabbed E C]
theorem qaq.flat {F F':Nat→Prop} {t:Ty} {x:t.den} {v:Value} (hf:t.flat=true) (h:qaq w F t x v):qaq w' F' t x v:=⟨Rep.flat hf h.1,h.2⟩
theorem qhZ (h:qag C σ a.tmps w own) {t:Ty} {x:t.den} {v:Value} {ow:List Nat} {us:List U} (hr:(execOp a.eval o).run C.P w= .ok (.value v) w)
  (hus:(if t.flat then Q.ret [] else qbX ow).run (qt σ)=some us) (hd:∀u∈us++qbV o (.val t x),u.s<σ.length) (hv:qaq w (FW (sit C σ a.tmps w own) ow) t x v):
  qdT C o a w (qr σ (us++qbV o (.val t x))):=by
 by_cases hf:t.flat=true
 ·rw [if_pos hf] at hus
  have:=Q.ret_some hus
  subst this
  exact qaY h hr hd (hv.flat hf)
 ·rw [if_neg hf] at hus
  obtain ⟨own',k1,k2,k3,k4⟩:=qcC ow h hus
  rw [qbF]
  exact qaY k1 hr (fun u hu=>by rw [qF]; exact hd u (List.mem_append_right _ hu)) (hv.mono fun b hb _=>k4 b hb)
variable {p:qhl}
theorem qaE (h:qag C σ a.tmps w own) (hp:qbL (sit C σ a.tmps w own) p) {tid:Nat} {x:Operand} {o1:Op1} (ho:(opd E p tid x).run (qt σ)=some o1):qb3 (sit C σ a.tmps w own) o1 (a.eval x):=
 opd_ok (ds:=a.defers) h hp ho
def plainV (v:Value):Prop:=(∃k n,v= .int k n)∨(∃s,v= .string s)∨∃b,v= .bool b
theorem qh7 {op:BinOp} {t:Nat} {x y:Operand} {a b:Value} {P:Program} (h1:plainV a):(eqGuard op t x y a b).run P w= .ok () w:=by
 rcases h1 with ⟨_,_,rfl⟩|⟨_,rfl⟩|⟨_,rfl⟩ <;> cases op <;> simp [eqGuard]
theorem qfe (d:Nat) {P:Program} {t e:Nat} (a:Option Addr) (l c:Nat) (h:P.underlying t=some (.slice e)):(Op.equalIn (d+1) t (.slice a l c) (.slice none 0 0)).run P w= .ok a.isNone w:=by
 cases a <;> simp [Op.equalIn,run_underlying h]
theorem qnD {P:Program} {t e:Nat} (a:Option Addr) (l c:Nat) (h:P.underlying t=some (.slice e)) (op:BinOp) (hop:op= .eql∨op= .neq):
  (binOp op t (.slice a l c) (.slice none 0 0)).run P w= .ok (.bool (if qif op then a.isNone else !a.isNone)) w:=by
 rcases hop with rfl|rfl
 ·simp only [binOp]
  simp [Op.equal,Op.maxDepth,qfe 9999 a l c h,qif]
 ·simp only [binOp]
  simp [Op.equal,Op.maxDepth,qfe 9999 a l c h,qif]
theorem qmu (hE:qbG E C.P) (h:qag C σ a.tmps w own) (hp:qbL (sit C σ a.tmps w own) p) {op:BinOp} {t:Nat} {x y:Operand} {b:TypeId} (hop:o.op= .binOp op t x y b) {f:Eff} (hn:qrZ op y=true) {e0:Ty} (hty:E.ty t=some (.slice e0))
  (he:(((opd E p t x).bind fun x=>(qmg x).bind fun x=>(match x with
   |⟨.slice _,xs,_⟩=>okE (qbV o (.amb (qif op) (eqI (qn xs) 0)))
   |_=> .fail)).run (qt σ))=some f) (hd:∀u∈f.upd,u.s<σ.length):qdT C o a w (qr σ f.upd):=by
 obtain ⟨x1,hx,he⟩:=Q.bind_some he
 obtain ⟨xr,hxr,he⟩:=Q.bind_some he
 have rx:=qde h (qaE h hp hx) hxr
 split at he
 case h_2=>cases he
 rename_i e xs ow
 have:=qL he
 subst this
 have hu:=(hE.elem t e0 hty).under
 obtain ⟨hyo,hopc⟩:y= .const (.slice none 0 0)∧(op= .eql∨op= .neq):=by
  unfold qrZ at hn
  split at hn
  ·exact ⟨rfl,.inl rfl⟩
  ·exact ⟨rfl,.inr rfl⟩
  ·cases hn
 have hya:a.eval y= .slice none 0 0:=by rw [hyo]; rfl
 obtain ⟨ad,l,c,hv,hl⟩:∃ad l c,a.eval x= .slice ad l c∧(ad=none→xs=[]):=by
  rcases qaq.slice rx with ⟨k4,k5⟩|⟨ad,cap,k4,k5,k6,k7⟩
  ·exact ⟨none,0,0,k4,fun _=>k5⟩
  ·exact ⟨some ad,_,_,k4,fun h=>by cases h⟩
 have hg:(eqGuard op t x y (a.eval x) (a.eval y)).run C.P w= .ok () w:=by
  rw [hv,hya]
  rcases hopc with rfl|rfl <;> simp [eqGuard]
 refine qK (v:= .bool (if qif op then ad.isNone else !ad.isNone)) ?_ (h.dst0 hd ⟨rfl,_,rfl,fun hb=> ?_⟩ (fun m hm=>by cases hm))
 ·unfold execOp
  rw [hop]
  simp only [Sem.run_bind,hg,Result.andThen_ok]
  rw [hv,hya,qnD ad l c hu op hopc]
  rfl
 ·have hnone:ad=none:=by
   rcases hopc with rfl|rfl
   ·simpa [qif] using hb
   ·simpa [qif] using hb
  rw [hl hnone,qn0,qi]
  rfl
theorem qnQ {P:Program} {w:World} {t:TypeId} {ms:Array (String×TypeId)} (hu:P.underlying t=some (.interface ms)) {b:Bool} {v:Value} (h:(b=true∧v= .nilIface)∨(b=false∧∃t x,v= .iface t x)):(Op.equal t v .nilIface).run P w= .ok b w:=by
 have key:∀d,(Op.equalIn (d+1) t v .nilIface).run P w= .ok b w:=fun d=>by
  rcases h with ⟨rfl,rfl⟩|⟨rfl,tt,x,rfl⟩ <;> simp [Op.equalIn,run_underlying hu]
 exact key 9999
theorem qmD (hE:qbG E C.P) (h:qag C σ a.tmps w own) (hp:qbL (sit C σ a.tmps w own) p) {op:BinOp} {t:Nat} {x y:Operand} {b:TypeId} (hop:o.op= .binOp op t x y b) {f:Eff} (hn:qpS op y=true) (hty:E.ty t=some .err)
  (he:(((opd E p t x).bind fun x=>(qmg x).bind fun x=>(match x with
   |⟨.err,b,_⟩=>okE (qbV o (.val .bool (bif qif op then b else !b)))
   |_=> .fail)).run (qt σ))=some f) (hd:∀u∈f.upd,u.s<σ.length):qdT C o a w (qr σ f.upd):=by
 obtain ⟨x1,hx,he⟩:=Q.bind_some he
 obtain ⟨xr,hxr,he⟩:=Q.bind_some he
 have rx:=qde h (qaE h hp hx) hxr
 split at he
 case h_2=>cases he
 rename_i bb ow
 have:=qL he
 subst this
 obtain ⟨ms,hu⟩:=hE.err t hty
 obtain ⟨hyo,hopc⟩:y= .const .nilIface∧(op= .eql∨op= .neq):=by
  unfold qpS at hn
  split at hn
  ·exact ⟨rfl,.inl rfl⟩
  ·exact ⟨rfl,.inr rfl⟩
  ·cases hn
 have hya:a.eval y= .nilIface:=by rw [hyo]; rfl
 have hv:=qaq.err rx
 have hg:(eqGuard op t x y (a.eval x) (a.eval y)).run C.P w= .ok () w:=by
  rw [hya,hyo]
  rcases hv with ⟨_,hv⟩|⟨_,tt,xx,hv⟩ <;> rw [hv] <;> rcases hopc with rfl|rfl <;> simp [eqGuard]
 have hq:=qnQ (w:=w) hu hv
 refine qK (v:= .bool (bif qif op then bb else !bb)) ?_ (h.dst0 hd ⟨rfl,qaq.ofBool _ _ _⟩ (fun m hm=>by cases hm))
 unfold execOp
 rw [hop]
 simp only [Sem.run_bind,hg,Result.andThen_ok]
 rw [hya]
 rcases hv with ⟨_,hv⟩|⟨_,tt,xx,hv⟩ <;> rw [hv] at hq⊢ <;> rcases hopc with rfl|rfl <;> simp [binOp,hq,qif]
theorem qnF {P:Program} {w:World} {t u:TypeId} (hu:P.underlying t=some (.pointer u)) (q:Option Addr):(Op.equal t (.pointer q) (.pointer none)).run P w= .ok q.isNone w:=by
 have key:∀d,(Op.equalIn (d+1) t (.pointer q) (.pointer none)).run P w= .ok q.isNone w:=fun d=>by
  cases q <;> simp [Op.equalIn,run_underlying hu]
 exact key 9999
theorem qmk (hE:qbG E C.P) (h:qag C σ a.tmps w own) (hp:qbL (sit C σ a.tmps w own) p) {op:BinOp} {t:Nat} {x y:Operand} {b:TypeId} (hop:o.op= .binOp op t x y b) {f:Eff} (hn:qp2 op y=true) {e0:Ty} (hty:E.ty t=some (.opt e0))
  (he:(((opd E p t x).bind fun x=>(qmg x).bind fun x=>(match x with
   |⟨.opt _,z,_⟩=>okE (qbV o (.val .bool (bif qif op then !(qw z) else qw z)))
   |_=> .fail)).run (qt σ))=some f) (hd:∀u∈f.upd,u.s<σ.length):qdT C o a w (qr σ f.upd):=by
 obtain ⟨x1,hx,he⟩:=Q.bind_some he
 obtain ⟨xr,hxr,he⟩:=Q.bind_some he
 have rx:=qde h (qaE h hp hx) hxr
 split at he
 case h_2=>cases he
 rename_i ee z ow
 have:=qL he
 subst this
 obtain ⟨ms,hu⟩:=hE.opt t e0 hty
 obtain ⟨hyo,hopc⟩:y= .const (.pointer none)∧(op= .eql∨op= .neq):=by
  unfold qp2 at hn
  split at hn
  ·exact ⟨rfl,.inl rfl⟩
  ·exact ⟨rfl,.inr rfl⟩
  ·cases hn
 have hya:a.eval y= .pointer none:=by rw [hyo]; rfl
 obtain ⟨q,hv,hq⟩:∃q,a.eval x= .pointer q∧qw z=q.isSome:=by
  rw [qgb]
  rcases qaq.opt rx with ⟨k1,k2⟩|⟨y2,ad,cs,k1,k2,_⟩
  ·exact ⟨none,k2,by have k1:z=none:=k1; rw [k1]; rfl⟩
  ·exact ⟨some ad,k2,by have k1:z=some y2:=k1; rw [k1]; rfl⟩
 have hg:(eqGuard op t x y (a.eval x) (a.eval y)).run C.P w= .ok () w:=by
  rw [hya,hyo,hv]
  rcases hopc with rfl|rfl <;> simp [eqGuard]
 have hqq:=qnF (w:=w) hu q
 refine qK (v:= .bool (bif qif op then !(qw z) else qw z)) ?_ (h.dst0 hd ⟨rfl,qaq.ofBool _ _ _⟩ (fun m hm=>by cases hm))
 unfold execOp
 rw [hop]
 simp only [Sem.run_bind,hg,Result.andThen_ok]
 rw [hya,hv,hq]
 rcases hopc with rfl|rfl <;> cases q <;> simp [binOp,hqq,qif]
theorem qq9 (hE:qbG E C.P) (h:qag C σ a.tmps w own) (hp:qbL (sit C σ a.tmps w own) p) {op:BinOp} {t:Nat} {x y:Operand} {b:TypeId} (hop:o.op= .binOp op t x y b) {f:Eff}
  (he:(qee E p o).run (qt σ)=some f) (hd:∀u∈f.upd,u.s<σ.length) (hc:qd3 f.chk):qdT C o a w (qr σ f.upd):=by
 unfold qee at he
 rw [hop] at he
 simp only at he
 split at he
 ·rename_i hn
  simp only [Bool.and_eq_true] at hn
  obtain ⟨e0,hty⟩:∃e0,E.ty t=some (.slice e0):=by
   have:=hn.2
   unfold qn8 at this
   split at this
   ·exact ⟨_,by assumption⟩
   ·cases this
  exact qmu hE h hp hop hn.1 hty he hd
 split at he
 ·rename_i hn
  simp only [Bool.and_eq_true] at hn
  have hty:E.ty t=some .err:=by
   have:=hn.2
   unfold qti at this
   split at this
   ·assumption
   ·cases this
  exact qmD hE h hp hop hn.1 hty he hd
 split at he
 ·rename_i hn
  simp only [Bool.and_eq_true] at hn
  obtain ⟨e0,hty⟩:∃e0,E.ty t=some (.opt e0):=by
   have:=hn.2
   unfold qrP at this
   split at this
   ·exact ⟨_,by assumption⟩
   ·cases this
  exact qmk hE h hp hop hn.1 hty he hd
 obtain ⟨x1,hx,he⟩:=Q.bind_some he
 obtain ⟨y1,hy,he⟩:=Q.bind_some he
 obtain ⟨xr,hxr,he⟩:=Q.bind_some he
 obtain ⟨yr,hyr,he⟩:=Q.bind_some he
 have rx:=qde h (qaE h hp hx) hxr
 have ry:=qde h (qaE h hp hy) hyr
 have key:∀(r:AV×List Bool),binE E op t xr yr=some r→qd3 r.2→∃v,(binOp op t (a.eval x) (a.eval y)).run C.P w= .ok v w∧(eqGuard op t x y (a.eval x) (a.eval y)).run C.P w= .ok () w∧∃u z,r.1= .val u z∧qaq w (C.free w own) u z v:=by
  intro r hr hcr
  unfold binE at hr
  split at hr
  ·rename_i k m _ k' n _
   split at hr
   ·rename_i hk
    injection hr with hr
    subst hr
    obtain ⟨e1,g1⟩:=qaq.int rx
    obtain ⟨e2,g2⟩:=qaq.int ry
    rw [e1,e2]
    obtain ⟨v,h1,h2⟩:=qtM (P:=C.P) (w:=w) (F:=C.free w own) g1 g2 (by simpa using hk) hcr t
    exact ⟨v,h1,qh7 (.inl ⟨_,_,rfl⟩),h2⟩
   ·cases hr
  ·obtain ⟨e1,g1⟩:=qaq.str rx
   obtain ⟨e2,g2⟩:=qaq.str ry
   rw [e1,e2]
   obtain ⟨v,h1,h2⟩:=quy (P:=C.P) (w:=w) (F:=C.free w own) g1 g2 hr hcr t
   exact ⟨v,h1,qh7 (.inr (.inl ⟨_,rfl⟩)),h2⟩
  ·split at hr
   ·rename_i hty
    have hu:=hE.bool t hty
    have e1:=qaq.bool rx
    have e2:=qaq.bool ry
    rw [e1,e2]
    split at hr
    ·injection hr with hr
     subst hr
     exact ⟨_,run_eql_bool w t _ _ hu,qh7 (.inr (.inr ⟨_,rfl⟩)),.bool,_,rfl,by rw [qnp]; exact qaq.ofBool _ _ _⟩
    ·injection hr with hr
     subst hr
     exact ⟨_,run_neq_bool w t _ _ hu,qh7 (.inr (.inr ⟨_,rfl⟩)),.bool,_,rfl,by rw [qnp]; exact qaq.ofBool _ _ _⟩
    ·cases hr
   ·cases hr
  ·split at hr
   case isFalse=>cases hr
   rename_i hcond
   obtain ⟨c1,c2,c3⟩:=hcond
   have hq:=hE.eq t _ c2 c3
   split at hr
   case h_2=>cases hr
   rename_i b' hb'
   obtain ⟨e1,e2⟩:=Ty.as_some hb'
   subst e1
   have e2:_=b':=e2
   subst e2
   obtain ⟨r1,ra,_⟩:=rx
   obtain ⟨r2,rb,_⟩:=ry
   obtain ⟨xs,hxs⟩:=ra c1
   obtain ⟨ys,hys⟩:=rb c1
   rw [hxs] at r1
   rw [hys] at r2
   have hrun:=hq.run w _ _ _ _ _ _ r1 r2
   have mk:∀zs:Array Value,mkV _ (Value.agg zs).cells.toList=Value.agg zs:=fun zs=>by
    rw [mkV,if_pos c1]
    simp [Value.cells]
   rw [mk,mk] at hrun
   rw [hxs,hys]
   split at hr
   ·injection hr with hr
    subst hr
    exact ⟨_,by rw [run_eql_struct,hrun]; rfl,run_eqGuard_agg w _ _ _ _ _ _ hq.guard,.bool,_,rfl,qaq.ofBool _ _ _⟩
   ·injection hr with hr
    subst hr
    exact ⟨_,by rw [run_neq_struct,hrun]; rfl,run_eqGuard_agg w _ _ _ _ _ _ hq.guard,.bool,_,rfl,qaq.ofBool _ _ _⟩
   ·cases hr
 split at he
 ·rename_i r c hr
  have:=Q.ret_some he
  subst this
  obtain ⟨v,h1,h2,u,z,h4,h5⟩:=key (r,c) hr hc
  subst h4
  refine qaY h ?_ hd h5
  unfold execOp
  rw [hop]
  simp [Sem.run_bind,h2,h1]
 ·cases he
theorem qs7 (h:qag C σ a.tmps w own) (hp:qbL (sit C σ a.tmps w own) p) {op:UnOp} {t:Nat} {x:Operand} (hop:o.op= .unOp op t x) {f:Eff}
  (he:(qee E p o).run (qt σ)=some f) (hd:∀u∈f.upd,u.s<σ.length) (hc:qd3 f.chk):qdT C o a w (qr σ f.upd):=by
 unfold qee at he
 rw [hop] at he
 obtain ⟨x1,hx,he⟩:=Q.bind_some he
 obtain ⟨xr,hxr,he⟩:=Q.bind_some he
 have rx:=qde h (qaE h hp hx) hxr
 split at he
 ·rename_i av hav
  have:=qL he
  subst this
  unfold unE at hav
  split at hav
  ·obtain ⟨e1,g1⟩:=qaq.int rx
   injection hav with hav
   subst hav
   refine qaY h ?_ hd (qaq.ofInt _ _ (by rw [qnr]; exact qdc _ _))
   unfold execOp
   rw [hop]
   simp [e1,Op.unary,Op.intArith,qnr]
  ·have e1:=qaq.bool rx
   injection hav with hav
   subst hav
   refine qaY h ?_ hd (qaq.ofBool _ _ _)
   unfold execOp
   rw [hop]
   simp [e1,Op.unary]
  ·obtain ⟨e1,g1⟩:=qaq.int rx
   injection hav with hav
   subst hav
   refine qaY h ?_ hd (qaq.ofInt _ _ (by rw [qkX]; exact qdc _ _))
   unfold execOp
   rw [hop]
   simp [e1,Op.unary,Op.intBits,qkX]
  ·cases hav
 ·cases he
theorem qos (hE:qbG E C.P) (h:qag C σ a.tmps w own) (hp:qbL (sit C σ a.tmps w own) p) {s d:Nat} {x:Operand} (hop:o.op= .convert s d x) {f:Eff}
  (he:(qee E p o).run (qt σ)=some f) (hd:∀u∈f.upd,u.s<σ.length) (hc:qd3 f.chk):qdT C o a w (qr σ f.upd):=by
 unfold qee at he
 rw [hop] at he
 obtain ⟨x1,hx,he⟩:=Q.bind_some he
 have ho:=qaE h hp hx
 unfold convE at he
 split at he
 ·rename_i k0 k h1 h2
  obtain ⟨n,hn,he⟩:=Q.bind_some he
  have:=qL he
  subst this
  obtain ⟨e1,g1⟩:=qef h ho hn
  refine qaY h ?_ hd (qaq.ofInt _ _ (by rw [qeu]; exact qdc _ _))
  unfold execOp
  rw [hop]
  simp [e1,convert,run_underlying (hE.int s _ h1),run_underlying (hE.int d _ h2),Conv.intToInt,qeu]
 ·rename_i h1 h2
  obtain ⟨n,hn,he⟩:=Q.bind_some he
  have:=qL he
  subst this
  have rx:=qcS h ho hn
  obtain ⟨e1,g1⟩:=qaq.str rx
  refine qaY h ?_ hd (qaq.ofStr _ _ g1)
  unfold execOp
  rw [hop]
  simp [e1,convert,run_underlying (hE.str s h1),run_underlying (hE.str d h2)]
 ·rename_i h1 h2
  split at he
  case isFalse=>cases he
  rename_i h3
  obtain ⟨n,hn,he⟩:=Q.bind_some he
  have:=qL he
  subst this
  have rx:=qcS h ho hn
  have hu:=(hE.elem s _ h1).under
  have hel:=hE.int _ _ h3
  have hst:=hE.str d h2
  rcases qaq.slice rx with ⟨e1,e2⟩|⟨ad,cap,e1,e2,e3,e4⟩
  ·have e2:n.1=[]:=e2
   refine qaY (v:= .string ⟨List.toArray []⟩) h ?_ hd ?_
   ·unfold execOp
    rw [hop]
    simp only [e1,Sem.run_bind]
    rw [run_convert_bytes_nil w s _ hu hel _ _ d hst]
    rfl
   ·rw [e2,qlN]
    exact qaq.ofStr _ _ (Nat.zero_le _)
  ·refine qaY (v:= .string ⟨(qui n.1).toArray⟩) h ?_ hd (qaq.ofStr _ _ ?_)
   ·have hcs:qgJ w ad (n.1.map (Value.int .u8)):=by
     intro j u hj
     rw [List.getElem?_map] at hj
     obtain ⟨z,hz,rfl⟩:=Option.map_eq_some_iff.1 hj
     obtain ⟨_,_,cs,q1,q2⟩:=e4 j z hz
     have q2:cs=[.int .u8 z]:=q2.1
     subst q2
     have:=q1 0 _ rfl
     rw [qaB] at this
     simpa [Ty.size] using this
    have hl:=run_loadCells_list (P:=C.P) w ad _ hcs
    rw [List.length_map] at hl
    unfold execOp
    rw [hop]
    simp only [e1,Sem.run_bind]
    rw [run_convert_bytes_string w s d _ (some ad) _ cap hu hel hst,run_bytesToString w ad _ cap n.1 hl,foldl_push_bytes]
    rw [qlN]
    simp [ByteArray.empty,ByteArray.emptyWithCapacity]
    rfl
   ·rw [qlN,List.length_map]
    exact Nat.le_trans e2 e3
 ·rename_i h1 h2
  split at he
  case isFalse=>cases he
  rename_i h3
  obtain ⟨n,hn,he⟩:=Q.bind_some he
  have:=qL he
  subst this
  obtain ⟨e1,g1⟩:=qaq.str (qcS h ho hn)
  have hu:=(hE.elem d _ h2).under
  have hel:=hE.int _ _ h3
  have hss:(⟨n.1.toArray⟩:ByteArray).size=n.1.length:=by simp [ByteArray.size]
  have hrun:=Lib.run_convert_string_bytes (P:=C.P) w s d _ ⟨n.1.toArray⟩ (hE.str s h1) hu hel
  have hsize:=Lib.bytesWorld_size w (E.etid d) ⟨n.1.toArray⟩
  have hold:=Lib.bytesWorld_at_old w (E.etid d) ⟨n.1.toArray⟩
  have hkept:qcx (fun _=>False) w (Lib.bytesWorld w (E.etid d) ⟨n.1.toArray⟩):=⟨rfl,rfl,rfl,by rw [hsize]; omega,fun k hk _=>hold k hk⟩
  refine qK (v:= .slice (some ⟨w.heap.size,0,none⟩) n.1.length (grownCap w n.1.length 0 (E.etid d))) (w':=Lib.bytesWorld w (E.etid d) ⟨n.1.toArray⟩) ?_ (h.dst (bs:=[]) hkept hd (fun b hb=>by cases hb) List.nodup_nil ⟨rfl,?_⟩ (fun m hm=>by cases hm))
  ·unfold execOp
   rw [hop]
   simp only [e1,Sem.run_bind,hrun,hss]
   rfl
  ·have hl:(qeL n.1).length=n.1.length:=by rw [qdj]; simp
   refine qaq.ofSlice (.inr ⟨⟨w.heap.size,0,none⟩,_,by rw [hl],by rw [hl]; exact grownCap_ge _ _ _ _,grownCap_le_maxLen _ _ _ _ g1,fun i x hi=> ?_⟩)
   refine ⟨⟨.inr (Nat.le_refl _),by show w.heap.size<(Lib.bytesWorld w (E.etid d) ⟨n.1.toArray⟩).heap.size; rw [hsize]; omega,by simp⟩,by show w.heap.size<(Lib.bytesWorld w (E.etid d) ⟨n.1.toArray⟩).heap.size; rw [hsize]; omega,[.int .u8 x],?_,rfl,?_⟩
   ·rw [qdj,List.getElem?_map] at hi
    obtain ⟨z,hz,rfl⟩:=Option.map_eq_some_iff.1 hi
    have hlt:=(List.getElem?_eq_some_iff.1 hz).1
    intro j u hj
    cases j with
    |succ j=>simp at hj
    |zero=>
     simp at hj
     subst hj
     have:=Lib.bytesWorld_cell w (E.etid d) ⟨n.1.toArray⟩ i (by rw [hss]; exact hlt)
     have ea:((⟨w.heap.size,0,none⟩:Addr).add (i * (Ty.int .u8).size)).add 0=⟨w.heap.size,i,none⟩:=by
      rw [qaB,qaK]
      simp [Ty.size]
     rw [ea,qe9]
     refine Eq.trans this ?_
     simp [List.getD,hz]
   ·rw [qdj,List.getElem?_map] at hi
    obtain ⟨z,hz,rfl⟩:=Option.map_eq_some_iff.1 hi
    rw [qe9]
    have:=z.toNat_lt
    simp [IntKind.has,IntKind.min,IntKind.max,IntKind.signed,IntKind.bits]
    omega
 ·cases he
theorem TyB.run_part {P:Program} {t:Nat} {u:Ty} (h:TyB P t u) {cs:List Value} {off:Nat} (hl:off+u.size≤cs.length):(part t cs.toArray off).run P w= .ok (mkV u ((cs.drop off).take u.size)) w:=by
 simp only [part,Sem.run_bind,h.run_isAgg,Result.andThen_ok]
 cases hu:u.agg with
 |true=>
  simp only [if_true,Sem.run_bind,h.run_sizeOf,Result.andThen_ok,Sem.run_pure,mkV,hu]
  congr 2
  apply Array.ext'
  simp [List.extract_eq_take_drop]
 |false=>
  have hs:u.size=1:=by cases u <;> simp [Ty.agg] at hu <;> rfl
  have hlt:off<cs.length:=by omega
  simp only [Bool.false_eq_true,if_false,mkV,hu,hs]
  rw [show cs.toArray[off]? =some cs[off] from by simp [hlt],List.drop_eq_getElem_cons hlt]
  simp only [Sem.run_pure]
  rfl
theorem qrh (hE:qbG E C.P) (h:qag C σ a.tmps w own) (hp:qbL (sit C σ a.tmps w own) p) {t:Nat} {x ix:Operand} (hop:o.op= .index t x ix) {f:Eff}
  (he:(qee E p o).run (qt σ)=some f) (hd:∀u∈f.upd,u.s<σ.length) (hc:qd3 f.chk):qdT C o a w (qr σ f.upd):=by
 unfold qee at he
 rw [hop] at he
 obtain ⟨x1,hx,he⟩:=Q.bind_some he
 obtain ⟨i1,hi,he⟩:=Q.bind_some he
 obtain ⟨i,hn,he⟩:=Q.bind_some he
 obtain ⟨xr,hxr,he⟩:=Q.bind_some he
 have rx:=qde h (qaE h hp hx) hxr
 obtain ⟨e2,g2⟩:=qef h (qaE h hp hi) hn
 split at he
 ·rename_i xs _
  split at he
  ·rename_i hty
   have:=Q.ret_some he
   subst this
   obtain ⟨e1,g1⟩:=qaq.str rx
   have hb:0≤i.2∧i.2<xs.length:=by
    have:=hc _ (List.mem_singleton.2 rfl)
    simp [qcz,qi] at this
    exact this
   have hlt:i.2.toNat<xs.length:=by omega
   refine qaY h (v:= .int .u8 (qcc (qh xs i.2 0))) ?_ hd (qaq.ofInt _ _ ?_)
   ·unfold execOp
    rw [hop]
    simp only [e1,e2,Sem.run_bind]
    rw [run_index_string w t _ i.1 i.2 (hE.str t hty),dif_pos (by exact ⟨hb.1,by show i.2<(xs.toArray.size:Int); simpa using hb.2⟩)]
    have:qh xs i.2 0=xs[i.2.toNat]:=qgy (List.getElem?_eq_getElem hlt)
    simp only [Result.andThen_ok,Sem.run_pure,qe9,this]
    rfl
   ·have:=(qh xs i.2 0).toNat_lt
    simp [IntKind.has,IntKind.min,IntKind.max,IntKind.signed,IntKind.bits,qe9]
    omega
  ·cases he
 ·rename_i n e xs
  split at he
  case isFalse=>cases he
  rename_i hty
  have:=Q.ret_some he
  subst this
  have hb:0≤i.2∧i.2<(n:Int):=by
   have:=hc _ (List.mem_singleton.2 rfl)
   simp [qcz] at this
   exact this
  obtain ⟨r1,r2,_⟩:=rx
  obtain ⟨cs,hcs⟩:=r2 rfl
  have r1:Rep w _ (.arr n e) xs (a.eval x).cells.toList:=r1
  rw [hcs] at r1
  have r1:Rep w (C.free w own) (.arr n e) xs cs.toList:=by
   refine r1.keep fun b hb hs=>⟨?_,hs,rfl⟩
   rcases hb with hb|⟨s,hs,_⟩
   ·exact hb
   ·cases hs
  obtain ⟨z,k1,k2,k3⟩:=r1.elem (i:=i.2.toNat) (by omega)
  refine qaY h (v:=mkV e ((cs.toList.drop (i.2.toNat * e.size)).take e.size)) ?_ hd (.ofCells (by rw [qgy k1]; exact k2))
  unfold execOp
  rw [hop]
  have hsz:=congrFun (hE.size t e (.inr ⟨n,hty.1⟩)) w
  have hpt:=(hE.ty _ _ hty.2).run_part (w:=w) (cs:=cs.toList) (off:=i.2.toNat * e.size) k3
  simp only [Array.toArray_toList] at hpt
  simp only [Sem.run_bind,Instr.index,e2,asIntOf,Sem.run_pure,Result.andThen_ok,run_underlying (hE.arr t n e hty.1),hcs]
  rw [if_pos hb]
  simp only [Sem.run_bind,hsz,Result.andThen_ok,hpt,Sem.run_pure]
 ·cases he
end
end Go.Vi
