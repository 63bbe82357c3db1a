/- The abstract interpreter: what a value reads as in memory. -/
import Derived.Test.YtfcdfdnlgfebmaaGreatDoorViEval
import Derived.Below
import Derived.Laws.AppendOwn
set_option linter.unusedVariables false
set_option linter.unusedSimpArgs false
set_option linter.unnecessarySimpa false
set_option linter.unusedSectionVars false
namespace Go.Vi
theorem qaK (b off n:Nat):(⟨b,off,none⟩:Addr).add n=⟨b,off+n,none⟩:=by
 unfold Addr.add
 split
 ·subst_vars; rfl
 ·rfl
theorem qaB (a:Addr) (i j:Nat):(a.add i).add j=a.add (i+j):=by
 unfold Addr.add
 by_cases hi:i=0 <;> by_cases hj:j=0 <;> simp [hi,hj,Nat.add_assoc]
theorem qT (a:Addr) (n:Nat):(a.add n).block=a.block:=by unfold Addr.add; split <;> rfl
def qgJ (w:World) (a:Addr) (cs:List Value):Prop:=∀j u,cs[j]? =some u→w.cell? (a.add j)=some u
def qeg {α:Type} (w:World) (F:Nat→Prop) (R:α→List Value→Prop) (sz:Nat) (xs:List α) (v:Value):Prop:=
 (v= .slice none 0 0∧xs=[])∨
 ∃a cap,v= .slice (some a) xs.length cap∧xs.length≤cap∧cap≤maxLen∧
  ∀i x,xs[i]? =some x→F a.block∧a.block<w.heap.size∧∃cs,qgJ w (a.add (i * sz)) cs∧R x cs
def qsN {α:Type} (w:World) (F:Nat→Prop) (R:α→List Value→Prop) (x:Option α) (v:Value):Prop:=
 (x=none∧v= .pointer none)∨∃y a cs,x=some y∧v= .pointer (some a)∧F a.block∧a.block<w.heap.size∧qgJ w a cs∧R y cs
def Rep (w:World) (F:Nat→Prop):(t:Ty)→t.den→List Value→Prop
 | .int k,n,cs=>cs=[.int k n]∧k.has n
 | .bool,b,cs=>cs=[.bool b]
 | .str,s,cs=>cs=[.string ⟨s.toArray⟩]∧s.length≤maxLen
 | .unit,_,cs=>cs=[]
 | .pair a b,x,cs=>∃c1 c2,cs=c1++c2∧Rep w F a x.1 c1∧Rep w F b x.2 c2
 | .slice e,xs,cs=>∃v,cs=[v]∧qeg w F (Rep w F e) e.size xs v
 | .opt e,x,cs=>∃v,cs=[v]∧qsN w F (Rep w F e) x v
 | .map _ _,_,_=>False
 | .err,b,cs=>∃v,cs=[v]∧((b=true∧v= .nilIface)∨(b=false∧∃t x,v= .iface t x))
 | .arr n e,xs,cs=>xs.length=n∧∃css:List (List Value),css.length=n∧cs=css.flatten∧∀(i:Nat) (x:e.den) (c:List Value),xs[i]? =some x→css[i]? =some c→Rep w F e x c
theorem qeb {css:List (List Value)} {sz:Nat} (h:∀c∈css,c.length=sz):css.flatten.length=css.length * sz:=by
 induction css with
 |nil=>simp
 |cons c r ih=>
  rw [List.flatten_cons,List.length_append,h c (by simp),ih (fun c hc=>h c (by simp [hc])),List.length_cons,Nat.add_mul,Nat.one_mul,Nat.add_comm]
theorem Rep.length {w:World} {F:Nat→Prop} : {t:Ty} → {x:t.den} → {cs:List Value} →Rep w F t x cs→cs.length=t.size
 | .int _,_,_,h=>by rw [h.1]; rfl
 | .bool,_,_,h=>by rw [show _=_ from h]; rfl
 | .str,_,_,h=>by rw [h.1]; rfl
 | .unit,_,_,h=>by rw [show _=_ from h]; rfl
 | .pair a b,_,_,⟨c1,c2,hc,h1,h2⟩=>by rw [hc,List.length_append,h1.length,h2.length]; rfl
 | .slice _,_,_,⟨v,hc,_⟩=>by rw [hc]; rfl
 | .err,_,_,⟨v,hc,_⟩=>by rw [hc]; rfl
 | .opt _,_,_,⟨v,hc,_⟩=>by rw [hc]; rfl
 | .map _ _,_,_,h=>h.elim
 | .arr n e,xs,_,⟨hl,css,hcl,hc,hx⟩=>by
  rw [hc,qeb (sz:=e.size),hcl]
  ·rfl
  ·intro c hm
   obtain ⟨i,hi,rfl⟩:=List.getElem_of_mem hm
   have hix:i<xs.length:=by omega
   exact (hx i xs[i] css[i] (List.getElem?_eq_getElem hix) (List.getElem?_eq_getElem hi)).length
theorem Rep.keep {w w':World} {F F':Nat→Prop} (hF:∀b,F b→b<w.heap.size→F' b∧b<w'.heap.size∧w'.heap[b]? =w.heap[b]?):
  {t:Ty} → {x:t.den} → {cs:List Value} →Rep w F t x cs→Rep w' F' t x cs
 | .int _,_,_,h=>h
 | .bool,_,_,h=>h
 | .str,_,_,h=>h
 | .err,_,_,h=>h
 | .unit,_,_,h=>h
 | .map _ _,_,_,h=>h.elim
 | .opt e,x,_,⟨v,hc,h⟩=>⟨v,hc,by
   rcases h with h|⟨y,a,cs,h1,h2,h3,h4,h5,h6⟩
   ·exact .inl h
   ·obtain ⟨g1,g2,g3⟩:=hF _ h3 h4
    exact .inr ⟨y,a,cs,h1,h2,g1,g2,fun j u hu=>by
     rw [←h5 j u hu]
     exact World.cell?_of_block (by rw [qT]; exact g3),h6.keep hF⟩⟩
 | .pair a b,_,_,⟨c1,c2,hc,h1,h2⟩=>⟨c1,c2,hc,h1.keep hF,h2.keep hF⟩
 | .slice e,xs,_,⟨v,hc,h⟩=>⟨v,hc,by
   rcases h with h|⟨a,cap,hv,hl,hm,hx⟩
   ·exact .inl h
   ·refine .inr ⟨a,cap,hv,hl,hm,fun i x hi=> ?_⟩
    obtain ⟨h1,h2,cs,h3,h4⟩:=hx i x hi
    obtain ⟨g1,g2,g3⟩:=hF _ h1 h2
    refine ⟨g1,g2,cs,fun j u hu=> ?_,h4.keep hF⟩
    rw [←h3 j u hu]
    exact World.cell?_of_block (by rw [qT,qT]; exact g3)⟩
 | .arr n e,xs,_,⟨hl,css,hcl,hc,hx⟩=>⟨hl,css,hcl,hc,fun i x c hi hci=>(hx i x c hi hci).keep hF⟩
theorem Rep.flat {w w':World} {F F':Nat→Prop} : {t:Ty} → {x:t.den} → {cs:List Value} →t.flat=true→Rep w F t x cs→Rep w' F' t x cs
 | .int _,_,_,_,h=>h
 | .bool,_,_,_,h=>h
 | .str,_,_,_,h=>h
 | .err,_,_,_,h=>h
 | .unit,_,_,_,h=>h
 | .pair a b,_,_,hf,⟨c1,c2,hc,h1,h2⟩=>by
  have hf:a.flat=true∧b.flat=true:=by simpa [Ty.flat] using hf
  exact ⟨c1,c2,hc,h1.flat hf.1,h2.flat hf.2⟩
 | .slice _,_,_,hf,_=>by simp [Ty.flat] at hf
 | .opt _,_,_,hf,_=>by simp [Ty.flat] at hf
 | .map _ _,_,_,hf,_=>by simp [Ty.flat] at hf
 | .arr n e,xs,_,hf,⟨hl,css,hcl,hc,hx⟩=>⟨hl,css,hcl,hc,fun i x c hi hci=>(hx i x c hi hci).flat hf⟩
theorem Ty.as_some {t u:Ty} {x:t.den} {y:u.den} (h:Ty.as u x=some y):∃e:t=u,e ▸ x=y:=by
 unfold Ty.as at h
 split at h
 ·rename_i e
  exact ⟨e,by injection h⟩
 ·cases h
theorem Rep.as {w:World} {F:Nat→Prop} {t u:Ty} {x:t.den} {y:u.den} {cs:List Value} (h:Ty.as u x=some y) (hr:Rep w F t x cs):Rep w F u y cs:=by
 obtain ⟨rfl,rfl⟩:=Ty.as_some h
 exact hr
theorem qbA {css:List (List Value)} {sz i:Nat} {c:List Value} (h:∀c∈css,c.length=sz) (hi:css[i]? =some c):
  (css.flatten.drop (i * sz)).take sz=c∧i * sz+sz≤css.flatten.length:=by
 induction css generalizing i with
 |nil=>simp at hi
 |cons d r ih=>
  have hd:d.length=sz:=h d (by simp)
  cases i with
  |zero=>
   simp at hi
   subst hi
   simp [hd]
  |succ i=>
   simp at hi
   have:=ih (fun c hc=>h c (by simp [hc])) hi
   rw [List.flatten_cons,Nat.add_mul,Nat.one_mul]
   refine ⟨?_,?_⟩
   ·rw [show i * sz+sz=d.length+i * sz from by omega,List.drop_append]
    simp only [List.drop_of_length_le (show d.length≤d.length+i * sz by omega),List.nil_append,show d.length+i * sz - d.length=i * sz by omega]
    exact this.1
   ·rw [List.length_append,hd]
    omega
theorem qd8 {c1 c2:List Value} {off n:Nat} (h:off+n≤c1.length):((c1++c2).drop off).take n=(c1.drop off).take n:=by
 rw [List.drop_append,List.take_append]
 simp only [List.length_drop]
 rw [show n - (c1.length - off)=0 by omega]
 simp
theorem qdw {c1 c2:List Value} {off n:Nat} (h:c1.length≤off):((c1++c2).drop off).take n=(c2.drop (off - c1.length)).take n:=by
 rw [List.drop_append,List.drop_of_length_le h,List.nil_append]
theorem qrI {α:Type} {xs:List α} {i:Nat} {d x:α} (h:xs[i]? =some x):xs.getD i d=x:=by simp [List.getD,h]
theorem qgy {α:Type} {xs:List α} {i:Int} {d x:α} (h:xs[i.toNat]? =some x):qh xs i d=x:=by simp [qb8,List.getD,h]
theorem Ty.whole_some {t u:Ty} {x:t.den} {off:Nat} {y:u.den} (h:Ty.whole u x off=some y):off=0∧Ty.as u x=some y:=by
 unfold Ty.whole at h
 split at h
 ·exact ⟨by assumption,h⟩
 ·cases h
theorem Ty.whole_self (t:Ty) (x:t.den):Ty.whole (t:=t) t x 0=some x:=by simp [Ty.whole,Ty.as]
theorem Ty.sub_self:(t:Ty)→(x:t.den)→t.sub x 0 t=some x
 | .int k,x=>Ty.whole_self (.int k) x
 | .bool,x=>Ty.whole_self .bool x
 | .str,x=>Ty.whole_self .str x
 | .unit,x=>Ty.whole_self .unit x
 | .slice e,x=>Ty.whole_self (.slice e) x
 | .err,x=>Ty.whole_self .err x
 | .opt e,x=>Ty.whole_self (.opt e) x
 | .map k v,x=>Ty.whole_self (.map k v) x
 | .pair a b,x=>by simp only [Ty.sub,Ty.whole_self]
 | .arr n e,x=>by simp only [Ty.sub,Ty.whole_self]
theorem Rep.whole {w:World} {F:Nat→Prop} {t u:Ty} {x:t.den} {off:Nat} {y:u.den} {cs:List Value} (hr:Rep w F t x cs) (h:Ty.whole u x off=some y):
  off+u.size≤cs.length∧Rep w F u y ((cs.drop off).take u.size):=by
 obtain ⟨rfl,h⟩:=Ty.whole_some h
 have hr:=Rep.as h hr
 have:=hr.length
 exact ⟨by omega,by rw [List.drop_zero,List.take_of_length_le (by omega)]; exact hr⟩
theorem qqP {α:Type} {xs:List α} {k n:Nat} (hk:k<n) (hl:xs.length=n) (d:α):qh xs (Int.ofNat k) d=xs[k]'(by omega):=by
 have:xs[(Int.ofNat k).toNat]? =some (xs[k]'(by omega)):=by
  rw [show (Int.ofNat k).toNat=k from rfl]
  exact List.getElem?_eq_getElem (by omega)
 exact qgy this
theorem qk8 {w:World} {F:Nat→Prop} {e:Ty} {xs:List e.den} {css:List (List Value)} (hl:xs.length=css.length)
  (hx:∀(i:Nat) (x:e.den) (c:List Value),xs[i]? =some x→css[i]? =some c→Rep w F e x c):∀c∈css,c.length=e.size:=by
 intro c hm
 obtain ⟨i,hi,rfl⟩:=List.getElem_of_mem hm
 exact (hx i (xs[i]'(by omega)) css[i] (List.getElem?_eq_getElem (by omega)) (List.getElem?_eq_getElem hi)).length
theorem Rep.sub {w:World} {F:Nat→Prop} : {t:Ty} → {x:t.den} → {cs:List Value} → {off:Nat} → {u:Ty} → {y:u.den} →Rep w F t x cs→t.sub x off u=some y→
  off+u.size≤cs.length∧Rep w F u y ((cs.drop off).take u.size)
 | .int _,_,_,_,_,_,h,hs=>h.whole hs
 | .bool,_,_,_,_,_,h,hs=>h.whole hs
 | .str,_,_,_,_,_,h,hs=>h.whole hs
 | .unit,_,_,_,_,_,h,hs=>h.whole hs
 | .slice e,_,_,_,_,_,h,hs=>h.whole hs
 | .err,_,_,_,_,_,h,hs=>Rep.whole (t:= .err) h hs
 | .opt e,_,_,_,_,_,h,hs=>Rep.whole (t:= .opt e) h hs
 | .map _ _,_,_,_,_,_,h,_=>h.elim
 | .pair a b,x,cs,off,u,y,h,hs=>by
  simp only [Ty.sub] at hs
  cases hz:Ty.whole (t:= .pair a b) u x off with
  |some z=>
   rw [hz] at hs
   injection hs with hs; subst hs
   exact Rep.whole h hz
  |none=>
   rw [hz] at hs
   obtain ⟨c1,c2,rfl,h1,h2⟩:=h
   simp only at hs
   split at hs
   ·obtain ⟨g1,g2⟩:=h1.sub hs
    exact ⟨by rw [List.length_append]; omega,by rw [qd8 g1]; exact g2⟩
   ·obtain ⟨g1,g2⟩:=h2.sub hs
    have hl:=h1.length
    exact ⟨by rw [List.length_append]; omega,by rw [qdw (by omega),hl]; exact g2⟩
 | .arr n e,xs,cs,off,u,y,h,hs=>by
  simp only [Ty.sub] at hs
  cases hz:Ty.whole (t:= .arr n e) u xs off with
  |some z=>
   rw [hz] at hs
   injection hs with hs; subst hs
   exact Rep.whole h hz
  |none=>
   rw [hz] at hs
   simp only at hs
   split at hs
   ·rename_i hlt
    obtain ⟨hl,css,hcl,rfl,hx⟩:=h
    have hpos:0<e.size:=by
     rcases Nat.eq_zero_or_pos e.size with h0|h0
     ·rw [h0,Nat.mul_zero] at hlt; omega
     ·exact h0
    have hidx:off / e.size<n:=by rw [Nat.div_lt_iff_lt_mul hpos]; exact hlt
    rw [qqP hidx hl] at hs
    have hc:css[off / e.size]? =some (css[off / e.size]'(by omega)):=List.getElem?_eq_getElem (by omega)
    have hre:=hx (off / e.size) _ _ (List.getElem?_eq_getElem (by omega)) hc
    obtain ⟨g1,g2⟩:=hre.sub hs
    have hall:=qk8 (by omega) hx
    obtain ⟨k1,k2⟩:=qbA hall hc
    have hdm:off=off / e.size * e.size+off % e.size:=by rw [Nat.mul_comm]; exact (Nat.div_add_mod off e.size).symm
    have hcl':(css[off / e.size]'(by omega)).length=e.size:=hall _ (List.getElem_mem _)
    rw [hcl'] at g1
    refine ⟨by omega,?_⟩
    have:(css.flatten.drop off).take u.size=(((css.flatten.drop (off / e.size * e.size)).take e.size).drop (off % e.size)).take u.size:=by
     rw [List.drop_take,List.drop_drop,List.take_take,←hdm,Nat.min_eq_left (by omega)]
    rw [this,k1]
    exact g2
   ·cases hs
theorem qn3 {c1 c2 ds:List Value} {off n:Nat} (h:off+n≤c1.length) (hd:ds.length=n):
  (c1++c2).take off++ds++(c1++c2).drop (off+n)=(c1.take off++ds++c1.drop (off+n))++c2:=by
 rw [List.take_append_of_le_length (by omega),List.drop_append_of_le_length (by omega)]
 simp [List.append_assoc]
theorem qlT {c1 c2 ds:List Value} {off n:Nat} (h:c1.length≤off):
  (c1++c2).take off++ds++(c1++c2).drop (off+n)=c1++(c2.take (off - c1.length)++ds++c2.drop (off - c1.length+n)):=by
 rw [List.take_append,List.drop_append,List.take_of_length_le h,List.drop_of_length_le (by omega)]
 simp only [List.nil_append,List.append_assoc]
 rw [show off+n - c1.length=off - c1.length+n by omega]
theorem qoW {l ds:List Value} {q r n sz:Nat} (h:q+sz≤l.length) (hn:r+n≤sz) (hd:ds.length=n):
  l.take (q+r)++ds++l.drop (q+r+n)=l.take q++(((l.drop q).take sz).take r++ds++((l.drop q).take sz).drop (r+n))++l.drop (q+sz):=by
 have hA:(l.take q).length=q:=by rw [List.length_take]; omega
 have hB:((l.drop q).take sz).length=sz:=by rw [List.length_take,List.length_drop]; omega
 have hl:l=l.take q++((l.drop q).take sz++l.drop (q+sz)):=by
  rw [←List.drop_drop,List.take_append_drop,List.take_append_drop]
 have e1:= @qlT (l.take q) ((l.drop q).take sz++l.drop (q+sz)) ds (q+r) n (by omega)
 have e2:= @qn3 ((l.drop q).take sz) (l.drop (q+sz)) ds r n (by omega) hd
 rw [←hl,hA,show q+r - q=r by omega,e2] at e1
 rw [e1]
 simp [List.append_assoc]
theorem Rep.putWhole {w:World} {F:Nat→Prop} {t u:Ty} {x:t.den} {off:Nat} {y:u.den} {z:t.den} {cs ds:List Value} (hr:Rep w F t x cs) (hy:Rep w F u y ds) (h:Ty.whole (t:=u) t y off=some z):
  off+u.size≤cs.length∧Rep w F t z (cs.take off++ds++cs.drop (off+u.size)):=by
 obtain ⟨rfl,h⟩:=Ty.whole_some h
 obtain ⟨rfl,rfl⟩:=Ty.as_some h
 have:=hr.length
 exact ⟨by omega,by rw [List.take_zero,List.nil_append,List.drop_of_length_le (by omega),List.append_nil]; exact hy⟩
theorem qlJ {css:List (List Value)} {sz i:Nat} {d:List Value} (h:∀c∈css,c.length=sz) (hi:i<css.length):
  (css.set i d).flatten=css.flatten.take (i * sz)++d++css.flatten.drop (i * sz+sz):=by
 induction css generalizing i with
 |nil=>simp at hi
 |cons c r ih=>
  have hc:c.length=sz:=h c (by simp)
  cases i with
  |zero=>simp [hc]
  |succ i=>
   rw [List.set_cons_succ,List.flatten_cons,ih (fun c hc=>h c (by simp [hc])) (by simpa using hi),List.flatten_cons]
   rw [show (i+1) * sz=c.length+i * sz by rw [Nat.add_mul]; omega,List.take_append,List.drop_append]
   simp only [List.take_of_length_le (show c.length≤c.length+i * sz by omega),List.drop_of_length_le (show c.length≤c.length+i * sz+sz by omega),List.append_assoc,List.nil_append]
   rw [show c.length+i * sz - c.length=i * sz by omega,show c.length+i * sz+sz - c.length=i * sz+sz by omega]
theorem Rep.upd {w:World} {F:Nat→Prop} : {t:Ty} → {x:t.den} → {cs:List Value} → {off:Nat} → {u:Ty} → {y:u.den} → {z:t.den} → {ds:List Value} →Rep w F t x cs→Rep w F u y ds→t.upd x off u y=some z→
  off+u.size≤cs.length∧Rep w F t z (cs.take off++ds++cs.drop (off+u.size))
 | .int _,_,_,_,_,_,_,_,h,hy,hs=>h.putWhole hy hs
 | .bool,_,_,_,_,_,_,_,h,hy,hs=>h.putWhole hy hs
 | .str,_,_,_,_,_,_,_,h,hy,hs=>h.putWhole hy hs
 | .unit,_,_,_,_,_,_,_,h,hy,hs=>h.putWhole hy hs
 | .slice e,_,_,_,_,_,_,_,h,hy,hs=>h.putWhole hy hs
 | .err,_,_,_,_,_,_,_,h,hy,hs=>Rep.putWhole (t:= .err) h hy hs
 | .opt e,_,_,_,_,_,_,_,h,hy,hs=>Rep.putWhole (t:= .opt e) h hy hs
 | .map _ _,_,_,_,_,_,_,_,h,_,_=>h.elim
 | .pair a b,x,cs,off,u,y,z,ds,h,hy,hs=>by
  simp only [Ty.upd] at hs
  cases hz:Ty.whole (t:=u) (.pair a b) y off with
  |some z'=>
   rw [hz] at hs
   injection hs with hs; subst hs
   exact Rep.putWhole h hy hz
  |none=>
   rw [hz] at hs
   obtain ⟨c1,c2,rfl,h1,h2⟩:=h
   simp only at hs
   have hdl:=hy.length
   split at hs
   ·split at hs
    ·rename_i z' hz'
     injection hs with hs; subst hs
     obtain ⟨g1,g2⟩:=h1.upd hy hz'
     exact ⟨by rw [List.length_append]; omega,_,c2,qn3 g1 hdl,g2,h2⟩
    ·cases hs
   ·split at hs
    ·rename_i z' hz'
     injection hs with hs; subst hs
     obtain ⟨g1,g2⟩:=h2.upd hy hz'
     have hl:=h1.length
     rw [←hl] at g1 g2
     exact ⟨by rw [List.length_append]; omega,c1,_,qlT (by omega),h1,g2⟩
    ·cases hs
 | .arr n e,xs,cs,off,u,y,z,ds,h,hy,hs=>by
  simp only [Ty.upd] at hs
  cases hz:Ty.whole (t:=u) (.arr n e) y off with
  |some z'=>
   rw [hz] at hs
   injection hs with hs; subst hs
   exact Rep.putWhole h hy hz
  |none=>
   rw [hz] at hs
   simp only at hs
   split at hs
   ·rename_i hlt
    split at hs
    ·rename_i z' hz'
     injection hs with hs; subst hs
     obtain ⟨hl,css,hcl,rfl,hx⟩:=h
     have hpos:0<e.size:=by
      rcases Nat.eq_zero_or_pos e.size with h0|h0
      ·rw [h0,Nat.mul_zero] at hlt; omega
      ·exact h0
     have hidx:off / e.size<n:=by rw [Nat.div_lt_iff_lt_mul hpos]; exact hlt
     rw [qqP hidx hl] at hz'
     have hc:css[off / e.size]? =some (css[off / e.size]'(by omega)):=List.getElem?_eq_getElem (by omega)
     have hre:=hx (off / e.size) _ _ (List.getElem?_eq_getElem (by omega)) hc
     obtain ⟨g1,g2⟩:=hre.upd hy hz'
     have hall:=qk8 (by omega) hx
     obtain ⟨k1,k2⟩:=qbA hall hc
     have hdm:off=off / e.size * e.size+off % e.size:=by rw [Nat.mul_comm]; exact (Nat.div_add_mod off e.size).symm
     have hcl':(css[off / e.size]'(by omega)).length=e.size:=hall _ (List.getElem_mem _)
     rw [hcl'] at g1
     have hdl:=hy.length
     refine ⟨by omega,by simp [qcd,hl],css.set (off / e.size) ((css[off / e.size]'(by omega)).take (off % e.size)++ds++(css[off / e.size]'(by omega)).drop (off % e.size+u.size)),by simp [hcl],?_,?_⟩
     ·rw [qlJ hall (by omega)]
      have:=qoW (l:=css.flatten) (ds:=ds) (q:=off / e.size * e.size) (r:=off % e.size) (n:=u.size) (sz:=e.size) k2 (by omega) hdl
      rw [←hdm,k1] at this
      exact this
     ·intro i x' c' hi hc'
      simp only [qcd] at hi
      rw [show (Int.ofNat (off / e.size)).toNat=off / e.size from rfl] at hi
      by_cases he:off / e.size=i
      ·subst he
       rw [List.getElem?_set_self (by omega)] at hi hc'
       injection hi with hi; injection hc' with hc'
       subst hi; subst hc'
       exact g2
      ·rw [List.getElem?_set_ne he] at hi hc'
       exact hx i x' c' hi hc'
    ·cases hs
   ·cases hs
end Go.Vi
